import Derived.Test.YtmeemfdpfdcghaaGreatDoorTcA

/- The abstract evaluator: the model's code, run over abstract values and abstract memory. -/
namespace Go.Tc

/-- What a type's row tells. -/
structure TInfo where
  desc : TypeDesc
  size : Nat
  bytes : Nat
  zero : AV

noncomputable def TInfo.isAgg (i : TInfo) : Bool :=
  match i.desc with
  | .struct _ | .array _ _ => true
  | _ => false

/-- Functions without a Go body that are known here. -/
inductive AExt where
  | indexByte
  | count
  | f64bits
  | f64frombits
  | makeNoZero
  | noEscape

structure Tab where
  types : Tr TInfo
  funcs : Tr Func
  ext : Tr AExt

structure ADef where
  fn : Fn
  captured : List AV
  args : List AV

structure AAct where
  n : Nat
  t : Tr AV
  defers : List ADef

structure APan where
  v : AV
  recovered : Bool

inductive AExit where
  | normal
  | exit (id : Nat)
  | goto (l : Nat)
  | ret
  | panic (chain : List APan)

inductive AEnd where
  | returned (v : AV)
  | panicked (chain : List APan)

inductive AOut where
  | val (v : AV) (M : AMem)
  | skip (M : AMem)
  | defer (d : ADef)
  | panic (chain : List APan) (M : AMem)

noncomputable def aundef : AV := .tuple []

/-- A constant of the text. -/
noncomputable def absV : Value → Option AV
  | .bool b => some (.bool b)
  | .int k n => some (.int k n)
  | .float k b => some (.float k b)
  | .string s => some (.string s)
  | .pointer none => some .nilPtr
  | .slice none 0 0 => some .nilSlice
  | .map none => some .nilMap
  | .nilFunc => some .nilFunc
  | .nilIface => some .nilIface
  | _ => none

noncomputable def aeval (a : AAct) : Operand → Option AV
  | .tmp t => a.t.get t
  | .const v => absV v
  | .global _ => none
  | .func f => some (.func (.func f) [] [])

noncomputable def aevalL (a : AAct) : List Operand → Option (List AV)
  | [] => some []
  | x :: r => match aeval a x with
    | some v => match aevalL a r with
      | some l => some (v :: l)
      | none => none
    | none => none

mutual
/-- A value without a block in it. -/
noncomputable def flat : AV → Bool
  | .bool _ | .int _ _ | .float _ _ | .string _ | .nilPtr | .nilSlice | .nilMap | .nilFunc | .nilIface => true
  | .ptr _ _ | .slice .. | .map _ | .func .. => false
  | .iface _ v => flat v
  | .agg cs => flatL cs
  | .tuple vs => flatL vs
noncomputable def flatL : List AV → Bool
  | [] => true
  | v :: r => flat v && flatL r
end

noncomputable def rho0 : Rho := fun _ => none
noncomputable def cv (v : AV) : Value := conc rho0 v

/-- A run that neither looks at memory nor asks the tape. -/
noncomputable def evalPure {α : Type} (P : Program) : Sem α → Option α
  | .pure a => some a
  | .program k => evalPure P (k P)
  | .mark _ k => evalPure P k
  | _ => none

noncomputable def pureV (P : Program) (s : Sem Value) : Option AV :=
  match evalPure P s with
  | some v => absV v
  | none => none

noncomputable def AV.cells : AV → List AV
  | .agg cs => cs
  | v => [v]

noncomputable def AV.cell : AV → Bool
  | .agg _ | .tuple _ => false
  | _ => true

noncomputable def setRange (c : List AV) (o : Nat) (vs : List AV) : List AV := c.take o ++ vs ++ c.drop (o + vs.length)

noncomputable def takeCells (c : List AV) (o n : Nat) : Option (List AV) :=
  if o + n ≤ c.length then some ((c.drop o).take n) else none

noncomputable def partOf (i : TInfo) (c : List AV) (o : Nat) : Option AV :=
  if i.isAgg then (takeCells c o i.size).map .agg else c[o]?

noncomputable def aload (T : Tab) (M : AMem) (t : TypeId) (b o : Nat) : Option AV :=
  match T.types.get t, M.get b with
  | some i, some (.cells c _ _ _ _) => partOf i c o
  | _, _ => none

noncomputable def astore (T : Tab) (M : AMem) (t : TypeId) (b o : Nat) (v : AV) : Option AMem :=
  match T.types.get t, M.get b with
  | some i, some (.cells c e fz q ex) =>
    if v.cells.length = i.size ∧ o + i.size ≤ c.length ∧ fz ≤ o ∧ v.cells.all AV.cell = true then
      some (M.set b (.cells (setRange c o v.cells) e fz q ex))
    else none
  | _, _ => none

noncomputable def fieldPlaces (T : Tab) : List Field → Option (List (Nat × Nat))
  | [] => some []
  | fd :: r => match T.types.get fd.type with
    | some j => match fieldPlaces T r with
      | some l => some ((fd.offset, j.size) :: l)
      | none => none
    | none => none

noncomputable def fillA (place : Nat → Option (Nat × Nat)) : List AV → List (Nat × AV) → Option (List AV)
  | c, [] => some c
  | c, (f, v) :: r =>
    match place f with
    | some (off, size) => if v.cells.length = size ∧ off + size ≤ c.length then fillA place (setRange c off v.cells) r else none
    | none => none

noncomputable def aparts (a : AAct) : List (Nat × Operand) → Option (List (Nat × AV))
  | [] => some []
  | (f, x) :: r => match aeval a x with
    | some v => match aparts a r with
      | some l => some ((f, v) :: l)
      | none => none
    | none => none

noncomputable def abuild (T : Tab) (a : AAct) (t : TypeId) (parts : List (Nat × Operand)) : Option AV :=
  match T.types.get t with
  | some i => match aparts a parts with
    | some ps => match i.desc with
      | .struct fs => match fieldPlaces T fs.toList with
        | some l => (fillA (fun f => l[f]?) i.zero.cells ps).map .agg
        | none => none
      | .array _ e => match T.types.get e with
        | some j => (fillA (fun f => some (f * j.size, j.size)) i.zero.cells ps).map .agg
        | none => none
      | _ => none
    | none => none
  | none => none

noncomputable def isConstO : Operand → Bool
  | .const _ => true
  | _ => false

noncomputable def aeqPtr (T : Tab) (e : TypeId) : AV → AV → Option Bool
  | .nilPtr, .nilPtr => some true
  | .ptr _ _, .nilPtr => some false
  | .nilPtr, .ptr _ _ => some false
  | .ptr b o, .ptr b' o' => match T.types.get e with
    | some j => if b = b' ∧ j.size ≠ 0 then some (o == o') else none
    | none => none
  | _, _ => none

noncomputable def aeqSlice : AV → AV → Option Bool
  | .nilSlice, .nilSlice => some true
  | .slice .., .nilSlice => some false
  | .nilSlice, .slice .. => some false
  | _, _ => none

noncomputable def aeqMap : AV → AV → Option Bool
  | .nilMap, .nilMap => some true
  | .map _, .nilMap => some false
  | .nilMap, .map _ => some false
  | _, _ => none

noncomputable def aeqFunc : AV → AV → Option Bool
  | .nilFunc, .nilFunc => some true
  | .func .., .nilFunc => some false
  | .nilFunc, .func .. => some false
  | _, _ => none

noncomputable def aeqIface (c : Bool) : AV → AV → Option Bool
  | .nilIface, .nilIface => if c then some true else none
  | .iface .., .nilIface => some false
  | .nilIface, .iface .. => some false
  | _, _ => none

/-- Equality of two values of a type: of structs where neither holds a block; of pointers, slices, maps, functions and interface values against nil; of two pointers into one block. -/
noncomputable def aeqAt (P : Program) (T : Tab) (op : BinOp) (t : TypeId) (xo yo : Operand) (d : TypeDesc) (x y : AV) : Option Bool :=
  match d with
  | .pointer e => aeqPtr T e x y
  | .slice _ => aeqSlice x y
  | .map _ _ => aeqMap x y
  | .func _ _ _ => aeqFunc x y
  | .interface _ => aeqIface (isConstO xo || isConstO yo) x y
  | .struct _ => match x, y with
    | .agg cs, .agg ds => if flatL cs && flatL ds && (evalPure P (eqGuard op t xo yo (cv (.agg cs)) (cv (.agg ds)))).isSome then
        evalPure P (Op.equal t (cv (.agg cs)) (cv (.agg ds))) else none
    | _, _ => none
  | _ => none

noncomputable def scalar : AV → Bool
  | .int .. | .float .. | .string .. | .bool .. => true
  | _ => false

noncomputable def scalars (l : List AV) : Bool := l.all scalar

noncomputable def abin (P : Program) (T : Tab) (op : BinOp) (t : TypeId) (xo yo : Operand) (x y : AV) : Option AV :=
  if scalar x && scalar y then pureV P (Go.binOp op t (cv x) (cv y)) else
  match T.types.get t with
  | none => none
  | some i =>
    match op with
    | .eql => (aeqAt P T op t xo yo i.desc x y).map .bool
    | .neq => (aeqAt P T op t xo yo i.desc x y).map fun b => .bool (!b)
    | _ => none

noncomputable def asNat : AV → Option Nat
  | .int _ n => if 0 ≤ n then some n.toNat else none
  | _ => none

noncomputable def optNat (a : AAct) : Option Operand → Option (Option Nat)
  | none => some none
  | some x => match aeval a x with
    | some v => (asNat v).map some
    | none => none

noncomputable def asliceStr (s : ByteArray) (lo hi mx : Option Nat) : Option AV :=
  if mx.isNone && decide (lo.getD 0 ≤ hi.getD s.size) && decide (hi.getD s.size ≤ s.size) then some (.string (s.extract (lo.getD 0) (hi.getD s.size))) else none

noncomputable def asliceNil (lo hi mx : Option Nat) : Option AV :=
  if decide (lo.getD 0 = 0) && decide (hi.getD 0 = 0) && decide (mx.getD 0 = 0) && (mx.isNone || hi.isSome) then some .nilSlice else none

noncomputable def knownCap (cap : Option Nat) (n : Nat) : Nat :=
  match cap with
  | none => n
  | some k => Nat.min k n

noncomputable def subCap (mx cap : Option Nat) (l : Nat) : Option Nat :=
  match mx with
  | some m => some (m - l)
  | none => cap.map (· - l)

/-- A slice of a slice: its end lies within the length, or within what is known of the memory behind it. -/
noncomputable def asliceAt (c : List AV) (size b o adv len : Nat) (cap : Option Nat) (lo hi mx : Option Nat) : Option AV :=
  let known := knownCap cap ((c.length - o) / size)
  let l := lo.getD 0
  let h := hi.getD len
  let within (n : Nat) : Bool := decide (n ≤ len) || decide (n ≤ known)
  if adv = 0 then
    if decide (l ≤ h) && within h && decide (h ≤ mx.getD h) && within (mx.getD h) && (mx.isNone || hi.isSome) then
      if l = 0 then some (.slice b o 0 h (subCap mx cap 0))
      else if l < h then some (.slice b (o + l * size) 0 (h - l) (subCap mx cap l))
      else if mx.isNone then some (.slice b o l 0 cap)
      else none
    else none
  else if decide (l = 0) && decide (h = 0) && mx.isNone then some (.slice b o adv len cap) else none

noncomputable def aslice (T : Tab) (M : AMem) (e : TypeId) (x : AV) (lo hi mx : Option Nat) : Option AV :=
  match T.types.get e with
  | some j => match x with
    | .nilSlice => asliceNil lo hi mx
    | .slice b o adv len cap => match M.get b with
      | some (.cells c e' _ _ _) => if e' = e ∧ j.size ≠ 0 then asliceAt c j.size b o adv len cap lo hi mx else none
      | _ => none
    | _ => none
  | none => none

/-- Keys of maps: the first entry whose key is the same. -/
noncomputable def afind (P : Program) (kt : TypeId) (d : TypeDesc) (k : AV) : List AEnt → Nat → Option (Option Nat)
  | [], _ => some none
  | e :: r, i =>
    let same : Option Bool := match Instr.sameNow d (cv k) (cv e.key) with
      | some b => some b
      | none => evalPure P (Op.equal kt (cv k) (cv e.key))
    match same with
    | some true => some (some i)
    | some false => afind P kt d k r (i + 1)
    | none => none

noncomputable def keyFits (P : Program) (empty : Bool) (kt : TypeId) (k : AV) (es : List AEnt) : Bool :=
  flat k && (evalPure P (Instr.checkKey empty 10000 kt (cv k))).isSome && es.all fun e => flat e.key

/-- Do all keys answer at once, or none? -/
noncomputable def nowAll (d : TypeDesc) (k : AV) (es : List AEnt) : Bool :=
  (es.all fun e => (Instr.sameNow d (cv k) (cv e.key)).isSome) || (match es with
    | [] => true
    | e :: _ => (Instr.sameNow d (cv k) (cv e.key)).isNone && es.all fun e => (Instr.sameNow d (cv k) (cv e.key)).isNone)

noncomputable def amapOf (M : AMem) : AV → Option (List AEnt)
  | .nilMap => some []
  | .map b => match M.get b with
    | some (.map es _) => some es
    | _ => none
  | _ => none

noncomputable def alookup (P : Program) (T : Tab) (M : AMem) (t : TypeId) (m k : AV) (commaOk : Bool) : Option AV :=
  match T.types.get t with
  | some { desc := .map kt et, .. } =>
    match T.types.get kt, T.types.get et, amapOf M m with
    | some kd, some ed, some es =>
      if keyFits P es.isEmpty kt k es && nowAll kd.desc k es then
        match afind P kt kd.desc k es 0 with
        | some (some i) => match es[i]? with
          | some e => some (if commaOk then .tuple [e.val, .bool true] else e.val)
          | none => none
        | some none => some (if commaOk then .tuple [ed.zero, .bool false] else ed.zero)
        | none => none
      else none
    | _, _, _ => none
  | _ => none

noncomputable def bytesOfCells : List AV → Option (List UInt8)
  | [] => some []
  | .int .u8 n :: r => (bytesOfCells r).map (UInt8.ofNat n.toNat :: ·)
  | _ => none

/-- The bytes of a slice, or of a string. -/
noncomputable def abytes (M : AMem) : AV → Option ByteArray
  | .string s => some s
  | .nilSlice => some .empty
  | .slice b o adv len _ =>
    if len = 0 then some .empty else
    if adv ≠ 0 then none else
    match M.get b with
    | some (.cells c _ _ _ _) => match takeCells c o len with
      | some l => (bytesOfCells l).map fun x => ⟨x.toArray⟩
      | none => none
    | _ => none
  | _ => none

noncomputable def isU8 (T : Tab) (e : TypeId) : Bool :=
  match T.types.get e with
  | some { desc := .int .u8, .. } => true
  | _ => false

/-- A pointer turned into an unsafe.Pointer and back, where it points to a variable that lies whole in a block of its own. -/
noncomputable def aunsafe (P : Program) (T : Tab) (M : AMem) (s d : TypeId) (x : AV) : Option AV :=
  match T.types.get s, T.types.get d, x with
  | some { desc := .pointer _, .. }, some { desc := .unsafePointer, .. }, .nilPtr => some .nilPtr
  | some { desc := .pointer t, .. }, some { desc := .unsafePointer, .. }, .ptr b o => match T.types.get t, M.get b with
    | some j, some (.cells c _ _ _ _) => if j.size ≠ 0 ∧ o < c.length then some (.ptr b o) else none
    | _, _ => none
  | some { desc := .unsafePointer, .. }, some { desc := .pointer _, .. }, .nilPtr => some .nilPtr
  | some { desc := .unsafePointer, .. }, some { desc := .pointer u, .. }, .ptr b o => match T.types.get u, M.get b with
    | some j, some (.cells c e _ _ true) => if j.size ≠ 0 ∧ liesAt P P.depth e (c.length / P.cellsOf e) o u 1 = true then some (.ptr b o) else none
    | _, _ => none
  | _, _, _ => none

noncomputable def aconvBytes (T : Tab) (M : AMem) (s d : TypeId) (x : AV) : Option AV :=
  match T.types.get s, T.types.get d with
  | some { desc := .slice e, .. }, some { desc := .string, .. } => if isU8 T e then (abytes M x).map .string else none
  | _, _ => none

noncomputable def aconvStr (T : Tab) (s d : TypeId) (x : AV) : Option AV :=
  match T.types.get s, T.types.get d with
  | some _, some { desc := .string, .. } => some x
  | _, _ => none

noncomputable def aconvert (P : Program) (T : Tab) (M : AMem) (s d : TypeId) (x : AV) : Option AV :=
  match x with
  | .int _ _ => pureV P (Go.convert s d (cv x))
  | .float _ _ => pureV P (Go.convert s d (cv x))
  | .string _ => aconvStr T s d x
  | .nilSlice => aconvBytes T M s d x
  | .slice .. => aconvBytes T M s d x
  | .nilPtr => aunsafe P T M s d x
  | .ptr .. => aunsafe P T M s d x
  | _ => none

noncomputable def alen (M : AMem) : AV → Option Nat
  | .string s => some s.size
  | .nilSlice => some 0
  | .slice _ _ _ len _ => some len
  | .nilMap => some 0
  | .map b => match M.get b with
    | some (.map es _) => some es.length
    | _ => none
  | _ => none

noncomputable def acap : AV → Option Nat
  | .nilSlice => some 0
  | .slice _ _ adv _ (some c) => if adv = 0 then some c else none
  | _ => none

/-- 'len', by the operand's type. -/
noncomputable def lenOfType (T : Tab) (M : AMem) (t : TypeId) (x : AV) : Option Nat :=
  match T.types.get t with
  | some i => match i.desc with
    | .string => match x with
      | .string s => some s.size
      | _ => none
    | .slice _ => match x with
      | .nilSlice => some 0
      | .slice _ _ _ len _ => some len
      | _ => none
    | .map _ _ => match x with
      | .nilMap => some 0
      | .map b => match M.get b with
        | some (.map es _) => some es.length
        | _ => none
      | _ => none
    | _ => none
  | none => none

noncomputable def capOfType (T : Tab) (t : TypeId) (x : AV) : Option Nat :=
  match T.types.get t with
  | some { desc := .slice _, .. } => acap x
  | _ => none

noncomputable def rdLen (T : Tab) (M : AMem) : List TypeId → List AV → Option AV
  | t :: _, [x] => (lenOfType T M t x).map fun n => .int .i64 n
  | _, _ => none

noncomputable def rdCap (T : Tab) : List TypeId → List AV → Option AV
  | t :: _, [x] => (capOfType T t x).map fun n => .int .i64 n
  | _, _ => none

noncomputable def rdData : List AV → Option AV
  | [.nilSlice] => some .nilPtr
  | [.slice b o adv len _] => if adv = 0 ∧ 0 < len then some (.ptr b o) else none
  | _ => none

/-- Calls of a builtin that only read. -/
noncomputable def areadBuiltin (P : Program) (T : Tab) (M : AMem) (b : Builtin) (argTypes : Array TypeId) (ty : TypeId) (vs : List AV) : Option AV :=
  match b with
  | .len => rdLen T M argTypes.toList vs
  | .cap => rdCap T argTypes.toList vs
  | .min => if scalars vs then pureV P (Builtin.min_ argTypes ty (vs.map cv).toArray) else none
  | .max => if scalars vs then pureV P (Builtin.max_ argTypes ty (vs.map cv).toArray) else none
  | .unsafeSliceData => rdData vs
  | _ => none

noncomputable def areadExt (M : AMem) (e : AExt) (vs : List AV) : Option AV :=
  match e, vs with
  | .indexByte, [x, .int .u8 c] => match abytes M x with
    | some s => some (.int .i64 (match (List.range s.size).find? fun i => s[i]! == UInt8.ofNat c.toNat with
      | some i => (i : Int)
      | none => -1))
    | none => none
  | .count, [x, .int .u8 c] => match abytes M x with
    | some s => some (.int .i64 (s.foldl (fun n y => if y == UInt8.ofNat c.toNat then n + 1 else n) ((0 : Nat) : Int)))
    | none => none
  | .f64bits, [.float .f64 b] => some (.int .u64 b)
  | .f64frombits, [.int .u64 n] => some (.float .f64 n.toNat)
  | .noEscape, [x] => some x
  | _, _ => none

noncomputable def calleeOf (a : AAct) (c : Call) : Option (FuncId × List AV) :=
  match c.callee with
  | .value f => match aeval a f with
    | some (.func (.func g) first captured) => match aevalL a c.args.toList with
      | some vs => some (g, first ++ vs ++ captured)
      | none => none
    | _ => none
  | _ => none

/-- The entry that an iterator over a map stands at. -/
noncomputable def aentry (M : AMem) (b : Nat) : Option AV :=
  match M.get b with
  | some (.miter (some m) _ seen stepped) => match seen.getLast?, M.get m with
    | some stamp, some (.map es cl) =>
      if cl = stepped then (es.find? (·.born == stamp)).map fun e => .tuple [e.key, e.val] else none
    | _, _ => none
  | _ => none

noncomputable def vPick (a : AAct) (c x y : Operand) : Option AV :=
  match aeval a c with
  | some (.bool b) => aeval a (if b then x else y)
  | _ => none

noncomputable def vExtract (a : AAct) (x : Operand) (i : Nat) : Option AV :=
  match aeval a x with
  | some (.tuple vs) => vs[i]?
  | _ => none

noncomputable def vField (T : Tab) (a : AAct) (t : TypeId) (x : Operand) (f : Nat) : Option AV :=
  match aeval a x, T.types.get t with
  | some (.agg cs), some { desc := .struct fs, .. } => match fs[f]? with
    | some fd => match T.types.get fd.type with
      | some j => partOf j cs fd.offset
      | none => none
    | none => none
  | _, _ => none

noncomputable def vLoad (T : Tab) (a : AAct) (M : AMem) (t : TypeId) (x : Operand) : Option AV :=
  match aeval a x with
  | some (.ptr b o) => aload T M t b o
  | _ => none

noncomputable def vNilCheck (a : AAct) (x : Operand) : Option AV :=
  match aeval a x with
  | some (.ptr b o) => some (.ptr b o)
  | _ => none

noncomputable def vBin (P : Program) (T : Tab) (a : AAct) (op : BinOp) (t : TypeId) (x y : Operand) : Option AV :=
  match aeval a x, aeval a y with
  | some v, some u => abin P T op t x y v u
  | _, _ => none

noncomputable def vUn (P : Program) (a : AAct) (op : UnOp) (x : Operand) : Option AV :=
  match aeval a x with
  | some v => if scalar v then pureV P (Op.unary op (cv v)) else none
  | none => none

noncomputable def vConvert (P : Program) (T : Tab) (a : AAct) (M : AMem) (s d : TypeId) (x : Operand) : Option AV :=
  match aeval a x with
  | some v => aconvert P T M s d v
  | none => none

noncomputable def vMakeInterface (T : Tab) (a : AAct) (t : TypeId) (x : Operand) : Option AV :=
  match aeval a x, T.types.get t with
  | some v, some i => match i.desc with
    | .interface _ => none
    | _ => some (.iface t v)
  | _, _ => none

noncomputable def vMakeFunc (a : AAct) (f : FuncId) (first captured : Array Operand) : Option AV :=
  match aevalL a first.toList, aevalL a captured.toList with
  | some l, some r => some (.func (.func f) l r)
  | _, _ => none

noncomputable def vFieldAddr (T : Tab) (a : AAct) (t : TypeId) (x : Operand) (f : Nat) : Option AV :=
  match aeval a x, T.types.get t with
  | some (.ptr b o), some { desc := .struct fs, .. } => match fs[f]? with
    | some fd => match T.types.get fd.type with
      | some j => if j.size = 0 then none else some (.ptr b (o + fd.offset))
      | none => none
    | none => none
  | _, _ => none

noncomputable def vIndexAddr (T : Tab) (a : AAct) (t : TypeId) (x i : Operand) : Option AV :=
  match aeval a x, aeval a i, T.types.get t with
  | some (.slice b o adv len _), some iv, some { desc := .slice e, .. } => match asNat iv, T.types.get e with
    | some n, some j => if adv = 0 ∧ n < len then some (.ptr b (o + n * j.size)) else none
    | _, _ => none
  | some (.ptr b o), some iv, some { desc := .array len e, .. } => match asNat iv, T.types.get e with
    | some n, some j => if n < len then some (.ptr b (o + n * j.size)) else none
    | _, _ => none
  | _, _, _ => none

noncomputable def vIndex (T : Tab) (a : AAct) (t : TypeId) (x i : Operand) : Option AV :=
  match aeval a x, aeval a i, T.types.get t with
  | some (.string s), some iv, some { desc := .string, .. } => match asNat iv with
    | some n => match s[n]? with
      | some c => some (.int .u8 c.toNat)
      | none => none
    | none => none
  | some (.agg cs), some iv, some { desc := .array len e, .. } => match asNat iv, T.types.get e with
    | some n, some j => if n < len then partOf j cs (n * j.size) else none
    | _, _ => none
  | _, _, _ => none

noncomputable def vSlice (T : Tab) (a : AAct) (M : AMem) (t : TypeId) (x : Operand) (lo hi mx : Option Operand) : Option AV :=
  match aeval a x, optNat a lo, optNat a hi, optNat a mx with
  | some v, some l, some h, some m => match T.types.get t with
    | some { desc := .string, .. } => match v with
      | .string s => asliceStr s l h m
      | _ => none
    | some { desc := .slice e, .. } => aslice T M e v l h m
    | _ => none
  | _, _, _, _ => none

noncomputable def vLookup (P : Program) (T : Tab) (a : AAct) (M : AMem) (t : TypeId) (m k : Operand) (ok : Bool) : Option AV :=
  match aeval a m, aeval a k with
  | some mv, some kv => alookup P T M t mv kv ok
  | _, _ => none

noncomputable def vEntry (a : AAct) (M : AMem) (x : Operand) : Option AV :=
  match aeval a x with
  | some (.ptr b 0) => aentry M b
  | _ => none

noncomputable def vTypeAssert (T : Tab) (a : AAct) (x : Operand) (at_ : TypeId) (ok : Bool) : Option AV :=
  match aeval a x, T.types.get at_ with
  | some (.iface t v), some i => match i.desc with
    | .interface _ => none
    | _ => if t = at_ then some (if ok then .tuple [v, .bool true] else v)
      else if ok then some (.tuple [i.zero, .bool false]) else none
  | some .nilIface, some i => match i.desc with
    | .interface _ => none
    | _ => if ok then some (.tuple [i.zero, .bool false]) else none
  | _, _ => none

noncomputable def vCall (P : Program) (T : Tab) (a : AAct) (M : AMem) (ty : TypeId) (c : Call) : Option AV :=
  match c.callee with
  | .builtin b => match aevalL a c.args.toList with
    | some vs => areadBuiltin P T M b c.argTypes ty vs
    | none => none
  | .value (.func g) => match T.ext.get g with
    | some e => match aevalL a c.args.toList with
      | some vs => areadExt M e vs
      | none => none
    | none => none
  | _ => none

/-- Operations that only compute, or look at memory. -/
noncomputable def aval (P : Program) (T : Tab) (a : AAct) (M : AMem) (ty : TypeId) : Op → Option AV
  | .move x | .assign x => aeval a x
  | .pick c x y => vPick a c x y
  | .extract x i => vExtract a x i
  | .field t x f => vField T a t x f
  | .build t parts => abuild T a t parts.toList
  | .load t x => vLoad T a M t x
  | .nilCheck x => vNilCheck a x
  | .binOp op t x y _ => vBin P T a op t x y
  | .unOp op _ x => vUn P a op x
  | .convert s d x => vConvert P T a M s d x
  | .makeInterface t x => vMakeInterface T a t x
  | .makeFunc (.func f) first captured => vMakeFunc a f first captured
  | .fieldAddr t x f => vFieldAddr T a t x f
  | .indexAddr t x i => vIndexAddr T a t x i
  | .index t x i => vIndex T a t x i
  | .slice t x lo hi mx => vSlice T a M t x lo hi mx
  | .lookup t m k ok => vLookup P T a M t m k ok
  | .entry x => vEntry a M x
  | .typeAssert x _ at_ ok => vTypeAssert T a x at_ ok
  | .call c => vCall P T a M ty c
  | _ => none

noncomputable def alAlloc (T : Tab) (t : TypeId) : Option (ABlk × (Nat → AV)) :=
  match T.types.get t with
  | some i => some (.cells i.zero.cells t 0 true true, fun b => .ptr b 0)
  | none => none

noncomputable def alBox (T : Tab) (a : AAct) (t : TypeId) (x : Operand) : Option (ABlk × (Nat → AV)) :=
  match aeval a x, T.types.get t with
  | some v, some _ => some (.cells v.cells t 0 true true, fun b => .ptr b 0)
  | _, _ => none

noncomputable def alSlice (T : Tab) (a : AAct) (t : TypeId) (len : Nat) (parts : List (Nat × Operand)) : Option (ABlk × (Nat → AV)) :=
  match T.types.get t with
  | some { desc := .slice e, .. } => match T.types.get e, aparts a parts with
    | some j, some ps =>
      if j.size = 0 ∨ len * j.size > 2 ^ 24 then none else
      match fillA (fun i => some (i * j.size, j.size)) (List.replicate len j.zero.cells).flatten ps with
      | some c => some (.cells c e 0 true true, fun b => .slice b 0 0 len none)
      | none => none
    | _, _ => none
  | _ => none

noncomputable def alMap (T : Tab) (a : AAct) (t : TypeId) (x : Operand) : Option (ABlk × (Nat → AV)) :=
  match aeval a x, T.types.get t with
  | some (.int _ _), some { desc := .map _ _, .. } => some (.map [] 0, fun b => .map b)
  | _, _ => none

noncomputable def alMakeSlice (T : Tab) (a : AAct) (t : TypeId) (l c : Operand) : Option (ABlk × (Nat → AV)) :=
  match T.types.get t, aeval a l, aeval a c with
  | some { desc := .slice e, .. }, some lv, some cv => match T.types.get e, asNat lv, asNat cv with
    | some j, some n, some m =>
      if j.size = 0 ∨ n > m ∨ m * j.bytes > 2 ^ 47 ∨ m ≥ 2 ^ 47 then none else
      some (.cells (List.replicate m j.zero.cells).flatten e 0 true true, fun b => .slice b 0 0 n none)
    | _, _, _ => none
  | _, _, _ => none

noncomputable def alBytes (T : Tab) (a : AAct) (s d : TypeId) (x : Operand) : Option (ABlk × (Nat → AV)) :=
  match aeval a x, T.types.get s, T.types.get d with
  | some (.string s), some { desc := .string, .. }, some { desc := .slice e, .. } =>
    if isU8 T e then some (.cells (s.data.toList.map fun c => .int .u8 c.toNat) e 0 false false, fun b => .slice b 0 0 s.size none) else none
  | _, _, _ => none

noncomputable def alRange (T : Tab) (a : AAct) (t : TypeId) (x : Operand) : Option (ABlk × (Nat → AV)) :=
  match aeval a x, T.types.get t with
  | some (.string s), some { desc := .string, .. } => some (.siter s 0, fun b => .ptr b 0)
  | _, _ => none

/-- Operations that make a block: the block, and what its number makes of it. -/
noncomputable def aalloc (T : Tab) (a : AAct) : Op → Option (ABlk × (Nat → AV))
  | .alloc t => alAlloc T t
  | .box t x => alBox T a t x
  | .buildSlice t len parts => alSlice T a t len parts.toList
  | .makeMap _ none => some (.map [] 0, fun b => .map b)
  | .makeMap t (some x) => alMap T a t x
  | .makeSlice t l c => alMakeSlice T a t l c
  | .convert s d x => alBytes T a s d x
  | .range t x => alRange T a t x
  | _ => none

noncomputable def sliceCells (M : AMem) (size : Nat) : AV → Option (List AV)
  | .string s => some (s.data.toList.map fun c => .int .u8 c.toNat)
  | .nilSlice => some []
  | .slice b o adv len _ =>
    if len = 0 then some [] else
    if adv ≠ 0 then none else
    match M.get b with
    | some (.cells c _ _ _ _) => takeCells c o (len * size)
    | _ => none
  | _ => none

/-- What is appended: how many, and their cells (of a whole number: so many noughts). -/
noncomputable def anew (M : AMem) (j : TInfo) (zeros : Bool) (x : AV) : Option (Nat × List AV) :=
  if zeros then match asNat x with
    | some n => if n < 2 ^ 40 then some (n, (List.replicate n j.zero.cells).flatten) else none
    | none => none
  else match alen M x, sliceCells M j.size x with
    | some n, some l => some (n, l)
    | _, _ => none

/-- append: what was there moves to a block of its own; the block that it lay in is consumed. -/
noncomputable def appendTo (M : AMem) (e : TypeId) (j : TInfo) (n : Nat) (new : List AV) (s : AV) : Option (AV × AMem) :=
  match s with
  | .nilSlice =>
    if n = 0 then some (s, M) else
    if n * j.bytes > 2 ^ 40 ∨ n ≥ 2 ^ 40 then none else
    some (.slice M.next 0 0 n none, M.push (.cells new e 0 true false))
  | .slice b o adv len cap =>
    if n = 0 then some (s, M) else
    if adv ≠ 0 ∨ cap.isSome ∨ (len + n) * j.bytes > 2 ^ 40 ∨ len + n ≥ 2 ^ 40 then none else
    match M.get b with
    | some (.cells c e' fz q _) =>
      if e' ≠ e ∨ ¬ fz ≤ o + len * j.size then none else
      match takeCells c o (len * j.size) with
      | some old => some (.slice M.next 0 0 (len + n) none, (M.kill b).push (.cells (old ++ new) e (fz - o) q false))
      | none => none
    | _ => none
  | _ => none

noncomputable def isIntDesc : TypeDesc → Bool
  | .int _ => true
  | _ => false

noncomputable def aappend (T : Tab) (M : AMem) (t : TypeId) (xt : TypeId) (s x : AV) : Option (AV × AMem) :=
  match T.types.get t, T.types.get xt with
  | some { desc := .slice e, .. }, some xi =>
    match T.types.get e with
    | some j =>
      match anew M j (isIntDesc xi.desc) x with
      | some (n, new) => if j.size = 0 ∨ new.length ≠ n * j.size ∨ n * j.bytes > 2 ^ 40 ∨ new.all AV.cell = false then none else appendTo M e j n new s
      | none => none
    | none => none
  | _, _ => none

/-- The length of a slice or a string. -/
noncomputable def slen : AV → Option Nat
  | .string s => some s.size
  | .nilSlice => some 0
  | .slice _ _ _ len _ => some len
  | _ => none

noncomputable def acopy (T : Tab) (M : AMem) (t : TypeId) (d s : AV) : Option (AV × AMem) :=
  match T.types.get t with
  | some { desc := .slice e, .. } =>
    match T.types.get e, slen s with
    | some j, some n => match d with
      | .slice b o adv len _ =>
        if Nat.min n len = 0 then some (.int .i64 0, M)
        else if adv ≠ 0 then none
        else match sliceCells M j.size s, M.get b with
          | some cs, some (.cells c e' fz q ex) =>
            if e' = e ∧ fz ≤ o ∧ n ≤ len ∧ o + cs.length ≤ c.length ∧ cs.all AV.cell = true then
              some (.int .i64 n, M.set b (.cells (setRange c o cs) e' fz q ex))
            else none
          | _, _ => none
      | .nilSlice => some (.int .i64 0, M)
      | _ => none
    | _, _ => none
  | _ => none

noncomputable def amapUpdate (P : Program) (T : Tab) (M : AMem) (t : TypeId) (m k v : AV) : Option AMem :=
  match m with
  | .map b => match T.types.get t with
    | some { desc := .map kt _, .. } => match T.types.get kt, M.get b with
      | some kd, some (.map es cl) =>
        if keyFits P false kt k es && nowAll kd.desc k es then
          match afind P kt kd.desc k es 0 with
          | some (some i) => match es[i]? with
            | some e => if Instr.sameBits 10000 (cv e.key) (cv k) then some (M.set b (.map (es.set i { key := k, val := v, born := e.born }) cl)) else none
            | none => none
          | some none => some (M.set b (.map (es ++ [{ key := k, val := v, born := cl }]) (cl + 1)))
          | none => none
        else none
      | _, _ => none
    | _ => none
  | _ => none

noncomputable def adelete (P : Program) (T : Tab) (M : AMem) (t : TypeId) (m k : AV) : Option AMem :=
  match m with
  | .map b => match T.types.get t with
    | some { desc := .map kt _, .. } => match T.types.get kt, M.get b with
      | some kd, some (.map es cl) =>
        if keyFits P es.isEmpty kt k es && nowAll kd.desc k es then
          match afind P kt kd.desc k es 0 with
          | some (some i) => some (M.set b (.map (es.eraseIdx i) cl))
          | some none => some (M.set b (.map es cl))
          | none => none
        else none
      | _, _ => none
    | _ => none
  | _ => none

noncomputable def aclear (T : Tab) (M : AMem) (t : TypeId) (m : AV) : Option AMem :=
  match m with
  | .map b => match T.types.get t with
    | some { desc := .map _ _, .. } => match M.get b with
      | some (.map _ cl) => some (M.set b (.map [] cl))
      | _ => none
    | _ => none
  | _ => none

/-- Those entries that a ranging has not come to. -/
noncomputable def unseen (es : List AEnt) (seen : List Nat) : List AEnt := es.filter fun e => !seen.contains e.born

noncomputable def anextMap (M : AMem) (b : Nat) (m since : Nat) (seen : List Nat) (last : Nat) : Option (AV × AMem) :=
  match M.get m with
  | some (.map es cl) =>
    if !seen.isEmpty && !es.isEmpty && es.all (fun e => decide (e.born ≥ last)) then none else
    match unseen es seen with
    | [] => some (.tuple [.bool false], M)
    | [e] => if e.born < since then some (.tuple [.bool true, e.key, e.val], M.set b (.miter (some m) since (seen ++ [e.born]) cl)) else none
    | _ => none
  | _ => none

noncomputable def anextStr (M : AMem) (b : Nat) : Option (AV × AMem) :=
  match M.get b with
  | some (.siter s pos) =>
    if pos < s.size then
      some (.tuple [.bool true, .int .i64 pos, .int .i32 (Utf8.decode s pos).1], M.set b (.siter s (pos + (Utf8.decode s pos).2)))
    else some (.tuple [.bool false], M)
  | _ => none

noncomputable def anext (M : AMem) (x : AV) (isString : Bool) : Option (AV × AMem) :=
  match x with
  | .ptr b 0 => if isString then anextStr M b else match M.get b with
    | some (.miter none _ _ _) => some (.tuple [.bool false], M)
    | some (.miter (some m) since seen last) => anextMap M b m since seen last
    | _ => none
  | _ => none

noncomputable def aunsafeString (T : Tab) (M : AMem) (pt : TypeId) (p n : AV) : Option (AV × AMem) :=
  match asNat n with
  | some n => if n ≥ 2 ^ 47 then none else match p with
    | .nilPtr => if n = 0 then some (.string .empty, M) else none
    | .ptr b o =>
      if n = 0 then some (.string .empty, M) else
      match T.types.get pt, M.get b with
      | some { desc := .pointer u, .. }, some (.cells c e fz true ex) =>
        if isU8 T e && u == e then
          match takeCells c o n with
          | some l => match bytesOfCells l with
            | some s => some (.string ⟨s.toArray⟩, M.set b (.cells c e (Nat.max fz (o + n)) true ex))
            | none => none
          | none => none
        else none
      | _, _ => none
    | _ => none
  | none => none

/-- A method that an interface value's dynamic type has. -/
noncomputable def amethod (P : Program) (T : Tab) (M : AMem) (t : TypeId) (v : AV) (name : String) : Option (FuncId × AV) :=
  match P.info? t with
  | some info => match info.methods.find? (·.name == name) with
    | some m => match m.path.toList with
      | [] => match m.func, T.types.get t with
        | some (f, pr), some i => match i.desc with
          | .pointer e => if pr then some (f, v) else match v with
            | .ptr b o => (aload T M e b o).map fun x => (f, x)
            | _ => none
          | _ => if pr then none else some (f, v)
        | _, _ => none
      | _ => none
    | none => none
  | none => none

abbrev CallF := FuncId → List AV → AMem → Option (AEnd × AMem)

noncomputable def eStore (T : Tab) (a : AAct) (M : AMem) (t : TypeId) (x v : Operand) : Option AOut :=
  match aeval a x, aeval a v with
  | some (.ptr b o), some u => (astore T M t b o u).map .skip
  | _, _ => none

noncomputable def eUpdate (P : Program) (T : Tab) (a : AAct) (M : AMem) (t : TypeId) (m k v : Operand) : Option AOut :=
  match aeval a m, aeval a k, aeval a v with
  | some mv, some kv, some vv => (amapUpdate P T M t mv kv vv).map .skip
  | _, _, _ => none

noncomputable def eNext (a : AAct) (M : AMem) (x : Operand) (isString : Bool) : Option AOut :=
  match aeval a x with
  | some v => (anext M v isString).map fun r => .val r.1 r.2
  | none => none

noncomputable def eRange (T : Tab) (a : AAct) (M : AMem) (t : TypeId) (x : Operand) : Option AOut :=
  match aeval a x, T.types.get t with
  | some v, some { desc := .map _ _, .. } => match v with
    | .map b => match M.get b with
      | some (.map _ cl) => some (.val (.ptr M.next 0) (M.push (.miter (some b) cl [] cl)))
      | _ => none
    | .nilMap => some (.val (.ptr M.next 0) (M.push (.miter none 0 [] 0)))
    | _ => none
  | _, _ => none

noncomputable def eMark (T : Tab) (a : AAct) (M : AMem) (s d : TypeId) (x : Operand) : Option AOut :=
  match aeval a x, T.types.get s with
  | some (.slice b o adv len cap), some { desc := .slice e, .. } =>
    if s = d ∧ isU8 T e = true then match M.get b with
      | some (.cells c e' fz _ true) => if fz = 0 then some (.val (.slice b o adv len cap) (M.set b (.cells c e' 0 false true))) else none
      | _ => none
    else none
  | _, _ => none

noncomputable def eDefer (a : AAct) (c : Call) : Option AOut :=
  match c.callee with
  | .value f => match aeval a f, aevalL a c.args.toList with
    | some (.func (.func g) first captured), some vs => some (.defer { fn := .func g, captured, args := first ++ vs })
    | _, _ => none
  | _ => none

noncomputable def ePanic (a : AAct) (x : Operand) : Option AOut :=
  match aeval a x with
  | some (.iface t v) => some (.panic [{ v := .iface t v, recovered := false }] {next := 0, t := .leaf})
  | _ => none

noncomputable def eBuiltin (P : Program) (T : Tab) (M : AMem) (b : Builtin) (ts : List TypeId) (vs : List AV) : Option AOut :=
  match b with
  | .append => match vs, ts with
    | [s, x], [t, xt] => (aappend T M t xt s x).map fun r => .val r.1 r.2
    | _, _ => none
  | .copy => match vs, ts with
    | [d, s], t :: _ => (acopy T M t d s).map fun r => .val r.1 r.2
    | _, _ => none
  | .delete => match vs, ts with
    | [m, k], t :: _ => (adelete P T M t m k).map fun M' => .val (.tuple []) M'
    | _, _ => none
  | .clear => match vs, ts with
    | [m], t :: _ => (aclear T M t m).map fun M' => .val (.tuple []) M'
    | _, _ => none
  | .unsafeString => match vs, ts with
    | [p, n], pt :: _ => (aunsafeString T M pt p n).map fun r => .val r.1 r.2
    | _, _ => none
  | _ => none

noncomputable def ofEnd : Option (AEnd × AMem) → Option AOut
  | some (.returned v, M') => some (.val v M')
  | some (.panicked ch, M') => some (.panic ch M')
  | none => none

noncomputable def eNoZero (T : Tab) (M : AMem) (fn : Func) (vs : List AV) : Option AOut :=
  match vs, fn.resultTypes.toList with
  | [.int .i64 n], [t] => match T.types.get t with
    | some { desc := .slice e, .. } =>
      if isU8 T e && decide (0 ≤ n) && decide (n ≤ 2 ^ 30) then some (.val (.slice M.next 0 0 n.toNat none) (M.push (.cells [] e 0 true false))) else none
    | _ => none
  | _, _ => none

noncomputable def eFunc (T : Tab) (call : CallF) (M : AMem) (g : FuncId) (vs : List AV) : Option AOut :=
  match T.ext.get g with
  | none => ofEnd (call g vs M)
  | some .makeNoZero => match T.funcs.get g with
    | some fn => eNoZero T M fn vs
    | none => none
  | some _ => none

noncomputable def eCall (P : Program) (T : Tab) (call : CallF) (a : AAct) (M : AMem) (c : Call) : Option AOut :=
  match c.callee with
  | .builtin b => match aevalL a c.args.toList with
    | some vs => eBuiltin P T M b c.argTypes.toList vs
    | none => none
  | .value f => match aeval a f with
    | some (.func (.func g) first captured) => match aevalL a c.args.toList with
      | some vs => eFunc T call M g (first ++ vs ++ captured)
      | none => none
    | _ => none
  | .invoke r name => match aeval a r, aevalL a c.args.toList with
    | some (.iface t v), some vs => match amethod P T M t v name with
      | some (g, recv) => match T.ext.get g with
        | some _ => none
        | none => ofEnd (call g (recv :: vs) M)
      | none => none
    | _, _ => none

/-- Operations that write, or call. -/
noncomputable def aeff (P : Program) (T : Tab) (call : CallF) (a : AAct) (M : AMem) : Op → Option AOut
  | .store t x v => eStore T a M t x v
  | .mapUpdate t m k v | .insert t m k v => eUpdate P T a M t m k v
  | .next x isString => eNext a M x isString
  | .range t x => eRange T a M t x
  | .convert s d x => eMark T a M s d x
  | .defer c => eDefer a c
  | .panic x => match ePanic a x with
    | some (.panic ch _) => some (.panic ch M)
    | _ => none
  | .call c => eCall P T call a M c
  | _ => none

noncomputable def AAct.put (a : AAct) (dst : Option Tmp) (v : AV) : AAct :=
  match dst, a with
  | some d, ⟨n, t, ds⟩ => ⟨n, t.set d (some v), ds⟩
  | none, a => a

theorem AAct.put_none (a : AAct) (v : AV) : a.put none v = a := rfl
theorem AAct.put_some (a : AAct) (d : Tmp) (v : AV) : a.put (some d) v = { a with t := a.t.set d (some v) } := rfl

noncomputable def AAct.fits (a : AAct) (dst : Option Tmp) : Bool :=
  match dst with
  | some d => decide (d < a.n)
  | none => true

noncomputable def aop (P : Program) (T : Tab) (call : CallF) (a : AAct) (M : AMem) (o : Oper) : Option AOut :=
  match aval P T a M o.type o.op with
  | some v => some (.val v M)
  | none => match aalloc T a o.op with
    | some (k, f) => some (.val (f M.next) (M.push k))
    | none => aeff P T call a M o.op

/-- Is an operation wanted? (its guard) -/
noncomputable def awanted (ops : Array Oper) (a : AAct) (o : Oper) : Option Bool :=
  match o.guard with
  | none => some true
  | some (j, want) => match (ops[j]?).bind (·.dst) with
    | some d => match a.t.get d with
      | some (.bool b) => some (b == want)
      | some _ => some false
      | none => none
    | none => some false

noncomputable def aops (P : Program) (T : Tab) (call : CallF) (ops : Array Oper) : List Oper → AAct → AMem → Option (AExit × AAct × AMem)
  | [], a, M => some (.normal, a, M)
  | o :: r, a, M =>
    if a.fits o.dst then
      match awanted ops a o with
      | some true => match aop P T call a M o with
        | some (.val v M') => aops P T call ops r (a.put o.dst v) M'
        | some (.skip M') => aops P T call ops r (a.put o.dst aundef) M'
        | some (.defer d) => aops P T call ops r ({ a with defers := d :: a.defers }.put o.dst aundef) M
        | some (.panic ch M') => some (.panic ch, a, M')
        | none => none
      | some false => aops P T call ops r (a.put o.dst aundef) M
      | none => none
    else none

end Go.Tc
