import Derived.Test.YtmeemfdpfdcghaaGreatDoorTcB

/- The abstract evaluator: regions whose order is drawn, code, calls, deferred calls. -/
namespace Go.Tc

mutual
noncomputable def beqAV : AV → AV → Bool
  | .bool a, .bool b => a == b
  | .int k a, .int j b => decide (k = j) && decide (a = b)
  | .float k a, .float j b => decide (k = j) && decide (a = b)
  | .string a, .string b => decide (a = b)
  | .nilPtr, .nilPtr => true
  | .ptr a b, .ptr c d => decide (a = c) && decide (b = d)
  | .nilSlice, .nilSlice => true
  | .slice a b c d e, .slice a' b' c' d' e' => decide (a = a') && decide (b = b') && decide (c = c') && decide (d = d') && decide (e = e')
  | .nilMap, .nilMap => true
  | .map a, .map b => decide (a = b)
  | .func f a b, .func g c d => decide (f = g) && beqL a c && beqL b d
  | .nilFunc, .nilFunc => true
  | .iface t v, .iface u w => decide (t = u) && beqAV v w
  | .nilIface, .nilIface => true
  | .agg a, .agg b => beqL a b
  | .tuple a, .tuple b => beqL a b
  | _, _ => false
noncomputable def beqL : List AV → List AV → Bool
  | [], [] => true
  | a :: r, b :: s => beqAV a b && beqL r s
  | _, _ => false
end

noncomputable def beqO : Option AV → AV → Bool
  | some a, b => beqAV a b
  | none, _ => false

/-- Does an operation only compute or look? -/
noncomputable def isVal (T : Tab) : Oper → Bool
  | o => match o.op with
    | .move _ | .assign _ | .pick .. | .extract .. | .field .. | .build .. | .load .. | .nilCheck _ | .binOp .. | .unOp .. | .makeInterface .. | .makeFunc ..
    | .fieldAddr .. | .indexAddr .. | .index .. | .slice .. | .lookup .. | .typeAssert .. | .entry _ => true
    | .convert _ d _ => match T.types.get d with
      | some { desc := .slice _, .. } => false
      | _ => true
    | .call c => match c.callee with
      | .builtin .len | .builtin .cap | .builtin .min | .builtin .max | .builtin .unsafeSliceData => true
      | .value (.func g) => match T.ext.get g with
        | some .makeNoZero => false
        | some _ => true
        | none => false
      | _ => false
    | _ => false

noncomputable def isAlloc (T : Tab) : Oper → Bool
  | o => match o.op with
    | .alloc _ | .box .. | .buildSlice .. | .makeMap .. | .makeSlice .. => true
    | .convert _ d _ => match T.types.get d with
      | some { desc := .slice _, .. } => true
      | _ => false
    | _ => false

noncomputable def isChain (T : Tab) (o : Oper) : Bool := !isVal T o && !isAlloc T o

noncomputable def opTmps (o : Oper) : List Tmp := o.op.operands.toList.filterMap fun | .tmp t => some t | _ => none

noncomputable def guardTmp (ops : Array Oper) (o : Oper) : List Tmp :=
  match o.guard with
  | some (j, _) => ((ops[j]?).bind (·.dst)).toList
  | none => []

noncomputable def readsOf (ops : Array Oper) (o : Oper) : List Tmp := opTmps o ++ guardTmp ops o

/-- What stands ahead of an operation whatever the order: from the masks of those that it names. -/
noncomputable def maskOf (B : Nat → Nat) (o : Oper) : Nat :=
  o.after.toList.foldl (fun s e => if Region.binds .any e then s ||| (2 ^ e.on ||| B e.on) else s) 0

noncomputable def chainList (T : Tab) (ops : Array Oper) : List Nat := (ops.toList.zipIdx.filter fun (o, _) => isChain T o).map (·.2)

/-- How many of the chain stand ahead of an operation whatever the order; how many may. -/
noncomputable def lowOf (B : Nat → Nat) (ch : List Nat) (i : Nat) : Nat := (ch.filter fun c => (B i).testBit c).length
noncomputable def highOf (B : Nat → Nat) (ch : List Nat) (i : Nat) : Nat := (ch.filter fun c => !(B c).testBit i).length

noncomputable def linked (B : Nat → Nat) : List Nat → Bool
  | [] => true
  | c :: r => (r.all fun d => (B d).testBit c) && linked B r

/-- The masks of all operations, each from those of the ones ahead of it. -/
noncomputable def masksGo : List Oper → Nat → Tr Nat → Tr Nat
  | [], _, t => t
  | o :: r, i, t => masksGo r (i + 1) (t.set i (some (maskOf (fun k => (t.get k).getD 0) o)))

noncomputable def masks (ops : Array Oper) : Nat → Nat :=
  let t := masksGo ops.toList 0 .leaf
  fun i => (t.get i).getD 0

/-- Who writes a temporary. -/
noncomputable def writersGo : List Oper → Nat → Tr Nat → Tr Nat
  | [], _, t => t
  | o :: r, i, t => writersGo r (i + 1) (match o.dst with
    | some d => t.set d (some i)
    | none => t)

noncomputable def writesOnce (W : Tr Nat) (o : Oper) (i : Nat) : Bool :=
  match o.dst with
  | some d => match W.get d with
    | some j => j == i
    | none => false
  | none => true

noncomputable def readsFit (W : Tr Nat) (B : Nat → Nat) (i : Nat) : List Tmp → Bool
  | [] => true
  | d :: r => (match W.get d with
    | some j => j == i || (B i).testBit j || (B j).testBit i
    | none => true) && readsFit W B i r

noncomputable def drawOkGo (ops : Array Oper) (B : Nat → Nat) (W : Tr Nat) : List Oper → Nat → Bool
  | [], _ => true
  | o :: r, i => (B i == maskOf B o) && writesOnce W o i && readsFit W B i (readsOf ops o) && drawOkGo ops B W r (i + 1)

/-- What a region must be for its order not to matter: static. -/
noncomputable def drawOk (ops : Array Oper) (B : Nat → Nat) (ch : List Nat) : Bool :=
  drawOkGo ops B (writersGo ops.toList 0 .leaf) ops.toList 0 && linked B ch

/-- The order in which a drawn region is run here: what is no part of the chain as early as may be. -/
noncomputable def stageList (T : Tab) (ops : Array Oper) (B : Nat → Nat) (ch : List Nat) (s : Nat) : List Nat :=
  (ops.toList.zipIdx.filter fun (o, i) => !isChain T o && lowOf B ch i == s).map (·.2)

noncomputable def orderList (T : Tab) (ops : Array Oper) (B : Nat → Nat) (ch : List Nat) : List Nat → Nat → List Nat
  | [], s => stageList T ops B ch s
  | c :: r, s => stageList T ops B ch s ++ c :: orderList T ops B ch r (s + 1)

/-- Is that an order, and does what is no part of the chain come as early as may be? -/
noncomputable def orderOk (T : Tab) (ops : Array Oper) (B : Nat → Nat) (ch : List Nat) : List Nat → Nat → Nat → Bool
  | [], E, _ => (List.range ops.size).all fun j => E.testBit j
  | i :: r, E, k => !E.testBit i && ((B i &&& E) == B i) && match ops[i]? with
    | some o => if isChain T o then ch[k]? == some i && (ops.toList.zipIdx.all fun (p, j) => isChain T p || decide (k < lowOf B ch j) || E.testBit j) && orderOk T ops B ch r (E ||| 2 ^ i) (k + 1)
      else orderOk T ops B ch r (E ||| 2 ^ i) k
    | none => false

/-- What an operation did. -/
structure Did where
  i : Nat
  a : AAct
  wanted : Bool
  res : AV
  blk : Option (ABlk × Nat)

noncomputable def beqEnts : List AEnt → List AEnt → Bool
  | [], [] => true
  | a :: r, b :: s => beqAV a.key b.key && beqAV a.val b.val && decide (a.born = b.born) && beqEnts r s
  | _, _ => false

noncomputable def beqBlk : ABlk → ABlk → Bool
  | .cells c e f q x, .cells c' e' f' q' x' => beqL c c' && decide (e = e') && decide (f = f') && (q == q') && (x == x')
  | .map es cl, .map es' cl' => beqEnts es es' && decide (cl = cl')
  | .siter s p, .siter s' p' => decide (s = s') && decide (p = p')
  | _, _ => false

/-- A frame of which only those temporaries are known. -/
noncomputable def pickT (t : Tr AV) : List Tmp → Tr AV
  | [] => .leaf
  | x :: r => match t.get x with
    | some v => (pickT t r).set x (some v)
    | none => pickT t r

noncomputable def pick (a : AAct) (r : List Tmp) : AAct := { a with t := pickT a.t r }

noncomputable def clearDsts (ops : List Oper) (a : AAct) : AAct :=
  ops.foldl (fun a o => match o.dst with
    | some d => { a with t := a.t.set d none }
    | none => a) a

/-- The run in that order; what is remembered: what each did, and the memory ahead of each of the chain (the newest first), and at the end. -/
noncomputable def runL (P : Program) (T : Tab) (call : FuncId → List AV → AMem → Option (AEnd × AMem)) (ops : Array Oper) :
    List Nat → AAct → AMem → List Did → List AMem → Option (AExit × AAct × AMem × List Did × List AMem)
  | [], a, M, ds, Ms => some (.normal, a, M, ds, M :: Ms)
  | i :: r, a, M, ds, Ms =>
    match ops[i]? with
    | none => none
    | some o =>
      if a.fits o.dst then
        let a' := pick a (readsOf ops o)
        match awanted ops a' o with
        | none => none
        | some false => runL P T call ops r (a.put o.dst aundef) M ({ i, a := a', wanted := false, res := aundef, blk := none } :: ds) (if isChain T o then M :: Ms else Ms)
        | some true =>
          if isVal T o then
            match aval P T a' M o.type o.op with
            | some v => runL P T call ops r (a.put o.dst v) M ({ i, a := a', wanted := true, res := v, blk := none } :: ds) Ms
            | none => none
          else if isAlloc T o then
            match aalloc T a' o.op with
            | some (k, f) => runL P T call ops r (a.put o.dst (f M.next)) (M.push k) ({ i, a := a', wanted := true, res := f M.next, blk := some (k, M.next) } :: ds) Ms
            | none => none
          else match aeff P T call a' M o.op with
            | some (.val v M') => if M.next ≤ M'.next then runL P T call ops r (a.put o.dst v) M' ({ i, a := a', wanted := true, res := v, blk := none } :: ds) (M :: Ms) else none
            | some (.skip M') => if M.next ≤ M'.next then runL P T call ops r (a.put o.dst aundef) M' ({ i, a := a', wanted := true, res := aundef, blk := none } :: ds) (M :: Ms) else none
            | some (.panic ch M') => some (.panic ch, clearDsts ops.toList a, M', ds, M :: Ms)
            | _ => none
      else none

/-- At another stage, over that stage's memory, an operation that is no part of the chain would have done the same. -/
noncomputable def stable (P : Program) (T : Tab) (ops : Array Oper) (M : AMem) (d : Did) : Bool :=
  if d.wanted then
    match d.blk with
    | some (k, n) => match M.get n with
      | some k' => beqBlk k' k
      | none => false
    | none => match ops[d.i]? with
      | some o => beqO (aval P T d.a M o.type o.op) d.res
      | none => false
  else true

noncomputable def stableAll (P : Program) (T : Tab) (ops : Array Oper) (B : Nat → Nat) (ch : List Nat) (Ms : List AMem) (ds : List Did) : Bool :=
  ds.all fun d => match ops[d.i]? with
    | none => false
    | some o => isChain T o || (Ms.zipIdx.all fun (N, s) => decide (s < lowOf B ch d.i) || decide (highOf B ch d.i < s) || stable P T ops N d)

noncomputable def adraw (P : Program) (T : Tab) (call : FuncId → List AV → AMem → Option (AEnd × AMem)) (ops : Array Oper) (a : AAct) (M : AMem) : Option (AExit × AAct × AMem) :=
  let B := masks ops
  let ch := chainList T ops
  let L := orderList T ops B ch ch 0
  if drawOk ops B ch && orderOk T ops B ch L 0 0 then
    match runL P T call ops L a M [] [] with
    | some (e, a', M', ds, Ms) => if stableAll P T ops B ch Ms.reverse ds then some (e, a', M') else none
    | none => none
  else none

structure Ev where
  code : Code → AAct → AMem → Option (AExit × AAct × AMem)
  call : FuncId → List AV → AMem → Option (AEnd × AMem)

noncomputable def codeF (P : Program) (T : Tab) (ih : Ev) : Code → AAct → AMem → Option (AExit × AAct × AMem)
  | .skip, a, M | .label _, a, M => some (.normal, a, M)
  | .region _ ops draw, a, M => if draw then adraw P T ih.call ops a M else aops P T ih.call ops ops.toList a M
  | .seq x y, a, M => match codeF P T ih x a M with
    | some (.normal, a', M') => codeF P T ih y a' M'
    | r => r
  | .cond c x y, a, M => match aeval a c with
    | some (.bool true) => codeF P T ih x a M
    | some (.bool false) => codeF P T ih y a M
    | _ => none
  | .block id c, a, M => match codeF P T ih c a M with
    | some (.exit j, a', M') => if j = id then some (.normal, a', M') else some (.exit j, a', M')
    | r => r
  | .loop c, a, M => match codeF P T ih c a M with
    | some (.normal, a', M') => ih.code (.loop c) a' M'
    | r => r
  | .exit id, a, M => some (.exit id, a, M)
  | .ret, a, M => some (.ret, a, M)
  | .scope c, a, M => match codeF P T ih c a M with
    | some (.goto _, _, _) => none
    | r => r
  | _, _, _ => none

noncomputable def aresult (T : Tab) (a : AAct) (M : AMem) : ResultVar → Option AV
  | .tmp t => a.t.get t
  | .cell x t => match a.t.get x with
    | some (.ptr b o) => aload T M t b o
    | _ => none

noncomputable def aresultL (T : Tab) (a : AAct) (M : AMem) : List ResultVar → Option (List AV)
  | [] => some []
  | x :: r => match aresult T a M x with
    | some v => match aresultL T a M r with
      | some l => some (v :: l)
      | none => none
    | none => none

noncomputable def aresults (T : Tab) (fn : Func) (a : AAct) (M : AMem) : Option AV :=
  match aresultL T a M fn.results.toList with
  | some [v] => some v
  | some l => some (.tuple l)
  | none => none

/-- The state of the frame whose deferred calls are run. -/
inductive AMode where
  | returning
  | panicking (chain : List APan)

noncomputable def asettle : AMode → AMode
  | .panicking ({ recovered := true, .. } :: _) => .returning
  | m => m

noncomputable def araised (u : AMode) (chain : List APan) : AMode :=
  match u with
  | .panicking old => .panicking (chain ++ old)
  | _ => .panicking chain

noncomputable def putArgs : List AV → Nat → Tr AV → Tr AV
  | [], _, t => t
  | v :: r, i, t => putArgs r (i + 1) (t.set i (some v))

noncomputable def enterAct (fn : Func) (vs : List AV) : AAct := { n := vs.length + (fn.ntmps - vs.length), t := putArgs vs 0 .leaf, defers := [] }

noncomputable def isRecover (o : Oper) : Bool :=
  match o.op with
  | .call { callee := .builtin .recover, .. } => true
  | _ => false

/-- A region of a deferred function, in which 'recover' may be called. -/
noncomputable def dops (P : Program) (T : Tab) (call : FuncId → List AV → AMem → Option (AEnd × AMem)) (ops : Array Oper) :
    List Oper → AAct → AMode → AMem → Option (AExit × AAct × AMode × AMem)
  | [], a, u, M => some (.normal, a, u, M)
  | o :: r, a, u, M =>
    if a.fits o.dst then
      match awanted ops a o with
      | some true =>
        if isRecover o then
          match u with
          | .panicking ({ v, recovered := false } :: older) => dops P T call ops r (a.put o.dst v) (.panicking ({ v, recovered := true } :: older)) M
          | _ => dops P T call ops r (a.put o.dst .nilIface) u M
        else match aop P T call a M o with
          | some (.val v M') => dops P T call ops r (a.put o.dst v) u M'
          | some (.skip M') => dops P T call ops r (a.put o.dst aundef) u M'
          | some (.panic ch M') => some (.panic ch, a, u, M')
          | _ => none
      | some false => dops P T call ops r (a.put o.dst aundef) u M
      | none => none
    else none

noncomputable def dcode (P : Program) (T : Tab) (ih : Ev) : Code → AAct → AMode → AMem → Option (AExit × AAct × AMode × AMem)
  | .seq x y, a, u, M => match dcode P T ih x a u M with
    | some (.normal, a', u', M') => dcode P T ih y a' u' M'
    | r => r
  | .cond c x y, a, u, M => match aeval a c with
    | some (.bool true) => dcode P T ih x a u M
    | some (.bool false) => dcode P T ih y a u M
    | _ => none
  | .region i ops draw, a, u, M => if draw then match codeF P T ih (.region i ops true) a M with
      | some (e, a', M') => some (e, a', u, M')
      | none => none
    else dops P T ih.call ops ops.toList a u M
  | c, a, u, M => match codeF P T ih c a M with
    | some (e, a', M') => some (e, a', u, M')
    | none => none

/-- One deferred call. -/
noncomputable def dcall (P : Program) (T : Tab) (ih : Ev) (d : ADef) (u : AMode) (M : AMem) : Option (AEnd × AMode × AMem) :=
  match d.fn with
  | .func g => match T.ext.get g, T.funcs.get g with
    | none, some fn => match fn.body with
      | some c => match dcode P T ih c (enterAct fn (d.args ++ d.captured)) u M with
        | some (.normal, a, u', M') | some (.ret, a, u', M') => match a.defers with
          | [] => match aresults T fn a M' with
            | some v => some (.returned v, u', M')
            | none => none
          | _ => none
        | some (.panic ch, a, u', M') => match a.defers with
          | [] => some (.panicked ch, u', M')
          | _ => none
        | _ => none
      | none => none
    | _, _ => none
  | _ => none

noncomputable def leave (P : Program) (T : Tab) (ih : Ev) (fn : Func) (a : AAct) : List ADef → AMode → AMem → Option (AEnd × AMem)
  | [], .returning, M => match aresults T fn a M with
    | some v => some (.returned v, M)
    | none => none
  | [], .panicking ch, M => some (.panicked ch, M)
  | d :: r, u, M => match dcall P T ih d u M with
    | some (.returned _, u', M') => leave P T ih fn a r (asettle u') M'
    | some (.panicked ch, u', M') => leave P T ih fn a r (araised u' ch) M'
    | none => none

noncomputable def callF (P : Program) (T : Tab) (ih : Ev) (f : FuncId) (vs : List AV) (M : AMem) : Option (AEnd × AMem) :=
  match T.funcs.get f with
  | some fn => match fn.body with
    | some c => match codeF P T ih c (enterAct fn vs) M with
      | some (.normal, a, M') | some (.ret, a, M') => leave P T ih fn a a.defers .returning M'
      | some (.panic ch, a, M') => leave P T ih fn a a.defers (.panicking ch) M'
      | _ => none
    | none => none
  | none => none

noncomputable def ev (P : Program) (T : Tab) : Nat → Ev :=
  Nat.rec ⟨fun _ _ _ => none, fun _ _ _ => none⟩ fun _ ih => ⟨codeF P T ih, callF P T ih⟩

end Go.Tc
