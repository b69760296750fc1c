import Derived.Test.YtmeemfdpfdcghaaGreatDoorTcF

/- The evaluator once more, in stages: what hangs on the program's text alone is worked out once, and the kernel keeps it. -/
namespace Go.Tc

structure Box (α : Type) where
  un : α

noncomputable def Tr.top {α : Type} (t : Tr α) : Option α := Tr.rec (motive := fun _ => Option α) none (fun v _ _ _ _ => v) t
noncomputable def Tr.lft {α : Type} (t : Tr α) : Tr α := Tr.rec (motive := fun _ => Tr α) .leaf (fun _ l _ _ _ => l) t
noncomputable def Tr.rgt {α : Type} (t : Tr α) : Tr α := Tr.rec (motive := fun _ => Tr α) .leaf (fun _ _ r _ _ => r) t

noncomputable def getP : Nat → Nat → Box (Tr AV → Option AV)
  | 0, _ => ⟨fun _ => none⟩
  | _ + 1, 0 => ⟨fun t => t.top⟩
  | f + 1, k + 1 => match getP f (k / 2) with
    | ⟨g⟩ => if k % 2 = 0 then ⟨fun t => g t.lft⟩ else ⟨fun t => g t.rgt⟩

theorem getP_eq : ∀ (f k : Nat) (t : Tr AV), k < f → (getP f k).un t = t.get k := by
  intro f
  induction f with
  | zero => intro k t h; omega
  | succ f ih =>
    intro k t h
    cases k with
    | zero => cases t <;> rfl
    | succ k =>
      simp only [getP]
      by_cases e : k % 2 = 0
      · simp only [e, if_true]
        rw [ih _ _ (by omega)]
        cases t with
        | leaf => rfl
        | node v l r => rw [Tr.get_succ, if_pos e]; rfl
      · simp only [e, if_false]
        rw [ih _ _ (by omega)]
        cases t with
        | leaf => rfl
        | node v l r => rw [Tr.get_succ, if_neg e]; rfl

/-- An operand's value. -/
noncomputable def aevalK : Operand → Box (Tr AV → Option AV)
  | .tmp t => getP (t + 1) t
  | .const v => match absV v with
    | some u => ⟨fun _ => some u⟩
    | none => ⟨fun _ => none⟩
  | .global _ => ⟨fun _ => none⟩
  | .func f => ⟨fun _ => some (.func (.func f) [] [])⟩

theorem aevalK_eq (x : Operand) (a : AAct) : (aevalK x).un a.t = aeval a x := by
  cases x with
  | tmp t => exact getP_eq _ _ _ (Nat.lt_succ_self t)
  | const v => simp only [aevalK, aeval]; cases absV v <;> rfl
  | global _ => rfl
  | func f => rfl

noncomputable def aevalLK : List Operand → Box (Tr AV → Option (List AV))
  | [] => ⟨fun _ => some []⟩
  | x :: r => match aevalK x, aevalLK r with
    | ⟨f⟩, ⟨g⟩ => ⟨fun t => match f t with
      | some v => match g t with
        | some l => some (v :: l)
        | none => none
      | none => none⟩

theorem aevalLK_eq (l : List Operand) (a : AAct) : (aevalLK l).un a.t = aevalL a l := by
  induction l with
  | nil => rfl
  | cons x r ih => simp only [aevalLK, aevalL, ← ih, ← aevalK_eq]; rfl

/-- The n-th byte. -/
noncomputable def nth8 (c : List UInt8) : Nat → Option UInt8 :=
  List.rec (motive := fun _ => Nat → Option UInt8) (fun _ => none) (fun x _ ih o => Nat.rec (motive := fun _ => Option UInt8) (some x) (fun o _ => ih o) o) c

theorem nth8_eq (c : List UInt8) : ∀ o, nth8 c o = c[o]? := by
  induction c with
  | nil => intro o; rfl
  | cons x r ih =>
    intro o
    cases o with
    | zero => rfl
    | succ o => exact (ih o).trans (by simp)

/-- What stands between two values. -/
noncomputable def twoThen {β : Type} (x y : Option AV) (f : AV → AV → Option β) : Option β :=
  match x with
  | some v => match y with
    | some u => f v u
    | none => none
  | none => none

theorem twoThen_eq {β : Type} (x y : Option AV) (f g : AV → AV → Option β) (h : ∀ v u, f v u = g v u) : twoThen x y f = (match x, y with
    | some v, some u => g v u
    | _, _ => none) := by
  cases x with
  | none => rfl
  | some v => cases y with
    | none => rfl
    | some u => exact h v u

/-- Numbers and strings are compared, added and subtracted at once. -/
noncomputable def binK (P : Program) (T : Tab) (op : BinOp) (t : TypeId) (xo yo : Operand) : Box (Tr AV → Option AV) :=
  match aevalK xo, aevalK yo with
  | ⟨f⟩, ⟨g⟩ => match op with
    | .add => ⟨fun s => twoThen (f s) (g s) fun v u => addV v u (abin P T .add t xo yo v u)⟩
    | .sub => ⟨fun s => twoThen (f s) (g s) fun v u => subV v u (abin P T .sub t xo yo v u)⟩
    | op => match cmpI op, cmpS op with
      | some c, d => ⟨fun s => twoThen (f s) (g s) fun v u => cmpV c d v u (abin P T op t xo yo v u)⟩
      | none, _ => ⟨fun s => twoThen (f s) (g s) fun v u => abin P T op t xo yo v u⟩

theorem binK_eq (P : Program) (T : Tab) (op : BinOp) (t : TypeId) (xo yo : Operand) (a : AAct) : (binK P T op t xo yo).un a.t = vBin P T a op t xo yo := by
  have hgen : ∀ (op : BinOp), (match cmpI op, cmpS op with
      | some c, d => (⟨fun s => twoThen ((aevalK xo).un s) ((aevalK yo).un s) fun v u => cmpV c d v u (abin P T op t xo yo v u)⟩ : Box (Tr AV → Option AV))
      | none, _ => ⟨fun s => twoThen ((aevalK xo).un s) ((aevalK yo).un s) fun v u => abin P T op t xo yo v u⟩).un a.t = vBin P T a op t xo yo := by
    intro op
    simp only [vBin, ← aevalK_eq]
    cases hc : cmpI op with
    | none => exact twoThen_eq _ _ _ _ fun v u => rfl
    | some c => exact twoThen_eq _ _ _ _ fun v u => cmpV_eq hc P T t xo yo v u
  unfold binK
  split
  rename_i f g hf hg
  have hf' : (aevalK xo).un = f := by rw [hf]
  have hg' : (aevalK yo).un = g := by rw [hg]
  subst hf'; subst hg'
  split
  · simp only [vBin, ← aevalK_eq]
    exact twoThen_eq _ _ _ _ fun v u => addV_eq P T t xo yo v u
  · simp only [vBin, ← aevalK_eq]
    exact twoThen_eq _ _ _ _ fun v u => subV_eq P T t xo yo v u
  · exact hgen _

/-- A pointer's block and place. -/
noncomputable def ptrThen {β : Type} (x : Option AV) (f : Nat → Nat → Option β) : Option β :=
  match x with
  | some (.ptr b o) => f b o
  | _ => none

noncomputable def cellsThen {β : Type} (x : Option ABlk) (f : List AV → Option β) : Option β :=
  match x with
  | some (.cells c _ _ _ _) => f c
  | _ => none

noncomputable def nth (c : List AV) : Nat → Option AV :=
  List.rec (motive := fun _ => Nat → Option AV) (fun _ => none) (fun x _ ih o => Nat.rec (motive := fun _ => Option AV) (some x) (fun o _ => ih o) o) c

theorem nth_eq (c : List AV) : ∀ o, nth c o = c[o]? := by
  induction c with
  | nil => intro o; rfl
  | cons x r ih =>
    intro o
    cases o with
    | zero => rfl
    | succ o => exact (ih o).trans (by simp)

noncomputable def loadK (T : Tab) (t : TypeId) (x : Operand) : Box (Tr AV → AMem → Option AV) :=
  match aevalK x, T.types.get t with
  | ⟨f⟩, some i => if i.isAgg then ⟨fun s M => ptrThen (f s) fun b o => cellsThen (M.get b) fun c => (takeCells c o i.size).map .agg⟩
    else ⟨fun s M => ptrThen (f s) fun b o => cellsThen (M.get b) fun c => nth c o⟩
  | ⟨_⟩, none => ⟨fun _ _ => none⟩


theorem loadK_eq (T : Tab) (t : TypeId) (x : Operand) (a : AAct) (M : AMem) : (loadK T t x).un a.t M = vLoad T a M t x := by
  simp only [loadK, vLoad, ← aevalK_eq]
  cases hT : T.types.get t with
  | none =>
    show none = _
    cases (aevalK x).un a.t with
    | none => rfl
    | some v => cases v <;> simp [aload, hT]
  | some i =>
    simp only
    by_cases hi : i.isAgg = true
    · simp only [hi, if_true]
      show ptrThen ((aevalK x).un a.t) (fun b o => cellsThen (M.get b) fun c => (takeCells c o i.size).map AV.agg) = _
      cases (aevalK x).un a.t with
      | none => rfl
      | some v =>
        cases v <;> simp only [ptrThen]
        rename_i b o
        simp only [aload, hT]
        cases M.get b with
        | none => rfl
        | some k => cases k <;> simp [cellsThen, partOf, hi]
    · simp only [hi, if_false]
      show ptrThen ((aevalK x).un a.t) (fun b o => cellsThen (M.get b) fun c => nth c o) = _
      cases (aevalK x).un a.t with
      | none => rfl
      | some v =>
        cases v <;> simp only [ptrThen]
        rename_i b o
        simp only [aload, hT]
        cases M.get b with
        | none => rfl
        | some k => cases k <;> simp [cellsThen, partOf, hi, nth_eq]

/-- A byte of a string. -/
noncomputable def strIdx (x y : Option AV) : Option AV :=
  match x, y with
  | some (.string s), some iv => match asNat iv with
    | some n => match nth8 s.data.toList n with
      | some c => some (.int .u8 c.toNat)
      | none => none
    | none => none
  | _, _ => none

noncomputable def indexK (T : Tab) (t : TypeId) (x i : Operand) : Box (AAct → Option AV) :=
  match aevalK x, aevalK i, T.types.get t with
  | ⟨f⟩, ⟨g⟩, some { desc := .string, .. } => ⟨fun a => strIdx (f a.t) (g a.t)⟩
  | _, _, _ => ⟨fun a => vIndex T a t x i⟩

theorem indexK_eq (T : Tab) (t : TypeId) (x i : Operand) (a : AAct) : (indexK T t x i).un a = vIndex T a t x i := by
  unfold indexK
  split
  · rename_i f g sz by_ z hf hg ht
    show strIdx (f a.t) (g a.t) = _
    have hf' : (aevalK x).un = f := by rw [hf]
    have hg' : (aevalK i).un = g := by rw [hg]
    subst hf'; subst hg'
    rw [aevalK_eq, aevalK_eq]
    unfold strIdx vIndex
    rw [ht]
    cases aeval a x with
    | none => rfl
    | some v =>
      cases aeval a i with
      | none => cases v <;> rfl
      | some iv =>
        cases v <;> try rfl
        rename_i s
        simp only
        cases asNat iv with
        | none => rfl
        | some n =>
          simp only [nth8_eq]
          have : s[n]? = s.data.toList[n]? := by
            by_cases h : n < s.size
            · rw [getElem?_pos s n h]
              have hl : n < s.data.toList.length := by
                have : s.data.toList.length = s.size := by simp
                omega
              rw [List.getElem?_eq_getElem hl]
              rfl
            · rw [getElem?_neg s n h]
              have hl : s.data.toList.length ≤ n := by
                have : s.data.toList.length = s.size := by simp
                omega
              rw [List.getElem?_eq_none hl]
          rw [this]
          cases s.data.toList[n]? <;> rfl
  · rfl

/-- Looking for a byte. -/
noncomputable def extK (M : AMem) (e : AExt) (vs : List AV) : Option AV :=
  match e, vs with
  | .indexByte, [x, .int .u8 c] => match abytes M x with
    | some s => some (.int .i64 (findU (UInt8.ofNat c.toNat).toNat s.data.toList 0))
    | none => none
  | e, vs => areadExt M e vs

theorem extK_eq (M : AMem) (e : AExt) (vs : List AV) : extK M e vs = areadExt M e vs := by
  unfold extK
  split
  · rename_i x c
    simp only [areadExt]
    cases abytes M x with
    | none => rfl
    | some s =>
      simp only [← findU_eq]
      cases (List.range s.size).find? (fun i => s[i]! == UInt8.ofNat c.toNat) <;> rfl
  · rfl

end Go.Tc
