import Derived.Test.YtbnnikpgopjieaaGreatDoorTcF

/- The evaluator once more, in stages: what hangs on the program's text alone is worked out once, and the kernel keeps it. -/
namespace Go.Tc

structure Box (α : Type) where
  un : α

noncomputable def Tr.top {α : Type} (t : Tr α) : Option α := Tr.rec (motive := fun _ => Option α) none (fun v _ _ _ _ => v) t
noncomputable def Tr.lft {α : Type} (t : Tr α) : Tr α := Tr.rec (motive := fun _ => Tr α) .leaf (fun _ l _ _ _ => l) t
noncomputable def Tr.rgt {α : Type} (t : Tr α) : Tr α := Tr.rec (motive := fun _ => Tr α) .leaf (fun _ _ r _ _ => r) t

noncomputable def getP : Nat → Nat → Box (Tr AV → Option AV)
  | 0, _ => ⟨fun _ => none⟩
  | _ + 1, 0 => ⟨fun t => t.top⟩
  | f + 1, k + 1 => match getP f (k / 2) with
    | ⟨g⟩ => if k % 2 = 0 then ⟨fun t => g t.lft⟩ else ⟨fun t => g t.rgt⟩

theorem getP_eq : ∀ (f k : Nat) (t : Tr AV), k < f → (getP f k).un t = t.get k := by
  intro f
  induction f with
  | zero => intro k t h; omega
  | succ f ih =>
    intro k t h
    cases k with
    | zero => cases t <;> rfl
    | succ k =>
      simp only [getP]
      by_cases e : k % 2 = 0
      · simp only [e, if_true]
        rw [ih _ _ (by omega)]
        cases t with
        | leaf => rfl
        | node v l r => rw [Tr.get_succ, if_pos e]; rfl
      · simp only [e, if_false]
        rw [ih _ _ (by omega)]
        cases t with
        | leaf => rfl
        | node v l r => rw [Tr.get_succ, if_neg e]; rfl

/-- An operand's value. -/
noncomputable def aevalK : Operand → Box (Tr AV → Option AV)
  | .tmp t => getP (t + 1) t
  | .const v => match absV v with
    | some u => ⟨fun _ => some u⟩
    | none => ⟨fun _ => none⟩
  | .global _ => ⟨fun _ => none⟩
  | .func f => ⟨fun _ => some (.func (.func f) [] [])⟩

theorem aevalK_eq (x : Operand) (a : AAct) : (aevalK x).un a.t = aeval a x := by
  cases x with
  | tmp t => exact getP_eq _ _ _ (Nat.lt_succ_self t)
  | const v => simp only [aevalK, aeval]; cases absV v <;> rfl
  | global _ => rfl
  | func f => rfl

noncomputable def aevalLK : List Operand → Box (Tr AV → Option (List AV))
  | [] => ⟨fun _ => some []⟩
  | x :: r => match aevalK x, aevalLK r with
    | ⟨f⟩, ⟨g⟩ => ⟨fun t => match f t with
      | some v => match g t with
        | some l => some (v :: l)
        | none => none
      | none => none⟩

theorem aevalLK_eq (l : List Operand) (a : AAct) : (aevalLK l).un a.t = aevalL a l := by
  induction l with
  | nil => rfl
  | cons x r ih => simp only [aevalLK, aevalL, ← ih, ← aevalK_eq]; rfl

/-- Integers are compared, added and subtracted at once. -/
noncomputable def binK (P : Program) (T : Tab) (op : BinOp) (t : TypeId) (xo yo : Operand) : Box (Tr AV → Option AV) :=
  match aevalK xo, aevalK yo with
  | ⟨f⟩, ⟨g⟩ => ⟨fun s => match f s with
    | some v => match g s with
      | some u => abin P T op t xo yo v u
      | none => none
    | none => none⟩

theorem binK_eq (P : Program) (T : Tab) (op : BinOp) (t : TypeId) (xo yo : Operand) (a : AAct) : (binK P T op t xo yo).un a.t = vBin P T a op t xo yo := by
  simp only [binK, vBin, ← aevalK_eq]
  cases (aevalK xo).un a.t with
  | none => rfl
  | some v => cases (aevalK yo).un a.t <;> rfl

/-- A pointer's block and place. -/
noncomputable def ptrThen {β : Type} (x : Option AV) (f : Nat → Nat → Option β) : Option β :=
  match x with
  | some (.ptr b o) => f b o
  | _ => none

noncomputable def cellsThen {β : Type} (x : Option ABlk) (f : List AV → Option β) : Option β :=
  match x with
  | some (.cells c _ _ _ _) => f c
  | _ => none

noncomputable def nth (c : List AV) : Nat → Option AV :=
  List.rec (motive := fun _ => Nat → Option AV) (fun _ => none) (fun x _ ih o => Nat.rec (motive := fun _ => Option AV) (some x) (fun o _ => ih o) o) c

theorem nth_eq (c : List AV) : ∀ o, nth c o = c[o]? := by
  induction c with
  | nil => intro o; rfl
  | cons x r ih =>
    intro o
    cases o with
    | zero => rfl
    | succ o => exact (ih o).trans (by simp)

noncomputable def loadK (T : Tab) (t : TypeId) (x : Operand) : Box (Tr AV → AMem → Option AV) :=
  match aevalK x, T.types.get t with
  | ⟨f⟩, some i => if i.isAgg then ⟨fun s M => ptrThen (f s) fun b o => cellsThen (M.get b) fun c => (takeCells c o i.size).map .agg⟩
    else ⟨fun s M => ptrThen (f s) fun b o => cellsThen (M.get b) fun c => nth c o⟩
  | ⟨_⟩, none => ⟨fun _ _ => none⟩


theorem loadK_eq (T : Tab) (t : TypeId) (x : Operand) (a : AAct) (M : AMem) : (loadK T t x).un a.t M = vLoad T a M t x := by
  simp only [loadK, vLoad, ← aevalK_eq]
  cases hT : T.types.get t with
  | none =>
    show none = _
    cases (aevalK x).un a.t with
    | none => rfl
    | some v => cases v <;> simp [aload, hT]
  | some i =>
    simp only
    by_cases hi : i.isAgg = true
    · simp only [hi, if_true]
      show ptrThen ((aevalK x).un a.t) (fun b o => cellsThen (M.get b) fun c => (takeCells c o i.size).map AV.agg) = _
      cases (aevalK x).un a.t with
      | none => rfl
      | some v =>
        cases v <;> simp only [ptrThen]
        rename_i b o
        simp only [aload, hT]
        cases M.get b with
        | none => rfl
        | some k => cases k <;> simp [cellsThen, partOf, hi]
    · simp only [hi, if_false]
      show ptrThen ((aevalK x).un a.t) (fun b o => cellsThen (M.get b) fun c => nth c o) = _
      cases (aevalK x).un a.t with
      | none => rfl
      | some v =>
        cases v <;> simp only [ptrThen]
        rename_i b o
        simp only [aload, hT]
        cases M.get b with
        | none => rfl
        | some k => cases k <;> simp [cellsThen, partOf, hi, nth_eq]

end Go.Tc
