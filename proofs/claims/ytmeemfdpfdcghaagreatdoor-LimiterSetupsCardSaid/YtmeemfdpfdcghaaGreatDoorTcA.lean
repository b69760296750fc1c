import Derived.Calls
import Derived.Defers
import Derived.Recover
import Derived.KernelRfl

/- Abstract values, abstract memory, and what they stand for in a world of the model. -/
namespace Go.Tc

/-- A tree of numbers: a finite map from Nat, whose look-up goes by the number's bits. -/
inductive Tr (α : Type) where
  | leaf
  | node (v : Option α) (l r : Tr α)

namespace Tr
variable {α : Type}

noncomputable def getC : Tr α → Nat → Option α
  | .leaf, _ => none
  | .node v l r, k =>
    match k with
    | 0 => v
    | k + 1 => if k % 2 = 0 then getC l (k / 2) else getC r (k / 2)

noncomputable def get (t : Tr α) : Nat → Option α :=
  Tr.rec (motive := fun _ => Nat → Option α) (fun _ => none)
    (fun v _ _ gl gr k => Nat.rec (motive := fun _ => Option α) v (fun k _ => Bool.rec (motive := fun _ => Option α) (gr (Nat.div k 2)) (gl (Nat.div k 2)) (Nat.beq (Nat.mod k 2) 0)) k) t

noncomputable def setC (x : Option α) : Nat → Tr α → Nat → Tr α
  | 0, t, _ => t
  | f + 1, t, k =>
    match t, k with
    | .leaf, 0 => .node x .leaf .leaf
    | .leaf, k + 1 => if k % 2 = 0 then .node none (setC x f .leaf (k / 2)) .leaf else .node none .leaf (setC x f .leaf (k / 2))
    | .node _ l r, 0 => .node x l r
    | .node v l r, k + 1 => if k % 2 = 0 then .node v (setC x f l (k / 2)) r else .node v l (setC x f r (k / 2))

noncomputable def setF (x : Option α) (f : Nat) : Tr α → Nat → Tr α :=
  Nat.rec (motive := fun _ => Tr α → Nat → Tr α) (fun t _ => t)
    (fun _ ih t k => Tr.rec (motive := fun _ => Tr α)
      (Nat.rec (motive := fun _ => Tr α) (.node x .leaf .leaf) (fun k _ => Bool.rec (motive := fun _ => Tr α) (.node none .leaf (ih .leaf (Nat.div k 2))) (.node none (ih .leaf (Nat.div k 2)) .leaf) (Nat.beq (Nat.mod k 2) 0)) k)
      (fun v l r _ _ => Nat.rec (motive := fun _ => Tr α) (.node x l r) (fun k _ => Bool.rec (motive := fun _ => Tr α) (.node v l (ih r (Nat.div k 2))) (.node v (ih l (Nat.div k 2)) r) (Nat.beq (Nat.mod k 2) 0)) k) t) f

noncomputable def set (t : Tr α) (k : Nat) (x : Option α) : Tr α := setF x (k + 1) t k

theorem boolRec {β : Type} (a b : β) (k : Nat) : (Bool.rec (motive := fun _ => β) b a (Nat.beq (Nat.mod k 2) 0)) = if k % 2 = 0 then a else b := by
  by_cases h : k % 2 = 0
  · have : Nat.beq (Nat.mod k 2) 0 = true := by rw [show Nat.mod k 2 = 0 from h]; rfl
    rw [this, if_pos h]
  · have : Nat.beq (Nat.mod k 2) 0 = false := by
      rw [Bool.eq_false_iff]
      intro e
      exact h (Nat.eq_of_beq_eq_true e)
    rw [this, if_neg h]

theorem get_leaf (k : Nat) : (Tr.leaf : Tr α).get k = none := rfl
theorem get_zero (v : Option α) (l r : Tr α) : (Tr.node v l r).get 0 = v := rfl
theorem get_succ (v : Option α) (l r : Tr α) (k : Nat) : (Tr.node v l r).get (k + 1) = if k % 2 = 0 then l.get (k / 2) else r.get (k / 2) := boolRec _ _ k
theorem setF_none (x : Option α) (t : Tr α) (k : Nat) : setF x 0 t k = t := rfl
theorem setF_leaf0 (x : Option α) (f : Nat) : setF x (f + 1) .leaf 0 = .node x .leaf .leaf := rfl
theorem setF_leafS (x : Option α) (f k : Nat) : setF x (f + 1) .leaf (k + 1) = if k % 2 = 0 then .node none (setF x f .leaf (k / 2)) .leaf else .node none .leaf (setF x f .leaf (k / 2)) := boolRec _ _ k
theorem setF_node0 (x v : Option α) (l r : Tr α) (f : Nat) : setF x (f + 1) (.node v l r) 0 = .node x l r := rfl
theorem setF_nodeS (x v : Option α) (l r : Tr α) (f k : Nat) : setF x (f + 1) (.node v l r) (k + 1) = if k % 2 = 0 then .node v (setF x f l (k / 2)) r else .node v l (setF x f r (k / 2)) := boolRec _ _ k

theorem get_setF (x : Option α) : ∀ (f : Nat) (t : Tr α) (k j : Nat), k < f → (setF x f t k).get j = if j = k then x else t.get j := by
  intro f
  induction f with
  | zero => intro t k j h; omega
  | succ f ih =>
    intro t k j h
    cases t with
    | leaf =>
      cases k with
      | zero => cases j <;> simp [setF_leaf0, get_zero, get_succ, get_leaf]
      | succ k =>
        have hk : k / 2 < f := by omega
        by_cases hp : k % 2 = 0
        · simp only [setF_leafS, hp, if_true]
          cases j with
          | zero => simp [get_zero, get_leaf]
          | succ j =>
            by_cases hj : j % 2 = 0
            · simp only [get_succ, get_leaf, hj, if_true, ih _ _ _ hk]
              by_cases e : j = k
              · simp [e]
              · have : ¬ j / 2 = k / 2 := by omega
                simp [e, this]
            · have e : ¬ j = k := by rintro rfl; exact hj hp
              simp [get_succ, get_leaf, hj, e]
        · simp only [setF_leafS, hp, if_false]
          cases j with
          | zero => simp [get_zero, get_leaf]
          | succ j =>
            by_cases hj : j % 2 = 0
            · have e : ¬ j = k := by rintro rfl; exact hp hj
              simp [get_succ, get_leaf, hj, e]
            · simp only [get_succ, get_leaf, hj, if_false, ih _ _ _ hk]
              by_cases e : j = k
              · simp [e]
              · have : ¬ j / 2 = k / 2 := by omega
                simp [e, this]
    | node v l r =>
      cases k with
      | zero => cases j <;> simp [setF_node0, get_zero, get_succ]
      | succ k =>
        have hk : k / 2 < f := by omega
        by_cases hp : k % 2 = 0
        · simp only [setF_nodeS, hp, if_true]
          cases j with
          | zero => simp [get_zero]
          | succ j =>
            by_cases hj : j % 2 = 0
            · simp only [get_succ, hj, if_true, ih _ _ _ hk]
              by_cases e : j = k
              · simp [e]
              · have : ¬ j / 2 = k / 2 := by omega
                simp [e, this]
            · have e : ¬ j = k := by rintro rfl; exact hj hp
              simp [get_succ, hj, e]
        · simp only [setF_nodeS, hp, if_false]
          cases j with
          | zero => simp [get_zero]
          | succ j =>
            by_cases hj : j % 2 = 0
            · have e : ¬ j = k := by rintro rfl; exact hp hj
              simp [get_succ, hj, e]
            · simp only [get_succ, hj, if_false, ih _ _ _ hk]
              by_cases e : j = k
              · simp [e]
              · have : ¬ j / 2 = k / 2 := by omega
                simp [e, this]

theorem get_set (t : Tr α) (k j : Nat) (x : Option α) : (t.set k x).get j = if j = k then x else t.get j :=
  get_setF x _ t k j (Nat.lt_succ_self k)

end Tr

/-- Abstract values. Blocks are numbers of the abstract memory. 'slice b o adv len cap': the slice that begins adv elements behind cell o of block b
 (adv is 0 where len is not); cap: none: up to the end of the memory behind it. -/
inductive AV where
  | bool (b : Bool)
  | int (k : IntKind) (n : Int)
  | float (k : FloatKind) (bits : Nat)
  | string (s : ByteArray)
  | nilPtr
  | ptr (b o : Nat)
  | nilSlice
  | slice (b o adv len : Nat) (cap : Option Nat)
  | nilMap
  | map (b : Nat)
  | func (fn : Fn) (first captured : List AV)
  | nilFunc
  | iface (t : TypeId) (v : AV)
  | nilIface
  | agg (cs : List AV)
  | tuple (vs : List AV)
  deriving Inhabited

/-- Where an abstract block lies: the concrete block, the place of its first cell, the concrete block's size, the cells of one element. -/
structure Pl where
  B : Nat
  sh : Nat
  S : Nat
  es : Nat

abbrev Rho := Nat → Option Pl

noncomputable def concPtr (ρ : Rho) (b o : Nat) : Value :=
  match ρ b with
  | some p => .pointer (some ⟨p.B, p.sh + o, none⟩)
  | none => undef

noncomputable def concSlice (ρ : Rho) (b o adv len : Nat) (cap : Option Nat) : Value :=
  match ρ b with
  | some p =>
    let c := cap.getD ((p.S - (p.sh + o)) / p.es)
    if adv = 0 then .slice (some ⟨p.B, p.sh + o, none⟩) len c
    else if c = adv then .slice (some ⟨p.B, p.sh + o, none⟩) len 0
    else .slice (some ⟨p.B, p.sh + o + adv * p.es, none⟩) len (c - adv)
  | none => undef

noncomputable def concMap (ρ : Rho) (b : Nat) : Value :=
  match ρ b with
  | some p => .map (some p.B)
  | none => undef

mutual
noncomputable def conc (ρ : Rho) : AV → Value
  | .bool b => .bool b
  | .int k n => .int k n
  | .float k b => .float k b
  | .string s => .string s
  | .nilPtr => .pointer none
  | .ptr b o => concPtr ρ b o
  | .nilSlice => .slice none 0 0
  | .slice b o adv len cap => concSlice ρ b o adv len cap
  | .nilMap => .map none
  | .map b => concMap ρ b
  | .func fn first captured => .func fn (concL ρ first).toArray (concL ρ captured).toArray
  | .nilFunc => .nilFunc
  | .iface t v => .iface t (conc ρ v)
  | .nilIface => .nilIface
  | .agg cs => .agg (concL ρ cs).toArray
  | .tuple vs => .tuple (concL ρ vs).toArray
noncomputable def concL (ρ : Rho) : List AV → List Value
  | [] => []
  | v :: r => conc ρ v :: concL ρ r
end

mutual
noncomputable def okv (ρ : Rho) : AV → Prop
  | .bool _ | .int _ _ | .float _ _ | .string _ | .nilPtr | .nilSlice | .nilMap | .nilFunc | .nilIface => True
  | .ptr b _ => ∃ p, ρ b = some p
  | .slice b o adv len cap => ∃ p, ρ b = some p ∧ 0 < p.es ∧ p.sh + o + (adv + len) * p.es ≤ p.S ∧
      (0 < len → adv = 0) ∧ ∀ c, cap = some c → adv + len ≤ c ∧ p.sh + o + c * p.es ≤ p.S
  | .map b => ∃ p, ρ b = some p
  | .func _ first captured => okL ρ first ∧ okL ρ captured
  | .iface _ v => okv ρ v
  | .agg cs => okL ρ cs
  | .tuple vs => okL ρ vs
noncomputable def okL (ρ : Rho) : List AV → Prop
  | [] => True
  | v :: r => okv ρ v ∧ okL ρ r
end

theorem concL_eq (ρ : Rho) (l : List AV) : concL ρ l = l.map (conc ρ) := by
  induction l with
  | nil => simp [concL]
  | cons v r ih => simp [concL, ih]

theorem okL_iff (ρ : Rho) (l : List AV) : okL ρ l ↔ ∀ v ∈ l, okv ρ v := by
  induction l with
  | nil => simp [okL]
  | cons v r ih => simp [okL, ih]

noncomputable def Ext (ρ ρ' : Rho) : Prop := ∀ b p, ρ b = some p → ρ' b = some p

theorem Ext.refl (ρ : Rho) : Ext ρ ρ := fun _ _ h => h
theorem Ext.trans {a b c : Rho} (h : Ext a b) (k : Ext b c) : Ext a c := fun _ _ e => k _ _ (h _ _ e)

mutual
theorem conc_ext {ρ ρ' : Rho} (h : Ext ρ ρ') : ∀ v : AV, okv ρ v → conc ρ' v = conc ρ v ∧ okv ρ' v
  | .bool _, _ | .int _ _, _ | .float _ _, _ | .string _, _ | .nilPtr, _ | .nilSlice, _ | .nilMap, _ | .nilFunc, _ | .nilIface, _ => by simp [conc, okv]
  | .ptr b o, hv => by
    obtain ⟨p, hp⟩ := hv
    exact ⟨by simp [conc, concPtr, hp, h _ _ hp], p, h _ _ hp⟩
  | .slice b o adv len cap, hv => by
    obtain ⟨p, hp, hr⟩ := hv
    exact ⟨by simp [conc, concSlice, hp, h _ _ hp], p, h _ _ hp, hr⟩
  | .map b, hv => by
    obtain ⟨p, hp⟩ := hv
    exact ⟨by simp [conc, concMap, hp, h _ _ hp], p, h _ _ hp⟩
  | .func fn first captured, hv => by
    have h1 := concL_ext h first hv.1
    have h2 := concL_ext h captured hv.2
    exact ⟨by simp [conc, h1.1, h2.1], h1.2, h2.2⟩
  | .iface t v, hv => by
    have h1 := conc_ext h v hv
    exact ⟨by simp [conc, h1.1], h1.2⟩
  | .agg cs, hv => by
    have h1 := concL_ext h cs hv
    exact ⟨by simp [conc, h1.1], h1.2⟩
  | .tuple cs, hv => by
    have h1 := concL_ext h cs hv
    exact ⟨by simp [conc, h1.1], h1.2⟩
theorem concL_ext {ρ ρ' : Rho} (h : Ext ρ ρ') : ∀ l : List AV, okL ρ l → concL ρ' l = concL ρ l ∧ okL ρ' l
  | [], _ => by simp [concL, okL]
  | v :: r, hv => by
    have h1 := conc_ext h v hv.1
    have h2 := concL_ext h r hv.2
    exact ⟨by simp [concL, h1.1, h2.1], h1.2, h2.2⟩
end

/-- An entry of a map. -/
structure AEnt where
  key : AV
  val : AV
  born : Nat

inductive ABlk where
  /-- cells; fz: those below are frozen, or may be; q: what is frozen lies below fz; ex: these are all cells of the concrete block -/
  | cells (c : List AV) (elem : TypeId) (fz : Nat) (q ex : Bool)
  | map (es : List AEnt) (clock : Nat)
  | siter (s : ByteArray) (pos : Nat)
  | miter (m : Option Nat) (since : Nat) (seen : List Nat) (stepped : Nat)

/-- Abstract memory: blocks by number; a number that has none was consumed, or was never made. -/
structure AMem where
  next : Nat
  t : Tr ABlk

noncomputable def AMem.get (M : AMem) (b : Nat) : Option ABlk := M.t.get b
noncomputable def AMem.set (M : AMem) (b : Nat) (k : ABlk) : AMem := { M with t := M.t.set b (some k) }
noncomputable def AMem.kill (M : AMem) (b : Nat) : AMem := { M with t := M.t.set b none }
noncomputable def AMem.push (M : AMem) (k : ABlk) : AMem := { next := M.next + 1, t := M.t.set M.next (some k) }

theorem AMem.get_set (M : AMem) (b j : Nat) (k : ABlk) : (M.set b k).get j = if j = b then some k else M.get j := Tr.get_set _ _ _ _
theorem AMem.get_kill (M : AMem) (b j : Nat) : (M.kill b).get j = if j = b then none else M.get j := Tr.get_set _ _ _ _
theorem AMem.get_push (M : AMem) (j : Nat) (k : ABlk) : (M.push k).get j = if j = M.next then some k else M.get j := Tr.get_set _ _ _ _
theorem AMem.next_set (M : AMem) (b : Nat) (k : ABlk) : (M.set b k).next = M.next := rfl
theorem AMem.next_kill (M : AMem) (b : Nat) : (M.kill b).next = M.next := rfl
theorem AMem.next_push (M : AMem) (k : ABlk) : (M.push k).next = M.next + 1 := rfl

noncomputable def concEnt (ρ : Rho) (e : AEnt) : MapEntry := { key := conc ρ e.key, val := conc ρ e.val, born := e.born }

noncomputable def BlkOk (P : Program) (ρ : Rho) (p : Pl) : ABlk → Obj → Prop
  | .cells c e fz q ex, .cells C e' fr => e' = e ∧ C.size = p.S ∧ p.sh + c.length ≤ p.S ∧ (∀ i v, c[i]? = some v → C[p.sh + i]? = some (conc ρ v) ∧ okv ρ v) ∧
      (∀ i, p.sh + fz ≤ i → i < p.S → ¬ (fr.1 ≤ i ∧ i < fr.2)) ∧ ((q = true → fr.1 = fr.2 ∨ fr.2 ≤ p.sh + fz) ∧ (fz = 0 → p.sh = 0 → fr.1 = fr.2 ∨ p.S ≤ fr.1)) ∧ (ex = true → p.sh = 0 ∧ c.length = p.S) ∧ ∃ f, P.info? e = some f ∧ f.size = p.es
  | .map es cl, .map ES CL => CL = cl ∧ ES.toList = es.map (concEnt ρ) ∧ ∀ e ∈ es, okv ρ e.key ∧ okv ρ e.val
  | .siter s i, .stringIter s' i' => s' = s ∧ i' = i ∧ p.sh = 0
  | .miter m a l b, .mapIter m' a' l' b' => a' = a ∧ l'.toList = l ∧ b' = b ∧ p.sh = 0 ∧ match m, m' with
    | none, none => True
    | some x, some y => ∃ q, ρ x = some q ∧ q.B = y
    | _, _ => False
  | _, _ => False

/-- What abstract memory says of a world. -/
structure Sim (P : Program) (ρ : Rho) (M : AMem) (w : World) : Prop where
  blk : ∀ b k p, M.get b = some k → ρ b = some p → ∃ o, w.heap[p.B]? = some o ∧ BlkOk P ρ p k o
  inj : ∀ b b' k k' p p', M.get b = some k → M.get b' = some k' → ρ b = some p → ρ b' = some p' → p.B = p'.B → b = b'
  dom : ∀ b p, ρ b = some p → b < M.next ∧ p.B < w.heap.size
  low : ∀ b k, M.get b = some k → b < M.next

/-- From one world to a later one: what was placed stays placed; what is placed anew lies in new blocks, or in some that were placed; all else is as it was. -/
structure Adv (M : AMem) (ρ : Rho) (w : World) (M' : AMem) (ρ' : Rho) (w' : World) : Prop where
  mono : M.next ≤ M'.next
  fresh : ∀ b p, ρ' b = some p → ρ b = none → M.next ≤ b
  ext : Ext ρ ρ'
  new : ∀ b p, ρ' b = some p → ρ b = none → w.heap.size ≤ p.B ∨ ∃ b₀ p₀, ρ b₀ = some p₀ ∧ p₀.B = p.B
  os : w'.os = w.os
  tape : w'.tape = w.tape
  output : w'.output = w.output
  size : w.heap.size ≤ w'.heap.size
  keep : ∀ B, B < w.heap.size → (∀ b p, ρ b = some p → p.B ≠ B) → w'.heap[B]? = w.heap[B]?

theorem Adv.still {M M' : AMem} {ρ : Rho} {w w' : World} (hn : M.next ≤ M'.next) (h0 : w'.os = w.os) (h1 : w'.tape = w.tape) (h2 : w'.output = w.output) (h3 : w.heap.size ≤ w'.heap.size)
    (h4 : ∀ B, B < w.heap.size → (∀ b p, ρ b = some p → p.B ≠ B) → w'.heap[B]? = w.heap[B]?) : Adv M ρ w M' ρ w' :=
  ⟨hn, fun b p h k => absurd h (by rw [k]; simp), Ext.refl ρ, fun b p h k => absurd h (by rw [k]; simp), h0, h1, h2, h3, h4⟩

theorem Adv.refl (M : AMem) (ρ : Rho) (w : World) : Adv M ρ w M ρ w := Adv.still (Nat.le_refl _) rfl rfl rfl (Nat.le_refl _) (fun _ _ _ => rfl)

theorem Adv.trans {M M₁ M₂ : AMem} {ρ ρ₁ ρ₂ : Rho} {w w₁ w₂ : World} (h : Adv M ρ w M₁ ρ₁ w₁) (k : Adv M₁ ρ₁ w₁ M₂ ρ₂ w₂) : Adv M ρ w M₂ ρ₂ w₂ := by
  refine { mono := Nat.le_trans h.mono k.mono, fresh := ?_, ext := Ext.trans h.ext k.ext, new := ?_, os := k.os.trans h.os, tape := k.tape.trans h.tape, output := k.output.trans h.output, size := Nat.le_trans h.size k.size, keep := ?_ }
  · intro b p hb hn
    cases h1 : ρ₁ b with
    | some q => exact h.fresh b q h1 hn
    | none => exact Nat.le_trans h.mono (k.fresh b p hb h1)
  · intro b p hb hn
    cases h1 : ρ₁ b with
    | some q =>
      have : ρ₂ b = some q := k.ext _ _ h1
      rw [hb] at this
      cases this
      exact h.new b p h1 hn
    | none =>
      rcases k.new b p hb h1 with hge | ⟨b₀, p₀, h₀, e₀⟩
      · exact .inl (Nat.le_trans h.size hge)
      · cases h2 : ρ b₀ with
        | some q =>
          have := h.ext _ _ h2
          rw [h₀] at this
          cases this
          exact .inr ⟨b₀, p₀, h2, e₀⟩
        | none =>
          rcases h.new b₀ p₀ h₀ h2 with hge | ⟨b₁, p₁, h₁, e₁⟩
          · exact .inl (by rw [← e₀]; exact hge)
          · exact .inr ⟨b₁, p₁, h₁, e₁.trans e₀⟩
  · intro B hB hno
    have h1 := h.keep B hB hno
    rw [k.keep B (Nat.lt_of_lt_of_le hB h.size) ?_, h1]
    intro b p hb e
    cases h2 : ρ b with
    | some q =>
      have := h.ext _ _ h2
      rw [hb] at this
      cases this
      exact hno b p h2 e
    | none =>
      rcases h.new b p hb h2 with hge | ⟨b₀, p₀, h₀, e₀⟩
      · omega
      · exact hno b₀ p₀ h₀ (e₀.trans e)

end Go.Tc
