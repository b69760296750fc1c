/- Soundness: tables, frames, operations that compute or look. -/
import Derived.Test.YtmeemfdpfdcghaaGreatDoorTcJ
import Derived.Laws.Sem
import Derived.Laws.Cells
import Derived.Laws.BytesString

/- Soundness, first part: tables, frames, flat values, loads and stores. -/
namespace Go.Tc

/-! ### flat values -/

mutual
theorem flat_conc (ρ : Rho) : ∀ v : AV, flat v = true → conc ρ v = cv v ∧ okv ρ v
  | .bool _, _ | .int _ _, _ | .float _ _, _ | .string _, _ | .nilPtr, _ | .nilSlice, _ | .nilMap, _ | .nilFunc, _ | .nilIface, _ => by simp [conc, cv, okv]
  | .ptr b o, h => by simp [flat] at h
  | .slice b o adv len cap, h => by simp [flat] at h
  | .map b, h => by simp [flat] at h
  | .func fn f c, h => by simp [flat] at h
  | .iface t v, h => by
    have h1 := flat_conc ρ v (by simpa [flat] using h)
    exact ⟨by simp only [conc, cv] at *; simp [h1.1], h1.2⟩
  | .agg cs, h => by
    have h1 := flatL_conc ρ cs (by simpa [flat] using h)
    exact ⟨by simp [conc, cv, h1.1], h1.2⟩
  | .tuple cs, h => by
    have h1 := flatL_conc ρ cs (by simpa [flat] using h)
    exact ⟨by simp [conc, cv, h1.1], h1.2⟩
theorem flatL_conc (ρ : Rho) : ∀ l : List AV, flatL l = true → concL ρ l = concL rho0 l ∧ okL ρ l
  | [], _ => by simp [concL, okL]
  | v :: r, h => by
    simp only [flatL, Bool.and_eq_true] at h
    have h1 := flat_conc ρ v h.1
    have h2 := flatL_conc ρ r h.2
    exact ⟨by simp [concL, h1.1, h2.1, cv], h1.2, h2.2⟩
end

theorem evalPure_run {α : Type} (P : Program) : ∀ (s : Sem α) (a : α), evalPure P s = some a → ∀ w, s.run P w = .ok a w := by
  intro s
  induction s with
  | pure x => intro a h w; simp [evalPure] at h; simp [h, Sem.run]
  | program k ih => intro a h w; simp only [evalPure] at h; simp only [Sem.run]; exact ih _ _ h w
  | mark m k ih => intro a h w; simp only [evalPure] at h; simp only [Sem.run]; exact ih _ h w
  | load => intro a h; simp [evalPure] at h
  | store => intro a h; simp [evalPure] at h
  | new => intro a h; simp [evalPure] at h
  | shape => intro a h; simp [evalPure] at h
  | freeze => intro a h; simp [evalPure] at h
  | frozen => intro a h; simp [evalPure] at h
  | getObj => intro a h; simp [evalPure] at h
  | setObj => intro a h; simp [evalPure] at h
  | choose => intro a h; simp [evalPure] at h
  | sys => intro a h; simp [evalPure] at h
  | halt => intro a h; simp [evalPure] at h

theorem absV_conc {v : Value} {a : AV} (h : absV v = some a) (ρ : Rho) : conc ρ a = v ∧ okv ρ a := by
  unfold absV at h
  split at h <;> first
    | (cases h; simp [conc, okv])
    | cases h

theorem pureV_run {P : Program} {s : Sem Value} {a : AV} (h : pureV P s = some a) (ρ : Rho) (w : World) : s.run P w = .ok (conc ρ a) w ∧ okv ρ a := by
  unfold pureV at h
  split at h
  · rename_i v hv
    have := absV_conc h ρ
    exact ⟨by rw [this.1]; exact evalPure_run P s v hv w, this.2⟩
  · cases h

/-! ### tables -/

structure TInfoOk (P : Program) (t : TypeId) (i : TInfo) : Prop where
  und : P.underlying t = some i.desc
  info : ∃ f, P.info? t = some f ∧ f.size = i.size ∧ f.bytes = i.bytes ∧ f.zero = some (cv i.zero)
  flat : flat i.zero = true
  size : i.zero.cells.length = i.size
  cell : i.zero.cells.all AV.cell = true
  agg : i.isAgg = false → i.size = 1

noncomputable def ExtOk (fn : Func) : AExt → Prop
  | .indexByte => Extern.findNext fn = none ∧ Extern.find fn = some Extern.BytealgIndexByte.indexByte
  | .count => Extern.findNext fn = none ∧ Extern.find fn = some Extern.BytealgCount.count
  | .f64bits => Extern.findNext fn = none ∧ Extern.find fn = some Extern.MathFloatBits.float64bits
  | .f64frombits => Extern.findNext fn = none ∧ Extern.find fn = some Extern.MathFloatBits.float64frombits
  | .noEscape => Extern.findNext fn = none ∧ Extern.find fn = some Extern.AbiNoEscape.same
  | .makeNoZero => Extern.findNext fn = none ∧ Extern.find fn = some (Extern.BytealgMakeNoZero.makeNoZero fn.params fn.resultTypes)

structure TabOk (P : Program) (T : Tab) : Prop where
  types : ∀ t i, T.types.get t = some i → TInfoOk P t i
  funcs : ∀ f fn, T.funcs.get f = some fn → P.funcs[f]? = some fn ∧ (fn.name == "runtime.NumGoroutine") = false
  ext : ∀ f e, T.ext.get f = some e → ∃ fn, T.funcs.get f = some fn ∧ fn.body = none ∧ ExtOk fn e
  mixed : P.follows .mixedOrders = true

/-! ### frames -/

noncomputable def concDef (ρ : Rho) (d : ADef) : Deferred := { target := .fn d.fn (concL ρ d.captured).toArray, args := (concL ρ d.args).toArray }

structure ActRel (ρ : Rho) (a : AAct) (ca : Act) : Prop where
  size : ca.tmps.size = a.n
  tmps : ∀ t v, a.t.get t = some v → ca.tmps[t]? = some (conc ρ v) ∧ okv ρ v
  defers : ca.defers = a.defers.map (concDef ρ)
  defok : ∀ d ∈ a.defers, okL ρ d.captured ∧ okL ρ d.args

theorem ActRel.ext {ρ ρ' : Rho} {a : AAct} {ca : Act} (h : ActRel ρ a ca) (e : Ext ρ ρ') : ActRel ρ' a ca := by
  refine ⟨h.size, ?_, ?_, ?_⟩
  · intro t v ht
    have h1 := h.tmps t v ht
    have h2 := conc_ext e v h1.2
    exact ⟨by rw [h2.1]; exact h1.1, h2.2⟩
  · rw [h.defers]
    refine List.map_congr_left fun d hd => ?_
    have := h.defok d hd
    simp [concDef, (concL_ext e _ this.1).1, (concL_ext e _ this.2).1]
  · intro d hd
    have := h.defok d hd
    exact ⟨(concL_ext e _ this.1).2, (concL_ext e _ this.2).2⟩

theorem ActRel.put {ρ : Rho} {a : AAct} {ca : Act} (h : ActRel ρ a ca) {dst : Option Tmp} (hf : a.fits dst = true) {v : AV} (hv : okv ρ v) :
    ActRel ρ (a.put dst v) (ca.put dst (conc ρ v)) := by
  cases dst with
  | none => exact h
  | some d =>
    simp only [AAct.fits, decide_eq_true_eq] at hf
    refine ⟨by simp [AAct.put_some, Act.put, h.size], ?_, h.defers, h.defok⟩
    intro t u ht
    simp only [AAct.put_some, Tr.get_set] at ht
    simp only [Act.put]
    by_cases e : t = d
    · subst e
      simp at ht
      subst ht
      have : t < ca.tmps.size := by rw [h.size]; exact hf
      exact ⟨by simp [this], hv⟩
    · simp [e] at ht
      have h1 := h.tmps t u ht
      refine ⟨?_, h1.2⟩
      rw [Array.getElem?_setIfInBounds]
      have : ¬ d = t := fun k => e k.symm
      simp [this, h1.1]

theorem okv_undef (ρ : Rho) : okv ρ aundef ∧ conc ρ aundef = undef := by simp [aundef, okv, okL, conc, concL, undef]

theorem aeval_sound {ρ : Rho} {a : AAct} {ca : Act} (h : ActRel ρ a ca) {x : Operand} {v : AV} (hx : aeval a x = some v) : ca.eval x = conc ρ v ∧ okv ρ v := by
  cases x with
  | tmp t =>
    have := h.tmps t v hx
    refine ⟨?_, this.2⟩
    simp [Act.eval, Array.getD_eq_getD_getElem?, this.1]
  | const c =>
    have := absV_conc hx ρ
    exact ⟨by simp [Act.eval, this.1], this.2⟩
  | global g => simp [aeval] at hx
  | func f =>
    simp [aeval] at hx
    subst hx
    simp [Act.eval, conc, concL, okv, okL]

theorem aevalL_sound {ρ : Rho} {a : AAct} {ca : Act} (h : ActRel ρ a ca) : ∀ {l : List Operand} {vs : List AV}, aevalL a l = some vs →
    l.map ca.eval = concL ρ vs ∧ okL ρ vs := by
  intro l
  induction l with
  | nil => intro vs hx; simp [aevalL] at hx; subst hx; simp [concL, okL]
  | cons x r ih =>
    intro vs hx
    simp only [aevalL] at hx
    split at hx
    · rename_i v hv
      split at hx
      · rename_i l hl
        cases hx
        have h1 := aeval_sound h hv
        have h2 := ih hl
        exact ⟨by simp [concL, h1.1, h2.1], h1.2, h2.2⟩
      · cases hx
    · cases hx

/-! ### small runs -/

section
variable {P : Program} {T : Tab} {w : World}

theorem run_und {t : TypeId} {d : TypeDesc} (h : P.underlying t = some d) : (underlying t).run P w = .ok d w := by
  simp [underlying, h]

theorem TInfoOk.run_und {t : TypeId} {i : TInfo} (h : TInfoOk P t i) : (underlying t).run P w = .ok i.desc w := Tc.run_und h.und

theorem TInfoOk.run_info {t : TypeId} {i : TInfo} (h : TInfoOk P t i) : ∃ f, (typeInfo t).run P w = .ok f w ∧ f.size = i.size ∧ f.bytes = i.bytes ∧ f.zero = some (cv i.zero) := by
  obtain ⟨f, hf, h1, h2, h3⟩ := h.info
  exact ⟨f, by simp [typeInfo, hf], h1, h2, h3⟩

theorem TInfoOk.run_size {t : TypeId} {i : TInfo} (h : TInfoOk P t i) : (sizeOf t).run P w = .ok i.size w := by
  obtain ⟨f, hf, h1, _, _⟩ := h.run_info (w := w)
  simp [sizeOf, hf, h1]

theorem TInfoOk.run_zero {t : TypeId} {i : TInfo} (h : TInfoOk P t i) : (zeroValue t).run P w = .ok (cv i.zero) w := by
  obtain ⟨f, hf, _, _, h3⟩ := h.run_info (w := w)
  simp [zeroValue, hf, h3]

theorem TInfoOk.run_agg {t : TypeId} {i : TInfo} (h : TInfoOk P t i) : (isAgg t).run P w = .ok i.isAgg w := by
  simp only [isAgg, Sem.run_bind, h.run_und, Result.andThen_ok, TInfo.isAgg]
  cases i.desc <;> rfl

end

theorem conc_not_agg {ρ : Rho} {v : AV} (h : ∀ cs, v ≠ .agg cs) : (conc ρ v).cells = #[conc ρ v] := by
  cases v <;> first
    | (exact absurd rfl (h _))
    | (simp only [conc, concPtr, concSlice, concMap]; (repeat' split) <;> rfl)

theorem conc_cells (ρ : Rho) (v : AV) : (conc ρ v).cells.toList = v.cells.map (conc ρ) := by
  by_cases h : ∃ cs, v = .agg cs
  · obtain ⟨cs, rfl⟩ := h
    simp [conc, Value.cells, AV.cells, concL_eq]
  · have hn : ∀ cs, v ≠ .agg cs := fun cs e => h ⟨cs, e⟩
    rw [conc_not_agg hn]
    have : v.cells = [v] := by cases v <;> first | rfl | exact absurd rfl (hn _)
    simp [this]

theorem okv_cells {ρ : Rho} {v : AV} (h : okv ρ v) : ∀ x ∈ v.cells, okv ρ x := by
  cases v <;> first
    | (simp only [AV.cells]; exact (okL_iff _ _).1 h)
    | (simp only [AV.cells, List.mem_singleton]; rintro x rfl; exact h)

theorem cell_one {ρ : Rho} {v : AV} (h : v.cell = true) (hv : okv ρ v) : (conc ρ v).oneCell' = true := by
  cases v <;> simp_all [AV.cell, conc, Value.oneCell']
  · obtain ⟨p, hp⟩ := hv; simp [concPtr, hp]
  · obtain ⟨p, hp, _⟩ := hv; simp only [concSlice, hp]; (repeat' split) <;> first | rfl | (rename_i h; revert h; (repeat' split) <;> intro h <;> cases h)
  · obtain ⟨p, hp⟩ := hv; simp [concMap, hp]

theorem BlkOk.ext {P : Program} {ρ ρ' : Rho} (e : Ext ρ ρ') {p : Pl} {k : ABlk} {o : Obj} (h : BlkOk P ρ p k o) : BlkOk P ρ' p k o := by
  cases k with
  | cells c t fz q ex =>
    cases o <;> simp only [BlkOk] at h ⊢
    obtain ⟨h1, h2, h3, h4, h5⟩ := h
    refine ⟨h1, h2, h3, fun i v hv => ?_, h5⟩
    have := h4 i v hv
    have h6 := conc_ext e v this.2
    exact ⟨by rw [h6.1]; exact this.1, h6.2⟩
  | map es cl =>
    cases o <;> simp only [BlkOk] at h ⊢
    obtain ⟨h1, h2, h3⟩ := h
    refine ⟨h1, ?_, fun x hx => ⟨(conc_ext e _ (h3 x hx).1).2, (conc_ext e _ (h3 x hx).2).2⟩⟩
    rw [h2]
    refine List.map_congr_left fun x hx => ?_
    simp [concEnt, (conc_ext e _ (h3 x hx).1).1, (conc_ext e _ (h3 x hx).2).1]
  | siter s i => cases o <;> simp only [BlkOk] at h ⊢; exact h
  | miter m a l b =>
    cases o <;> simp only [BlkOk] at h ⊢
    obtain ⟨h1, h2, h3, h0, h4⟩ := h
    refine ⟨h1, h2, h3, h0, ?_⟩
    split at h4
    · trivial
    · obtain ⟨q, hq, hB⟩ := h4
      exact ⟨q, e _ _ hq, hB⟩
    · exact h4.elim

theorem Sim.world {P : Program} {ρ : Rho} {M : AMem} {w w' : World} (h : Sim P ρ M w) (e : w'.heap = w.heap) : Sim P ρ M w' :=
  ⟨fun b k p hb hp => by rw [e]; exact h.blk b k p hb hp, h.inj, fun b p hp => by rw [e]; exact h.dom b p hp, h.low⟩

/-! ### loads -/

theorem getElem?_conc {P : Program} {ρ : Rho} {M : AMem} {w : World} (hS : Sim P ρ M w) {b : Nat} {c : List AV} {t : TypeId} {fz : Nat} {q ex : Bool} (hM : M.get b = some (.cells c t fz q ex))
    {p : Pl} (hp : ρ b = some p) {i : Nat} {v : AV} (hv : c[i]? = some v) : w.cell? ⟨p.B, p.sh + i, none⟩ = some (conc ρ v) ∧ okv ρ v := by
  obtain ⟨o, ho, hb⟩ := hS.blk b _ p hM hp
  cases o <;> simp only [BlkOk] at hb
  have := hb.2.2.2.1 i v hv
  exact ⟨by simp [World.cell?, ho, this.1], this.2⟩

theorem takeCells_some {c l : List AV} {o n : Nat} (h : takeCells c o n = some l) : o + n ≤ c.length ∧ l.length = n ∧ ∀ j v, l[j]? = some v → c[o + j]? = some v := by
  unfold takeCells at h
  split at h
  · rename_i hle
    cases h
    refine ⟨hle, by simp; omega, ?_⟩
    intro j v hj
    rw [List.getElem?_take] at hj
    split at hj
    · rw [List.getElem?_drop] at hj; exact hj
    · cases hj
  · cases h

theorem Addr.add_mk (B o n : Nat) : (⟨B, o, none⟩ : Addr).add n = ⟨B, o + n, none⟩ := by
  unfold Addr.add
  split
  · subst_vars; rfl
  · rfl

theorem run_takeCells {P : Program} {ρ : Rho} {M : AMem} {w : World} (hS : Sim P ρ M w) {b : Nat} {c : List AV} {t : TypeId} {fz : Nat} {q ex : Bool}
    (hM : M.get b = some (.cells c t fz q ex)) {p : Pl} (hp : ρ b = some p) {o n : Nat} {l : List AV} (h : takeCells c o n = some l) :
    (loadCells ⟨p.B, p.sh + o, none⟩ n).run P w = .ok (concL ρ l).toArray w ∧ okL ρ l := by
  obtain ⟨hle, hlen, hget⟩ := takeCells_some h
  have hok : okL ρ l := (okL_iff _ _).2 fun v hv => by
    obtain ⟨j, hj, rfl⟩ := List.getElem_of_mem hv
    exact (getElem?_conc hS hM hp (hget j _ (List.getElem?_eq_getElem hj))).2
  refine ⟨?_, hok⟩
  have := run_loadCells_list (P := P) (w := w) ⟨p.B, p.sh + o, none⟩ (concL ρ l) (by
    intro j v hj
    rw [concL_eq, List.getElem?_map] at hj
    cases hl : l[j]? with
    | none => simp [hl] at hj
    | some u =>
      simp [hl] at hj
      subst hj
      have := (getElem?_conc hS hM hp (hget j u hl)).1
      rw [Addr.add_mk, Nat.add_assoc]
      exact this)
  rw [concL_eq, List.length_map, hlen] at this
  rw [concL_eq]
  exact this

theorem aload_sound {P : Program} {T : Tab} (hT : TabOk P T) {ρ : Rho} {M : AMem} {w : World} (hS : Sim P ρ M w) {t : TypeId} {b o : Nat} {v : AV}
    (h : aload T M t b o = some v) {p : Pl} (hp : ρ b = some p) : (loadVar t ⟨p.B, p.sh + o, none⟩).run P w = .ok (conc ρ v) w ∧ okv ρ v := by
  unfold aload at h
  split at h
  · rename_i i c e fz q ex hi hM
    have hti := hT.types t i hi
    unfold partOf at h
    by_cases ha : i.isAgg = true
    · simp only [ha, if_true] at h
      cases hl : takeCells c o i.size with
      | none => simp [hl] at h
      | some l =>
        simp [hl] at h
        subst h
        have := run_takeCells (P := P) hS hM hp hl
        refine ⟨?_, this.2⟩
        simp only [loadVar, Sem.run_bind, hti.run_agg, Result.andThen_ok, ha, if_true, hti.run_size, this.1, conc]
        rfl
    · simp only [Bool.not_eq_true] at ha
      simp only [ha, Bool.false_eq_true, if_false] at h
      have := getElem?_conc hS hM hp h
      refine ⟨?_, this.2⟩
      simp only [loadVar, Sem.run_bind, hti.run_agg, Result.andThen_ok, ha, Bool.false_eq_true, if_false, run_load, this.1]
  · cases h

end Go.Tc

/- The tables of a program, made out of the program itself. -/
namespace Go.Tc

noncomputable def alt {α : Type} (l : List α) : List α × List α :=
  List.rec (motive := fun _ => List α × List α) ([], []) (fun x _ ih => (x :: ih.2, ih.1)) l

theorem alt_cons {α : Type} (x : α) (r : List α) : alt (x :: r) = (x :: (alt r).2, (alt r).1) := rfl

theorem alt_get {α : Type} (l : List α) : ∀ k, (alt l).1[k]? = l[2 * k]? ∧ (alt l).2[k]? = l[2 * k + 1]? := by
  induction l with
  | nil => intro k; exact ⟨by simp [alt], by simp [alt]⟩
  | cons x r ih =>
    intro k
    rw [alt_cons]
    refine ⟨?_, ?_⟩
    · cases k with
      | zero => simp
      | succ k => simp only [List.getElem?_cons_succ, (ih k).2, show 2 * (k + 1) = (2 * k + 1) + 1 from by omega]
    · simp only [List.getElem?_cons_succ, (ih k).1]

namespace Tr
variable {α β : Type}

noncomputable def ofL (f : Nat) : List α → Tr α :=
  Nat.rec (motive := fun _ => List α → Tr α) (fun _ => .leaf) (fun _ ih l => List.rec (motive := fun _ => Tr α) .leaf (fun x r _ => .node (some x) (ih (alt r).1) (ih (alt r).2)) l) f

theorem ofL_nil (f : Nat) : (ofL f ([] : List α)) = .leaf := by cases f <;> rfl
theorem ofL_cons (f : Nat) (x : α) (r : List α) : ofL (f + 1) (x :: r) = .node (some x) (ofL f (alt r).1) (ofL f (alt r).2) := rfl

theorem ofL_get : ∀ (f : Nat) (l : List α) (k : Nat), k < f → (ofL f l).get k = l[k]? := by
  intro f
  induction f with
  | zero => intro l k h; omega
  | succ f ih =>
    intro l k h
    cases l with
    | nil => rw [ofL_nil, get_leaf]; rfl
    | cons x r =>
      rw [ofL_cons]
      cases k with
      | zero => rfl
      | succ k =>
        rw [get_succ, List.getElem?_cons_succ]
        have := alt_get r (k / 2)
        by_cases e : k % 2 = 0
        · rw [if_pos e, ih _ _ (by omega), this.1]; congr 1; omega
        · rw [if_neg e, ih _ _ (by omega), this.2]; congr 1; omega

noncomputable def mapT (f : α → Option β) (t : Tr α) : Tr β :=
  Tr.rec (motive := fun _ => Tr β) .leaf (fun v _ _ l r => .node (v.bind f) l r) t

theorem mapT_get (f : α → Option β) (t : Tr α) : ∀ k, (mapT f t).get k = (t.get k).bind f := by
  induction t with
  | leaf => intro k; rfl
  | node v l r ihl ihr =>
    intro k
    cases k with
    | zero => rfl
    | succ k =>
      rw [get_succ]
      show (Tr.node (v.bind f) (mapT f l) (mapT f r)).get (k + 1) = _
      rw [get_succ]
      split
      · exact ihl _
      · exact ihr _

end Tr

noncomputable def absZL : List Value → Option (List AV)
  | [] => some []
  | v :: r => match absV v with
    | some a => match absZL r with
      | some l => some (a :: l)
      | none => none
    | none => none

noncomputable def absZ : Value → Option AV
  | .agg cs => (absZL cs.toList).map .agg
  | v => absV v

theorem absZL_conc : ∀ {l : List Value} {r : List AV}, absZL l = some r → concL rho0 r = l := by
  intro l
  induction l with
  | nil => intro r h; simp only [absZL, Option.some.injEq] at h; subst h; rfl
  | cons v l ih =>
    intro r h
    simp only [absZL] at h
    split at h
    · rename_i a ha
      split at h
      · rename_i l' hl
        cases h
        simp only [concL, ih hl, (absV_conc ha rho0).1]
      · cases h
    · cases h

theorem absZ_conc {v : Value} {a : AV} (h : absZ v = some a) : cv a = v := by
  unfold absZ at h
  split at h
  · rename_i cs
    cases hz : absZL cs.toList with
    | none => simp [hz] at h
    | some r =>
      simp [hz] at h
      subst h
      simp only [cv, conc, absZL_conc hz]
  · exact (absV_conc h rho0).1

/-- A type's row. -/
noncomputable def rowOf (L : Tr TypeInfo) (f : TypeInfo) : Option TInfo :=
  match (match f.desc with
    | .named _ u => (L.get u).map (·.desc)
    | d => some d), f.zero with
  | some d, some z => match absZ z with
    | some a => if flat a && (a.cells.length == f.size) && a.cells.all AV.cell && ((TInfo.mk d f.size f.bytes a).isAgg || f.size == 1) then some ⟨d, f.size, f.bytes, a⟩ else none
    | none => none
  | _, _ => none

noncomputable def typesOf (P : Program) : Tr TypeInfo := Tr.ofL P.types.toList.length P.types.toList
noncomputable def funcsOf (P : Program) : Tr Func := Tr.ofL P.funcs.toList.length P.funcs.toList

noncomputable def extsOf : List (Nat × AExt) → Tr AExt
  | [] => .leaf
  | (f, e) :: r => (extsOf r).set f (some e)

noncomputable def tabOf (P : Program) (es : List (Nat × AExt)) : Tab :=
  { types := (typesOf P).mapT (rowOf (typesOf P)), funcs := funcsOf P, ext := extsOf es }

theorem ofL_all {α : Type} (l : List α) (k : Nat) : (Tr.ofL l.length l).get k = l[k]? ∨ (Tr.ofL l.length l).get k = none := by
  by_cases h : k < l.length
  · exact .inl (Tr.ofL_get _ _ _ h)
  · right
    have : ∀ (f : Nat) (l : List α) (k : Nat), l.length ≤ k → (Tr.ofL f l).get k = none := by
      intro f
      induction f with
      | zero => intro l k _; rfl
      | succ f ih =>
        intro l k hk
        cases l with
        | nil => rw [Tr.ofL_nil]; rfl
        | cons x r =>
          rw [Tr.ofL_cons]
          have hr : ∀ j, r.length ≤ 2 * j → (alt r).1.length ≤ j := by
            intro j hj
            have := (alt_get r j).1
            rw [List.getElem?_eq_none (l := r) (i := 2 * j) (by omega)] at this
            exact List.getElem?_eq_none_iff.1 this
          have hr2 : ∀ j, r.length ≤ 2 * j + 1 → (alt r).2.length ≤ j := by
            intro j hj
            have := (alt_get r j).2
            rw [List.getElem?_eq_none (l := r) (i := 2 * j + 1) (by omega)] at this
            exact List.getElem?_eq_none_iff.1 this
          cases k with
          | zero => simp at hk
          | succ k =>
            simp only [List.length_cons] at hk
            rw [Tr.get_succ]
            split
            · exact ih _ _ (hr _ (by omega))
            · exact ih _ _ (hr2 _ (by omega))
    exact this _ _ _ (by omega)

theorem ofL_some {α : Type} {l : List α} {k : Nat} {x : α} (h : (Tr.ofL l.length l).get k = some x) : l[k]? = some x := by
  rcases ofL_all l k with e | e
  · rw [← e]; exact h
  · rw [e] at h; cases h

theorem extsOf_get : ∀ {es : List (Nat × AExt)} {f : Nat} {e : AExt}, (extsOf es).get f = some e → (f, e) ∈ es := by
  intro es
  induction es with
  | nil => intro f e h; cases h
  | cons x r ih =>
    intro f e h
    obtain ⟨g, e'⟩ := x
    simp only [extsOf] at h
    rw [Tr.get_set] at h
    split at h
    · rename_i hk; cases h; rw [hk]; simp
    · exact List.mem_cons_of_mem _ (ih h)

theorem tabOf_ok {P : Program} {es : List (Nat × AExt)} (h1 : P.follows .mixedOrders = true) (h2 : P.funcs.toList.all (fun fn => !(fn.name == "runtime.NumGoroutine")) = true)
    (h3 : ∀ x ∈ es, ∃ fn, P.funcs[x.1]? = some fn ∧ fn.body = none ∧ ExtOk fn x.2) : TabOk P (tabOf P es) := by
  have hinfo : ∀ {t f}, (typesOf P).get t = some f → P.info? t = some f := by
    intro t f h
    have := ofL_some h
    rw [Array.getElem?_toList] at this
    have hlt : t < P.types.size := (Array.getElem?_eq_some_iff.1 this).1
    simp only [Tables.info?, hlt, if_true]
    exact this
  refine ⟨?_, ?_, ?_, h1⟩
  · intro t i h
    simp only [tabOf] at h
    rw [Tr.mapT_get] at h
    cases hf : (typesOf P).get t with
    | none => simp [hf] at h
    | some f =>
      simp only [hf, Option.bind_some] at h
      have hP := hinfo hf
      unfold rowOf at h
      split at h
      case h_2 => cases h
      rename_i d z hd hz
      split at h
      case h_2 => cases h
      rename_i a ha
      split at h
      case isFalse => cases h
      rename_i hc
      cases h
      simp only [Bool.and_eq_true, beq_iff_eq] at hc
      obtain ⟨⟨⟨c1, c2⟩, c3⟩, c4⟩ := hc
      refine ⟨?_, ⟨f, hP, rfl, rfl, by rw [absZ_conc ha]; exact hz⟩, c1, c2, c3, ?_⟩
      · unfold Program.underlying
        rw [hP]
        split at hd
        · rename_i u hu
          cases hL : (typesOf P).get u with
          | none => simp [hL] at hd
          | some fu =>
            simp only [hL, Option.map_some, Option.some.injEq] at hd
            obtain ⟨d1, d2, d3, d4, d5⟩ := f
            simp only at hu
            subst hu
            simp only [hinfo hL, Option.map_some, hd]
        · rename_i hne
          cases hd
          split
          · rename_i hh
            cases hh
            exact absurd rfl (hne _ _)
          · rename_i hh
            cases hh
            rfl
          · rename_i hh
            cases hh
      · intro hagg
        rw [hagg] at c4
        simpa using c4
  · intro f fn h
    have := ofL_some h
    rw [Array.getElem?_toList] at this
    refine ⟨this, ?_⟩
    have hm : fn ∈ P.funcs.toList := by
      rw [← Array.getElem?_toList] at this
      exact List.mem_of_getElem? this
    have := List.all_eq_true.1 h2 fn hm
    simpa using this
  · intro f e h
    obtain ⟨fn, g1, g2, g3⟩ := h3 _ (extsOf_get h)
    refine ⟨fn, ?_, g2, g3⟩
    have hlt : f < P.funcs.toList.length := by
      have := (Array.getElem?_eq_some_iff.1 g1).1
      simpa using this
    show (Tr.ofL P.funcs.toList.length P.funcs.toList).get f = some fn
    rw [Tr.ofL_get _ _ _ hlt, Array.getElem?_toList]
    exact g1

end Go.Tc

/- Soundness: operations that compute. -/
namespace Go.Tc

variable {P : Program} {T : Tab} {ρ : Rho} {M : AMem} {w : World} {a : AAct} {ca : Act}

theorem run_v {s : Sem Value} {x : Value} {w' : World} (h : s.run P w = .ok x w') : ((do pure (.value (← s)) : Sem Next)).run P w = .ok (.value x) w' := by
  simp [h]

theorem part_sound (hT : TabOk P T) {t : TypeId} {i : TInfo} (hi : T.types.get t = some i) {c : List AV} {o : Nat} {v : AV} (hc : okL ρ c)
    (h : partOf i c o = some v) : (part t (concL ρ c).toArray o).run P w = .ok (conc ρ v) w ∧ okv ρ v := by
  have hti := hT.types t i hi
  unfold partOf at h
  by_cases ha : i.isAgg = true
  · simp only [ha, if_true] at h
    cases hl : takeCells c o i.size with
    | none => simp [hl] at h
    | some l =>
      simp [hl] at h
      subst h
      have hl' := hl
      unfold takeCells at hl'
      split at hl'
      · cases hl'
        refine ⟨?_, ?_⟩
        · simp only [part, Sem.run_bind, hti.run_agg, Result.andThen_ok, ha, if_true, hti.run_size, conc]
          simp [concL_eq, List.map_take, List.map_drop, List.extract_eq_take_drop, pure]
        · refine (okL_iff _ _).2 fun x hx => (okL_iff _ _).1 hc x ?_
          exact List.mem_of_mem_drop (List.mem_of_mem_take hx)
      · cases hl'
  · simp only [Bool.not_eq_true] at ha
    simp only [ha, Bool.false_eq_true, if_false] at h
    refine ⟨?_, (okL_iff _ _).1 hc v (List.mem_of_getElem? h)⟩
    simp only [part, Sem.run_bind, hti.run_agg, Result.andThen_ok, ha, Bool.false_eq_true, if_false]
    simp [concL_eq, h, pure]

/-! ### aggregates -/

theorem setRange_length {c vs : List AV} {o : Nat} (h : o + vs.length ≤ c.length) : (setRange c o vs).length = c.length := by
  simp [setRange]; omega

theorem foldl_cells (off : Nat) : ∀ (vs : List Value) (j : Nat) (c : Array Value), off + j + vs.length ≤ c.size →
    ((vs.zipIdx j).foldl (fun cs (x : Value × Nat) => cs.setIfInBounds (off + x.2) x.1) c).toList = c.toList.take (off + j) ++ vs ++ c.toList.drop (off + j + vs.length) := by
  intro vs
  induction vs with
  | nil => intro j c h; simp
  | cons v r ih =>
    intro j c h
    simp only [List.zipIdx_cons, List.foldl_cons, List.length_cons] at h ⊢
    rw [ih (j + 1) _ (by simp; omega)]
    simp only [Array.toList_setIfInBounds]
    have hlt : off + j < c.toList.length := by simp; omega
    rw [List.take_set, List.drop_set_of_lt (by omega)]
    have hl2 : (c.toList.take (off + j)).length = off + j := by rw [List.length_take]; omega
    have e1 : (c.toList.take (off + (j + 1))).set (off + j) v = c.toList.take (off + j) ++ [v] := by
      rw [show off + (j + 1) = (off + j) + 1 from by omega, List.take_succ_eq_append_getElem hlt, List.set_append_right _ _ (by omega), hl2]
      simp
    rw [e1]
    simp only [List.append_assoc, List.cons_append, List.nil_append]
    rw [show off + (j + 1) + r.length = off + j + (r.length + 1) from by omega]

theorem fill_sound (ρ : Rho) (place : Nat → Option (Nat × Nat)) : ∀ (ps : List (Nat × AV)) (c l : List AV) (C : Array Value), fillA place c ps = some l → C.toList = concL ρ c → okL ρ c →
    (∀ x ∈ ps, okv ρ x.2) → ∃ C', Instr.fill place C (ps.map fun x => (x.1, conc ρ x.2)) = some C' ∧ C'.toList = concL ρ l ∧ okL ρ l := by
  intro ps
  induction ps with
  | nil => intro c l C h hC hc _; simp [fillA] at h; subst h; exact ⟨C, by simp [Instr.fill], hC, hc⟩
  | cons x r ih =>
    obtain ⟨f, v⟩ := x
    intro c l C h hC hc hps
    simp only [fillA] at h
    split at h
    · rename_i off size hpl
      split at h
      · rename_i hsz
        have hv : okv ρ v := hps (f, v) (by simp)
        have hlen : (conc ρ v).cells.size = v.cells.length := by
          have := congrArg List.length (conc_cells ρ v)
          simpa using this
        have hCs : C.size = c.length := by
          have := congrArg List.length hC
          simpa [concL_eq] using this
        have hfold := foldl_cells off (conc ρ v).cells.toList 0 C (by simp [hlen]; omega)
        obtain ⟨C', hfill, hC', hl⟩ := ih (setRange c off v.cells) l
          ((conc ρ v).cells.zipIdx.foldl (fun cs (x : Value × Nat) => cs.setIfInBounds (off + x.2) x.1) C) h (by
            rw [← Array.foldl_toList, Array.toList_zipIdx, hfold, conc_cells, hC]
            simp only [concL_eq, setRange, List.map_append, List.map_take, List.map_drop, Nat.add_zero, List.length_map]) (by
            refine (okL_iff _ _).2 fun y hy => ?_
            simp only [setRange, List.mem_append] at hy
            rcases hy with (hy | hy) | hy
            · exact (okL_iff _ _).1 hc y (List.mem_of_mem_take hy)
            · exact okv_cells hv y hy
            · exact (okL_iff _ _).1 hc y (List.mem_of_mem_drop hy)) (fun y hy => hps y (List.mem_cons_of_mem _ hy))
        refine ⟨C', ?_, hC', hl⟩
        simp only [List.map_cons, Instr.fill, hpl]
        have hcond : ((conc ρ v).cells.size ≠ size || off + (conc ρ v).cells.size > C.size) = false := by
          simp [hlen, hCs]; omega
        rw [if_neg (by rw [hcond]; simp)]
        exact hfill
      · cases h
    · cases h

theorem aparts_sound (hA : ActRel ρ a ca) : ∀ {l : List (Nat × Operand)} {ps : List (Nat × AV)}, aparts a l = some ps →
    l.map (fun (i, x) => (i, ca.eval x)) = ps.map (fun x => (x.1, conc ρ x.2)) ∧ ∀ x ∈ ps, okv ρ x.2 := by
  intro l
  induction l with
  | nil => intro ps h; simp [aparts] at h; subst h; simp
  | cons x r ih =>
    obtain ⟨f, x⟩ := x
    intro ps h
    simp only [aparts] at h
    split at h
    · rename_i v hv
      split at h
      · rename_i l hl
        cases h
        have h1 := aeval_sound hA hv
        have h2 := ih hl
        refine ⟨by simp [h1.1, h2.1], ?_⟩
        intro y hy
        rcases List.mem_cons.1 hy with rfl | hy
        · exact h1.2
        · exact h2.2 y hy
      · cases h
    · cases h

theorem mapM_run {α β : Type} {f : α → Sem β} {g : α → β} : ∀ (l : List α), (∀ x ∈ l, (f x).run P w = .ok (g x) w) → (l.mapM f).run P w = .ok (l.map g) w := by
  intro l
  induction l with
  | nil => intro _; simp [pure]
  | cons x r ih =>
    intro h
    simp [List.mapM_cons, h x (by simp), ih (fun y hy => h y (List.mem_cons_of_mem _ hy))]

theorem fieldPlaces_sound (hT : TabOk P T) : ∀ {fs : List Field} {l : List (Nat × Nat)}, fieldPlaces T fs = some l →
    (fs.mapM fun f => (do pure (f.offset, ← sizeOf f.type) : Sem (Nat × Nat))).run P w = .ok l w := by
  intro fs
  induction fs with
  | nil => intro l h; simp [fieldPlaces] at h; subst h; simp [pure]
  | cons f r ih =>
    intro l h
    simp only [fieldPlaces] at h
    split at h
    · rename_i j hj
      split at h
      · rename_i l hl
        cases h
        simp only [List.mapM_cons, Sem.run_bind, (hT.types _ _ hj).run_size, Result.andThen_ok, ih hl, Sem.run_pure]
      · cases h
    · cases h

theorem zero_cells (ρ : Rho) {t : TypeId} {i : TInfo} (h : TInfoOk P t i) : (cv i.zero).cells.toList = concL ρ i.zero.cells ∧ okL ρ i.zero.cells := by
  have := flat_conc ρ i.zero h.flat
  refine ⟨by rw [← this.1, conc_cells, concL_eq], (okL_iff _ _).2 (okv_cells this.2)⟩

theorem build_sound (hT : TabOk P T) (hA : ActRel ρ a ca) {t : TypeId} {parts : Array (Nat × Operand)} {v : AV} (h : abuild T a t parts.toList = some v) :
    (Instr.build t (parts.map fun (i, x) => (i, ca.eval x))).run P w = .ok (conc ρ v) w ∧ okv ρ v := by
  unfold abuild at h
  split at h
  case h_2 => cases h
  rename_i i hi
  have hti := hT.types t i hi
  split at h
  case h_2 => cases h
  rename_i ps hps
  have hp := aparts_sound hA hps
  have hz := zero_cells ρ hti
  have hpl : (parts.map fun (i, x) => (i, ca.eval x)).toList = ps.map fun x => (x.1, conc ρ x.2) := by rw [Array.toList_map]; exact hp.1
  split at h
  · rename_i fs hd
    split at h
    · rename_i l hl
      cases hf : fillA (fun f => l[f]?) i.zero.cells ps with
      | none => simp [hf] at h
      | some c =>
        simp [hf] at h
        subst h
        obtain ⟨C', hC1, hC2, hC3⟩ := fill_sound ρ (fun f => l[f]?) ps i.zero.cells c (cv i.zero).cells hf hz.1 hz.2 hp.2
        have hplaces := fieldPlaces_sound (w := w) hT hl
        have hmap : (fs.mapM fun f => (do pure (f.offset, ← sizeOf f.type) : Sem (Nat × Nat))).run P w = .ok l.toArray w := by
          rw [← Array.toArray_toList (xs := fs), List.mapM_toArray, Sem.run_map, hplaces, Result.andThen_ok]
        have hfill : Instr.fill (fun x => l.toArray[x]?) (cv i.zero).cells (parts.map fun (i, x) => (i, ca.eval x)).toList = some C' := by
          rw [hpl, ← hC1]
          congr 1
          funext x
          simp
        refine ⟨?_, hC3⟩
        simp only [Instr.build, Sem.run_bind, hti.run_zero, Result.andThen_ok, hti.run_und, hd, hmap, hfill]
        simp [pure, conc, ← hC2]
    · cases h
  · rename_i n e hd
    split at h
    · rename_i j hj
      cases hf : fillA (fun f => some (f * j.size, j.size)) i.zero.cells ps with
      | none => simp [hf] at h
      | some c =>
        simp [hf] at h
        subst h
        obtain ⟨C', hC1, hC2, hC3⟩ := fill_sound ρ (fun f => some (f * j.size, j.size)) ps i.zero.cells c (cv i.zero).cells hf hz.1 hz.2 hp.2
        refine ⟨?_, hC3⟩
        simp only [Instr.build, Sem.run_bind, hti.run_zero, Result.andThen_ok, hti.run_und, hd, (hT.types _ _ hj).run_size, hpl, hC1]
        simp [pure, conc, ← hC2]
    · cases h
  · cases h

/-! ### the other operations that only compute -/

theorem extract_sound (hA : ActRel ρ a ca) {x : Operand} {i : Nat} {v : AV} (h : vExtract a x i = some v) :
    (Instr.extract (ca.eval x) i).run P w = .ok (conc ρ v) w ∧ okv ρ v := by
  unfold vExtract at h
  split at h
  · rename_i vs hx
    have h1 := aeval_sound hA hx
    refine ⟨?_, (okL_iff _ _).1 h1.2 v (List.mem_of_getElem? h)⟩
    simp [h1.1, conc, Instr.extract, concL_eq, h]
  · cases h

theorem field_sound (hT : TabOk P T) (hA : ActRel ρ a ca) {t : TypeId} {x : Operand} {f : Nat} {v : AV} (h : vField T a t x f = some v) :
    (Instr.field t (ca.eval x) f).run P w = .ok (conc ρ v) w ∧ okv ρ v := by
  unfold vField at h
  split at h
  · rename_i cs fs sz by_ z hx hi
    have h1 := aeval_sound hA hx
    split at h
    · rename_i fd hfd
      split at h
      · rename_i j hj
        have hp := part_sound (w := w) (ρ := ρ) hT hj h1.2 h
        refine ⟨?_, hp.2⟩
        simp only [Instr.field, Sem.run_bind, (hT.types _ _ hi).run_und, Result.andThen_ok, hfd, h1.1, conc, asAgg, Sem.run_pure, hp.1]
      · cases h
    · cases h
  · cases h

theorem nilCheck_sound (hA : ActRel ρ a ca) {x : Operand} {v : AV} (h : vNilCheck a x = some v) : ∃ b : Addr, ca.eval x = .pointer (some b) ∧ conc ρ v = .pointer (some b) ∧ okv ρ v := by
  unfold vNilCheck at h
  split at h
  · rename_i b o hx
    cases h
    have h1 := aeval_sound hA hx
    obtain ⟨p, hp⟩ := h1.2
    exact ⟨⟨p.B, p.sh + o, none⟩, by rw [h1.1]; simp [conc, concPtr, hp], by simp [conc, concPtr, hp], p, hp⟩
  · cases h

theorem load_sound (hT : TabOk P T) (hS : Sim P ρ M w) (hA : ActRel ρ a ca) {t : TypeId} {x : Operand} {v : AV} (h : vLoad T a M t x = some v) :
    (Instr.loadAt t (ca.eval x)).run P w = .ok (conc ρ v) w ∧ okv ρ v := by
  unfold vLoad at h
  split at h
  · rename_i b o hx
    have h1 := aeval_sound hA hx
    obtain ⟨p, hp⟩ := h1.2
    have := aload_sound hT hS h hp
    refine ⟨?_, this.2⟩
    simp only [Instr.loadAt, h1.1, conc, concPtr, hp, Instr.sureAddr, Sem.run_bind, Sem.run_pure, Result.andThen_ok]
    exact this.1
  · cases h

theorem makeInterface_sound (hT : TabOk P T) (hA : ActRel ρ a ca) {t : TypeId} {x : Operand} {v : AV} (h : vMakeInterface T a t x = some v) :
    (Instr.makeInterface t (ca.eval x)).run P w = .ok (conc ρ v) w ∧ okv ρ v := by
  unfold vMakeInterface at h
  split at h
  · rename_i u i hx hi
    have h1 := aeval_sound hA hx
    have hti := hT.types t i hi
    split at h
    · cases h
    · rename_i hd
      cases h
      refine ⟨?_, h1.2⟩
      simp only [Instr.makeInterface, Sem.run_bind, hti.run_und, Result.andThen_ok]
      simp [h1.1, conc]
  · cases h

theorem fieldAddr_sound (hT : TabOk P T) (hA : ActRel ρ a ca) {t : TypeId} {x : Operand} {f : Nat} {v : AV} (h : vFieldAddr T a t x f = some v) :
    (Instr.fieldAt t (ca.eval x) f).run P w = .ok (conc ρ v) w ∧ okv ρ v := by
  unfold vFieldAddr at h
  split at h
  · rename_i b o fs sz by_ z hx hi
    have h1 := aeval_sound hA hx
    obtain ⟨p, hp⟩ := h1.2
    split at h
    · rename_i fd hfd
      split at h
      · rename_i j hj
        split at h
        · cases h
        · rename_i hne
          cases h
          refine ⟨?_, p, hp⟩
          simp only [Instr.fieldAt, Sem.run_bind, (hT.types _ _ hi).run_und, Result.andThen_ok, hfd, h1.1, conc, concPtr, hp, Instr.sureAddr, Sem.run_pure, fieldPlace,
            (hT.types _ _ hj).run_size, if_neg hne, Addr.add_mk, Nat.add_assoc]
      · cases h
    · cases h
  · cases h

theorem asNat_int {v : AV} {n : Nat} (h : asNat v = some n) : ∃ k, v = .int k n := by
  cases v <;> simp only [asNat] at h <;> try cases h
  rename_i k i
  split at h
  · rename_i h0
    cases h
    exact ⟨k, by simp [Int.toNat_of_nonneg h0]⟩
  · cases h

theorem indexAddr_sound (hT : TabOk P T) (hA : ActRel ρ a ca) {t : TypeId} {x i : Operand} {v : AV} (h : vIndexAddr T a t x i = some v) :
    (Instr.indexAt t (ca.eval x) (ca.eval i)).run P w = .ok (conc ρ v) w ∧ okv ρ v := by
  unfold vIndexAddr at h
  split at h
  · rename_i b o adv len cap iv e sz by_ z hx hi ht
    have h1 := aeval_sound hA hx
    have h2 := aeval_sound hA hi
    split at h
    · rename_i n j hn hj
      obtain ⟨k, rfl⟩ := asNat_int hn
      split at h
      · rename_i hc
        obtain ⟨rfl, hlt⟩ := hc
        cases h
        obtain ⟨p, hp, hr⟩ := h1.2
        refine ⟨?_, p, hp⟩
        simp only [Instr.indexAt, h1.1, h2.1, conc, concSlice, hp, if_true, asIntOf, Sem.run_bind, Sem.run_pure, Result.andThen_ok, (hT.types _ _ ht).run_und, concPtr]
        have hb : (0 : Int) ≤ (n : Int) ∧ (n : Int) < (len : Int) := by omega
        simp [hb, (hT.types _ _ hj).run_size, Addr.add_mk, Nat.add_assoc]
      · cases h
    · cases h
  · rename_i b o iv len e sz by_ z hx hi ht
    have h1 := aeval_sound hA hx
    have h2 := aeval_sound hA hi
    split at h
    · rename_i n j hn hj
      obtain ⟨k, rfl⟩ := asNat_int hn
      split at h
      · rename_i hlt
        cases h
        obtain ⟨p, hp⟩ := h1.2
        refine ⟨?_, p, hp⟩
        simp only [Instr.indexAt, h1.1, h2.1, conc, concPtr, hp, asIntOf, Sem.run_bind, Sem.run_pure, Result.andThen_ok, (hT.types _ _ ht).run_und, Instr.sureAddr]
        have hb : (0 : Int) ≤ (n : Int) ∧ (n : Int) < (len : Int) := by omega
        simp [hb, (hT.types _ _ hj).run_size, Addr.add_mk, Nat.add_assoc]
      · cases h
    · cases h
  · cases h

theorem index_sound (hT : TabOk P T) (hA : ActRel ρ a ca) {t : TypeId} {x i : Operand} {v : AV} (h : vIndex T a t x i = some v) :
    (Instr.index t (ca.eval x) (ca.eval i)).run P w = .ok (conc ρ v) w ∧ okv ρ v := by
  unfold vIndex at h
  split at h
  · rename_i s iv sz by_ z hx hi ht
    have h1 := aeval_sound hA hx
    have h2 := aeval_sound hA hi
    split at h
    · rename_i n hn
      obtain ⟨k, rfl⟩ := asNat_int hn
      split at h
      · rename_i c hc
        cases h
        refine ⟨?_, trivial⟩
        simp only [Instr.index, h1.1, h2.1, conc, asIntOf, Sem.run_bind, Sem.run_pure, Result.andThen_ok, (hT.types _ _ ht).run_und]
        have hb : (0 : Int) ≤ (n : Int) := by omega
        simp [hb, hc]
      · cases h
    · cases h
  · rename_i cs iv len e sz by_ z hx hi ht
    have h1 := aeval_sound hA hx
    have h2 := aeval_sound hA hi
    split at h
    · rename_i n j hn hj
      obtain ⟨k, rfl⟩ := asNat_int hn
      split at h
      · rename_i hlt
        have hp := part_sound (w := w) (ρ := ρ) hT hj h1.2 h
        refine ⟨?_, hp.2⟩
        simp only [Instr.index, h1.1, h2.1, conc, asIntOf, Sem.run_bind, Sem.run_pure, Result.andThen_ok, (hT.types _ _ ht).run_und]
        have hb : (0 : Int) ≤ (n : Int) ∧ (n : Int) < (len : Int) := by omega
        simp only [hb, and_self, if_true, Int.toNat_natCast, Sem.run_bind, (hT.types _ _ hj).run_size, Result.andThen_ok, hp.1]
      · cases h
    · cases h
  · cases h

theorem typeAssert_sound (hT : TabOk P T) (hA : ActRel ρ a ca) {x : Operand} {xt at_ : TypeId} {ok : Bool} {v : AV} (h : vTypeAssert T a x at_ ok = some v) :
    (Instr.typeAssert (ca.eval x) xt at_ ok).run P w = .ok (conc ρ v) w ∧ okv ρ v := by
  unfold vTypeAssert at h
  split at h
  · rename_i t u i hx hi
    have h1 := aeval_sound hA hx
    have hti := hT.types _ _ hi
    have hz := flat_conc ρ i.zero hti.flat
    split at h
    · cases h
    · rename_i hd
      have hd' : ∀ ms, i.desc ≠ .interface ms := fun ms e => hd ms e
      simp only [Instr.typeAssert, Sem.run_bind, hti.run_und, Result.andThen_ok, h1.1, conc]
      by_cases e : t = at_
      · simp only [e, if_true] at h ⊢
        cases h
        refine ⟨?_, ?_⟩
        · cases hdd : i.desc <;> first
            | (exact absurd hdd (hd' _))
            | (simp only [pure]; cases ok <;> simp [conc, concL])
        · cases ok
          · exact h1.2
          · exact ⟨h1.2, trivial, trivial⟩
      · simp only [e, if_false] at h ⊢
        cases ok
        · simp at h
        · simp only [if_true] at h
          cases h
          refine ⟨?_, ?_⟩
          · cases hdd : i.desc <;> first
              | (exact absurd hdd (hd' _))
              | (simp [hti.run_zero, conc, concL, hz.1])
          · exact ⟨hz.2, trivial, trivial⟩
  · rename_i i hx hi
    have h1 := aeval_sound hA hx
    have hti := hT.types _ _ hi
    have hz := flat_conc ρ i.zero hti.flat
    split at h
    · cases h
    · rename_i hd
      have hd' : ∀ ms, i.desc ≠ .interface ms := fun ms e => hd ms e
      cases ok
      · simp at h
      · simp only [if_true] at h
        cases h
        refine ⟨?_, ⟨hz.2, trivial, trivial⟩⟩
        simp only [Instr.typeAssert, Sem.run_bind, hti.run_und, Result.andThen_ok, h1.1, conc]
        cases hdd : i.desc <;> first
          | (exact absurd hdd (hd' _))
          | (simp [hti.run_zero, conc, concL, hz.1])
  · cases h

end Go.Tc

/- Soundness: operators. -/
namespace Go.Tc

variable {P : Program} {T : Tab} {ρ : Rho} {M : AMem} {w : World} {a : AAct} {ca : Act}

theorem equal_run {t : TypeId} {x y : Value} {r : Bool} (h : ∀ d, (Op.equalIn (d + 1) t x y).run P w = .ok r w) : (Op.equal t x y).run P w = .ok r w := h 9999

theorem guard_nothing (op : BinOp) (t : TypeId) (xo yo : Operand) (x y : Value) (h : (∀ cs ds, ¬ (x = .agg cs ∧ y = .agg ds)) ∧ ¬ (x = .nilIface ∧ y = .nilIface)) :
    (eqGuard op t xo yo x y).run P w = .ok () w := by
  cases op <;> first
    | rfl
    | (cases x <;> cases y <;> first
        | rfl
        | (exact absurd ⟨rfl, rfl⟩ h.2)
        | (exact absurd ⟨rfl, rfl⟩ (h.1 _ _)))

theorem conc_slice_some {b o adv len : Nat} {cap : Option Nat} (h : okv ρ (.slice b o adv len cap)) : ∃ x l c, conc ρ (.slice b o adv len cap) = .slice (some x) l c := by
  obtain ⟨p, hp, _⟩ := h
  simp only [conc, concSlice, hp]
  split
  · exact ⟨_, _, _, rfl⟩
  · split <;> exact ⟨_, _, _, rfl⟩

noncomputable def EqOk (P : Program) (w : World) (op : BinOp) (t : TypeId) (xo yo : Operand) (x y : Value) (r : Bool) : Prop :=
  (eqGuard op t xo yo x y).run P w = .ok () w ∧ (Op.equal t x y).run P w = .ok r w ∧
    (∀ k n, x ≠ .int k n) ∧ (∀ k n, x ≠ .float k n) ∧ (∀ s, x ≠ .string s) ∧ (∀ k n m, x ≠ .complex k n m)

theorem eqPtr_sound (hT : TabOk P T) {op : BinOp} {t e : TypeId} {xo yo : Operand} (hu : P.underlying t = some (.pointer e)) {x y : AV} (hx : okv ρ x) (hy : okv ρ y) {r : Bool}
    (h : aeqPtr T e x y = some r) : EqOk P w op t xo yo (conc ρ x) (conc ρ y) r := by
  unfold aeqPtr at h
  split at h
  · cases h
    refine ⟨guard_nothing _ _ _ _ _ _ ⟨by simp [conc], by simp [conc]⟩, equal_run fun d => ?_, by simp [conc], by simp [conc], by simp [conc], by simp [conc]⟩
    simp [Op.equalIn, run_und hu, conc]
  · cases h
    obtain ⟨p, hp⟩ := hx
    simp only [conc, concPtr, hp]
    refine ⟨guard_nothing _ _ _ _ _ _ ⟨by simp, by simp⟩, equal_run fun d => ?_, by simp, by simp, by simp, by simp⟩
    simp [Op.equalIn, run_und hu]
  · cases h
    obtain ⟨p, hp⟩ := hy
    simp only [conc, concPtr, hp]
    refine ⟨guard_nothing _ _ _ _ _ _ ⟨by simp, by simp⟩, equal_run fun d => ?_, by simp, by simp, by simp, by simp⟩
    simp [Op.equalIn, run_und hu]
  · rename_i b o b' o'
    split at h
    · rename_i j hj
      split at h
      · rename_i hc
        obtain ⟨rfl, hne⟩ := hc
        cases h
        obtain ⟨p, hp⟩ := hx
        simp only [conc, concPtr, hp]
        refine ⟨guard_nothing _ _ _ _ _ _ ⟨by simp, by simp⟩, equal_run fun d => ?_, by simp, by simp, by simp, by simp⟩
        have hb : (({ block := p.B, off := p.sh + o, spot := none } : Addr) == { block := p.B, off := p.sh + o', spot := none }) = (o == o') := by
          rw [Bool.eq_iff_iff]; simp
        simp [Op.equalIn, run_und hu, (hT.types _ _ hj).run_size, hne, sameAddr, hb]
      · cases h
    · cases h
  · cases h

theorem eqSlice_sound {op : BinOp} {t e : TypeId} {xo yo : Operand} (hu : P.underlying t = some (.slice e)) {x y : AV} (hx : okv ρ x) (hy : okv ρ y) {r : Bool}
    (h : aeqSlice x y = some r) : EqOk P w op t xo yo (conc ρ x) (conc ρ y) r := by
  unfold aeqSlice at h
  split at h
  · cases h
    refine ⟨guard_nothing _ _ _ _ _ _ ⟨by simp [conc], by simp [conc]⟩, equal_run fun d => ?_, by simp [conc], by simp [conc], by simp [conc], by simp [conc]⟩
    simp [Op.equalIn, run_und hu, conc]
  · cases h
    obtain ⟨x, l, c, hc⟩ := conc_slice_some hx
    rw [hc]
    refine ⟨guard_nothing _ _ _ _ _ _ ⟨by simp, by simp⟩, equal_run fun d => ?_, by simp, by simp, by simp, by simp⟩
    simp [Op.equalIn, run_und hu, conc]
  · cases h
    obtain ⟨x, l, c, hc⟩ := conc_slice_some hy
    rw [hc]
    refine ⟨guard_nothing _ _ _ _ _ _ ⟨by simp [conc], by simp [conc]⟩, equal_run fun d => ?_, by simp [conc], by simp [conc], by simp [conc], by simp [conc]⟩
    simp [Op.equalIn, run_und hu, conc]
  · cases h

theorem eqMap_sound {op : BinOp} {t k e : TypeId} {xo yo : Operand} (hu : P.underlying t = some (.map k e)) {x y : AV} (hx : okv ρ x) (hy : okv ρ y) {r : Bool}
    (h : aeqMap x y = some r) : EqOk P w op t xo yo (conc ρ x) (conc ρ y) r := by
  unfold aeqMap at h
  split at h
  · cases h
    refine ⟨guard_nothing _ _ _ _ _ _ ⟨by simp [conc], by simp [conc]⟩, equal_run fun d => ?_, by simp [conc], by simp [conc], by simp [conc], by simp [conc]⟩
    simp [Op.equalIn, run_und hu, conc]
  · cases h
    obtain ⟨p, hp⟩ := hx
    simp only [conc, concMap, hp]
    refine ⟨guard_nothing _ _ _ _ _ _ ⟨by simp, by simp⟩, equal_run fun d => ?_, by simp, by simp, by simp, by simp⟩
    simp [Op.equalIn, run_und hu]
  · cases h
    obtain ⟨p, hp⟩ := hy
    simp only [conc, concMap, hp]
    refine ⟨guard_nothing _ _ _ _ _ _ ⟨by simp, by simp⟩, equal_run fun d => ?_, by simp, by simp, by simp, by simp⟩
    simp [Op.equalIn, run_und hu]
  · cases h

theorem eqFunc_sound {op : BinOp} {t : TypeId} {p1 p2 : Array TypeId} {p3 : Bool} {xo yo : Operand} (hu : P.underlying t = some (.func p1 p2 p3)) {x y : AV} {r : Bool}
    (h : aeqFunc x y = some r) : EqOk P w op t xo yo (conc ρ x) (conc ρ y) r := by
  unfold aeqFunc at h
  split at h <;> cases h
  all_goals
    refine ⟨guard_nothing _ _ _ _ _ _ ⟨by simp [conc], by simp [conc]⟩, equal_run fun d => ?_, by simp [conc], by simp [conc], by simp [conc], by simp [conc]⟩
    simp [Op.equalIn, run_und hu, conc]

theorem eqIface_sound {op : BinOp} {t : TypeId} {ms : Array (String × TypeId)} {xo yo : Operand} (hu : P.underlying t = some (.interface ms)) {x y : AV} {r : Bool}
    (h : aeqIface (isConstO xo || isConstO yo) x y = some r) : EqOk P w op t xo yo (conc ρ x) (conc ρ y) r := by
  unfold aeqIface at h
  split at h
  · split at h
    · rename_i hcst
      cases h
      refine ⟨?_, equal_run fun d => ?_, by simp [conc], by simp [conc], by simp [conc], by simp [conc]⟩
      · cases op <;> first
          | rfl
          | (cases xo <;> cases yo <;> first
              | rfl
              | (simp [isConstO] at hcst; done))
      · simp [Op.equalIn, run_und hu, conc]
    · cases h
  · cases h
    refine ⟨guard_nothing _ _ _ _ _ _ ⟨by simp [conc], by simp [conc]⟩, equal_run fun d => ?_, by simp [conc], by simp [conc], by simp [conc], by simp [conc]⟩
    simp [Op.equalIn, run_und hu, conc]
  · cases h
    refine ⟨guard_nothing _ _ _ _ _ _ ⟨by simp [conc], by simp [conc]⟩, equal_run fun d => ?_, by simp [conc], by simp [conc], by simp [conc], by simp [conc]⟩
    simp [Op.equalIn, run_und hu, conc]
  · cases h

/-- Equality: the guard lets it by, and it answers. -/
theorem aeqAt_sound (hT : TabOk P T) {op : BinOp} {t : TypeId} {xo yo : Operand} {i : TInfo} (hi : T.types.get t = some i) {x y : AV} (hx : okv ρ x) (hy : okv ρ y) {r : Bool}
    (h : aeqAt P T op t xo yo i.desc x y = some r) : EqOk P w op t xo yo (conc ρ x) (conc ρ y) r := by
  have hti := (hT.types _ _ hi).und
  unfold aeqAt at h
  split at h
  · rename_i e hd; exact eqPtr_sound hT (hd ▸ hti) hx hy h
  · rename_i e hd; exact eqSlice_sound (hd ▸ hti) hx hy h
  · rename_i k e hd; exact eqMap_sound (hd ▸ hti) hx hy h
  · rename_i k e f hd; exact eqFunc_sound (hd ▸ hti) h
  · rename_i ms hd; exact eqIface_sound (hd ▸ hti) h
  · split at h
    · rename_i cs ds
      split at h
      · rename_i hc
        simp only [Bool.and_eq_true] at hc
        obtain ⟨⟨h1, h2⟩, h3⟩ := hc
        have e1 := flat_conc ρ (.agg cs) h1
        have e2 := flat_conc ρ (.agg ds) h2
        rw [e1.1, e2.1]
        obtain ⟨u, hu⟩ := Option.isSome_iff_exists.1 h3
        exact ⟨evalPure_run P _ _ hu w, evalPure_run P _ _ h w, by simp [cv, conc], by simp [cv, conc], by simp [cv, conc], by simp [cv, conc]⟩
      · cases h
    · cases h
  · cases h

theorem scalar_flat {v : AV} (h : scalar v = true) : flat v = true := by
  cases v <;> simp_all [scalar, flat]

theorem scalar_conc {v : AV} (h : scalar v = true) : (∀ cs, conc ρ v ≠ .agg cs) ∧ conc ρ v ≠ .nilIface := by
  cases v <;> simp_all [scalar, conc]

theorem binOp_eql {t : TypeId} {x y : Value} (g3 : ∀ k n, x ≠ .int k n) (g4 : ∀ k n, x ≠ .float k n) (g5 : ∀ s, x ≠ .string s)
    (g6 : ∀ k n m, x ≠ .complex k n m) : binOp .eql t x y = (do let r ← Op.equal t x y; pure (.bool r)) := by
  cases x <;> first
    | (exact absurd rfl (g3 _ _))
    | (exact absurd rfl (g4 _ _))
    | (exact absurd rfl (g5 _))
    | (exact absurd rfl (g6 _ _ _))
    | rfl

theorem binOp_neq {t : TypeId} {x y : Value} (g3 : ∀ k n, x ≠ .int k n) (g4 : ∀ k n, x ≠ .float k n) (g5 : ∀ s, x ≠ .string s)
    (g6 : ∀ k n m, x ≠ .complex k n m) : binOp .neq t x y = (do let r ← Op.equal t x y; pure (.bool (!r))) := by
  cases x <;> first
    | (exact absurd rfl (g3 _ _))
    | (exact absurd rfl (g4 _ _))
    | (exact absurd rfl (g5 _))
    | (exact absurd rfl (g6 _ _ _))
    | rfl

theorem binOp_sound (hT : TabOk P T) (hA : ActRel ρ a ca) {op : BinOp} {t : TypeId} {x y : Operand} {v : AV} (h : vBin P T a op t x y = some v) :
    (do eqGuard op t x y (ca.eval x) (ca.eval y); binOp op t (ca.eval x) (ca.eval y) : Sem Value).run P w = .ok (conc ρ v) w ∧ okv ρ v := by
  unfold vBin at h
  split at h
  · rename_i u1 u2 hx hy
    have h1 := aeval_sound hA hx
    have h2 := aeval_sound hA hy
    rw [h1.1, h2.1]
    unfold abin at h
    split at h
    · rename_i hs
      simp only [Bool.and_eq_true] at hs
      have hr := pureV_run h ρ w
      have s1 := scalar_conc (ρ := ρ) hs.1
      refine ⟨?_, hr.2⟩
      rw [Sem.run_bind, guard_nothing _ _ _ _ _ _ ⟨fun cs ds e => s1.1 cs e.1, fun e => s1.2 e.1⟩, (flat_conc ρ u1 (scalar_flat hs.1)).1, (flat_conc ρ u2 (scalar_flat hs.2)).1]
      exact hr.1
    · split at h
      · cases h
      · rename_i i hi
        split at h
        · cases he : aeqAt P T .eql t x y i.desc u1 u2 with
          | none => simp [he] at h
          | some r =>
            simp [he] at h
            subst h
            obtain ⟨g1, g2, g3, g4, g5, g6⟩ := aeqAt_sound (w := w) hT hi h1.2 h2.2 he
            refine ⟨?_, trivial⟩
            rw [Sem.run_bind, g1, Result.andThen_ok, binOp_eql g3 g4 g5 g6]
            simp [g2, conc]
        · cases he : aeqAt P T .neq t x y i.desc u1 u2 with
          | none => simp [he] at h
          | some r =>
            simp [he] at h
            subst h
            obtain ⟨g1, g2, g3, g4, g5, g6⟩ := aeqAt_sound (w := w) hT hi h1.2 h2.2 he
            refine ⟨?_, trivial⟩
            rw [Sem.run_bind, g1, Result.andThen_ok, binOp_neq g3 g4 g5 g6]
            simp [g2, conc]
        · cases h
  · cases h

theorem un_sound (hA : ActRel ρ a ca) {op : UnOp} {x : Operand} {v : AV} (h : vUn P a op x = some v) : (Op.unary op (ca.eval x)).run P w = .ok (conc ρ v) w ∧ okv ρ v := by
  unfold vUn at h
  split at h
  · rename_i u hx
    have h1 := aeval_sound hA hx
    split at h
    · rename_i hs
      rw [h1.1, (flat_conc ρ u (scalar_flat hs)).1]
      exact pureV_run h ρ w
    · cases h
  · cases h

end Go.Tc

/- Soundness: slices, conversions, maps, builtins. -/
namespace Go.Tc

variable {P : Program} {T : Tab} {ρ : Rho} {M : AMem} {w : World} {a : AAct} {ca : Act}

theorem asNat_conc {v : AV} {n : Nat} (h : asNat v = some n) : ∃ k, conc ρ v = .int k n := by
  obtain ⟨k, rfl⟩ := asNat_int h
  exact ⟨k, by simp [conc]⟩

theorem optNat_sound (hA : ActRel ρ a ca) {x : Option Operand} {n : Option Nat} (h : optNat a x = some n) :
    (n = none ∧ x.map ca.eval = none) ∨ ∃ m k, n = some m ∧ x.map ca.eval = some (.int k (m : Int)) := by
  cases x with
  | none => simp [optNat] at h; subst h; exact .inl ⟨rfl, rfl⟩
  | some x =>
    simp only [optNat] at h
    split at h
    · rename_i v hv
      cases hn : asNat v with
      | none => simp [hn] at h
      | some m =>
        simp [hn] at h
        subst h
        have h1 := aeval_sound hA hv
        obtain ⟨k, hk⟩ := asNat_conc (ρ := ρ) hn
        exact .inr ⟨m, k, rfl, by simp [h1.1, hk]⟩
    · cases h

theorem bound_run {k : IntKind} {n y : Nat} {code : BoundsCode} (h : n ≤ y) : (Instr.sliceBound (.int k (n : Int)) y code).run P w = .ok n w := by
  have : (0 : Int) ≤ (n : Int) ∧ (n : Int) ≤ (y : Int) := by omega
  simp [Instr.sliceBound, asIntOf, this]

/-- The bounds of a slice expression, in order. -/
theorem bounds_run {lo hi mx : Option Nat} {vlo vhi vmx : Option Value} {len cap : Nat} (sl : Bool)
    (h1 : (lo = none ∧ vlo = none) ∨ ∃ m k, lo = some m ∧ vlo = some (.int k (m : Int))) (h2 : (hi = none ∧ vhi = none) ∨ ∃ m k, hi = some m ∧ vhi = some (.int k (m : Int)))
    (h3 : (mx = none ∧ vmx = none) ∨ ∃ m k, mx = some m ∧ vmx = some (.int k (m : Int)))
    (hl : lo.getD 0 ≤ hi.getD len) (hh : hi.getD len ≤ mx.getD cap) (hm : mx.getD cap ≤ cap) (hx : mx.isSome → hi.isSome) :
    (Instr.sliceBounds sl len cap vlo vhi vmx).run P w = .ok (lo.getD 0, hi.getD len, mx.getD cap) w := by
  rcases h1 with ⟨rfl, rfl⟩ | ⟨l, k1, rfl, rfl⟩ <;> rcases h2 with ⟨rfl, rfl⟩ | ⟨m, k2, rfl, rfl⟩ <;> rcases h3 with ⟨rfl, rfl⟩ | ⟨n, k3, rfl, rfl⟩ <;>
    simp only [Option.getD_none, Option.getD_some] at hl hh hm ⊢ <;>
    first
      | (simp at hx; done)
      | (simp [Instr.sliceBounds, bound_run, hl, hh, hm])

theorem blk_cells (hS : Sim P ρ M w) {b : Nat} {c : List AV} {e : TypeId} {fz : Nat} {q ex : Bool} (hM : M.get b = some (.cells c e fz q ex)) {p : Pl} (hp : ρ b = some p) :
    ∃ C fr, w.heap[p.B]? = some (.cells C e fr) ∧ C.size = p.S ∧ p.sh + c.length ≤ p.S ∧ (∀ i v, c[i]? = some v → C[p.sh + i]? = some (conc ρ v) ∧ okv ρ v) ∧
      (∀ i, p.sh + fz ≤ i → i < p.S → ¬ (fr.1 ≤ i ∧ i < fr.2)) ∧ ((q = true → fr.1 = fr.2 ∨ fr.2 ≤ p.sh + fz) ∧ (fz = 0 → p.sh = 0 → fr.1 = fr.2 ∨ p.S ≤ fr.1)) ∧ (ex = true → p.sh = 0 ∧ c.length = p.S) ∧ ∃ f, P.info? e = some f ∧ f.size = p.es := by
  obtain ⟨o, ho, hb⟩ := hS.blk b _ p hM hp
  cases o <;> simp only [BlkOk] at hb
  obtain ⟨rfl, h⟩ := hb
  exact ⟨_, _, ho, h⟩

theorem es_eq (hT : TabOk P T) (hS : Sim P ρ M w) {b : Nat} {c : List AV} {e : TypeId} {fz : Nat} {q ex : Bool} (hM : M.get b = some (.cells c e fz q ex)) {p : Pl} (hp : ρ b = some p)
    {j : TInfo} (hj : T.types.get e = some j) : p.es = j.size := by
  obtain ⟨C, fr, _, _, _, _, _, _, _, f, hf, hs⟩ := blk_cells hS hM hp
  obtain ⟨f', hf', hs', _⟩ := (hT.types _ _ hj).info
  rw [hf] at hf'
  cases hf'
  rw [← hs, hs']

theorem conc_slice0 {b o len : Nat} {cap : Option Nat} {p : Pl} (hp : ρ b = some p) :
    conc ρ (.slice b o 0 len cap) = .slice (some ⟨p.B, p.sh + o, none⟩) len (cap.getD ((p.S - (p.sh + o)) / p.es)) := by
  simp [conc, concSlice, hp]

theorem addr_add_ite (B o n : Nat) (c : Prop) [Decidable c] (h : c → n = 0) : (if c then (⟨B, o, none⟩ : Addr) else (⟨B, o, none⟩ : Addr).add n) = ⟨B, o + n, none⟩ := by
  split
  · rename_i hc; simp [h hc]
  · exact Addr.add_mk B o n

theorem room_le {S o es k : Nat} (he : 0 < es) (h : o + k * es ≤ S) : k ≤ (S - o) / es := by
  rw [Nat.le_div_iff_mul_le he]; omega

theorem room_mul {S o es : Nat} : (S - o) / es * es ≤ S - o := Nat.div_mul_le_self _ _

theorem asliceNil_sound (hT : TabOk P T) {t e : TypeId} {lo hi mx : Option Nat} {vlo vhi vmx : Option Value}
    (h1 : (lo = none ∧ vlo = none) ∨ ∃ m k, lo = some m ∧ vlo = some (.int k (m : Int))) (h2 : (hi = none ∧ vhi = none) ∨ ∃ m k, hi = some m ∧ vhi = some (.int k (m : Int)))
    (h3 : (mx = none ∧ vmx = none) ∨ ∃ m k, mx = some m ∧ vmx = some (.int k (m : Int))) (hu : P.underlying t = some (.slice e)) {j : TInfo} (hj : T.types.get e = some j)
    {v : AV} (h : asliceNil lo hi mx = some v) : (Instr.slice t (.slice none 0 0) vlo vhi vmx).run P w = .ok (conc ρ v) w ∧ okv ρ v := by
  unfold asliceNil at h
  split at h
  · rename_i hc
    cases h
    simp only [Bool.and_eq_true, decide_eq_true_eq, Bool.or_eq_true] at hc
    obtain ⟨⟨⟨c1, c2⟩, c3⟩, c4⟩ := hc
    refine ⟨?_, trivial⟩
    have hb := bounds_run (P := P) (w := w) (len := 0) (cap := 0) true h1 h2 h3 (by omega) (by omega) (by omega) (by
      intro hs; rcases c4 with h | h
      · simp_all
      · exact h)
    simp only [Instr.slice, Sem.run_bind, run_und hu, Result.andThen_ok, hb, (hT.types _ _ hj).run_size, c1, c2, c3]
    simp [conc]
  · cases h

theorem asliceAt_sound (hT : TabOk P T) (hS : Sim P ρ M w) {t e : TypeId} {lo hi mx : Option Nat} {vlo vhi vmx : Option Value}
    (h1 : (lo = none ∧ vlo = none) ∨ ∃ m k, lo = some m ∧ vlo = some (.int k (m : Int))) (h2 : (hi = none ∧ vhi = none) ∨ ∃ m k, hi = some m ∧ vhi = some (.int k (m : Int)))
    (h3 : (mx = none ∧ vmx = none) ∨ ∃ m k, mx = some m ∧ vmx = some (.int k (m : Int))) (hu : P.underlying t = some (.slice e)) {j : TInfo} (hj : T.types.get e = some j)
    {b o adv len : Nat} {cap : Option Nat} {c : List AV} {fz : Nat} {q ex : Bool} (hM : M.get b = some (.cells c e fz q ex)) (hx : okv ρ (.slice b o adv len cap))
    {v : AV} (h : asliceAt c j.size b o adv len cap lo hi mx = some v) : (Instr.slice t (conc ρ (.slice b o adv len cap)) vlo vhi vmx).run P w = .ok (conc ρ v) w ∧ okv ρ v := by
  obtain ⟨p, hp, hes, hin, hadv, hcap⟩ := hx
  have hj' := es_eq hT hS hM hp hj
  obtain ⟨C, fr, _, hCs, hSh, _⟩ := blk_cells hS hM hp
  have hrun := (hT.types _ _ hj).run_size (w := w)
  rw [← hj'] at h hrun
  unfold asliceAt at h
  simp only at h
  by_cases ha : adv = 0
  · subst ha
    simp only [if_true] at h
    have hroom : ∀ n, p.sh + o + n * p.es ≤ p.S → n ≤ (p.S - (p.sh + o)) / p.es := fun n hn => room_le hes hn
    -- the capacity
    obtain ⟨K, hK⟩ : ∃ K, K = cap.getD ((p.S - (p.sh + o)) / p.es) := ⟨_, rfl⟩
    have hKS : p.sh + o + K * p.es ≤ p.S := by
      cases hcc : cap with
      | none =>
        simp only [hcc, Option.getD_none] at hK
        have := room_mul (S := p.S) (o := p.sh + o) (es := p.es)
        have h0 : p.sh + o ≤ p.S := Nat.le_trans (Nat.le_add_right _ _) hin
        rw [hK]; omega
      | some k =>
        simp only [hcc, Option.getD_some] at hK
        rw [hK]; exact (hcap k hcc).2
    have hlenK : len ≤ K := by
      cases hcc : cap with
      | none => simp only [hcc, Option.getD_none] at hK; rw [hK]; exact hroom len (by simpa using hin)
      | some k => simp only [hcc, Option.getD_some] at hK; rw [hK]; have := (hcap k hcc).1; omega
    have hknown : knownCap cap ((c.length - o) / p.es) ≤ K := by
      have hk2 : (c.length - o) / p.es ≤ (p.S - (p.sh + o)) / p.es := Nat.div_le_div_right (by omega)
      cases hcc : cap with
      | none => simp only [hcc, Option.getD_none] at hK; simp only [knownCap]; rw [hK]; exact hk2
      | some k => simp only [hcc, Option.getD_some] at hK; simp only [knownCap]; rw [hK]; exact Nat.min_le_left _ _
    generalize knownCap cap ((c.length - o) / p.es) = known at h hknown
    split at h
    case isFalse => cases h
    rename_i hc
    simp only [Bool.and_eq_true, decide_eq_true_eq, Bool.or_eq_true] at hc
    obtain ⟨⟨⟨⟨c1, c2⟩, c3⟩, c4⟩, c5⟩ := hc
    have hhK : hi.getD len ≤ K := by omega
    have hmK : mx.getD (hi.getD len) ≤ K := by omega
    have hb := bounds_run (P := P) (w := w) (len := len) (cap := K) true h1 h2 h3 c1 (by
        cases mx with
        | none => simpa using hhK
        | some m => simpa using c3) (by
        cases mx with
        | none => simp
        | some m => simpa using hmK) (by
        intro hs; rcases c5 with h | h
        · cases mx <;> simp_all
        · exact h)
    rw [conc_slice0 hp, ← hK]
    simp only [Instr.slice, Sem.run_bind, run_und hu, Result.andThen_ok, hb, hrun, Sem.run_pure]
    generalize hl : lo.getD 0 = l at *
    generalize hh : hi.getD len = h' at *
    have hmul : ∀ n, n ≤ K → p.sh + o + n * p.es ≤ p.S := fun n hn => Nat.le_trans (Nat.add_le_add_left (Nat.mul_le_mul_right _ hn) _) hKS
    by_cases l0 : l = 0
    · subst l0
      simp only [if_true] at h
      cases h
      refine ⟨?_, p, hp, hes, by simpa using hmul _ hhK, by simp, ?_⟩
      · rw [conc_slice0 hp]
        have : (if mx.getD K = 0 then (some (⟨p.B, p.sh + o, none⟩ : Addr)) else (some (⟨p.B, p.sh + o, none⟩ : Addr)).map (·.add (0 * p.es))) = some ⟨p.B, p.sh + o, none⟩ := by
          split
          · rfl
          · simp [Addr.add]
        rw [this]
        congr 2
        cases mx with
        | none => cases cap <;> simp [hK, subCap]
        | some m => simp [subCap]
      · intro k hk
        cases mx with
        | none =>
          have hk' : cap = some k := by cases cap <;> simp_all [subCap]
          have := hcap k hk'
          simp only [hk', Option.getD_some] at hK
          subst hK
          exact ⟨by omega, this.2⟩
        | some m => simp only [subCap, Nat.sub_zero, Option.some.injEq] at hk; subst hk; simp at c3 hmK; exact ⟨by omega, hmul _ hmK⟩
    · simp only [l0, if_false] at h
      by_cases l1 : l < h'
      · simp only [l1, if_true] at h
        cases h
        have hne : ¬ mx.getD K = l := by
          cases mx with
          | none => simp; omega
          | some m => simp at c3 ⊢; omega
        refine ⟨?_, p, hp, hes, ?_, by simp, ?_⟩
        · rw [conc_slice0 hp]
          simp only [hne, if_false, Option.map_some, Addr.add_mk]
          congr 2
          · rw [Nat.add_assoc]
          · have hdiv : (p.S - (p.sh + (o + l * p.es))) / p.es = (p.S - (p.sh + o)) / p.es - l := by
              rw [← Nat.sub_mul_div, Nat.mul_comm]
              congr 1
              omega
            cases mx with
            | none =>
              cases hcc : cap with
              | none => simp only [hcc, Option.getD_none] at hK; simp [hdiv, hK, subCap]
              | some k => simp only [hcc, Option.getD_some] at hK; simp [hK, subCap]
            | some m => simp [subCap]
        · have := hmul h' hhK
          have e : p.sh + (o + l * p.es) + (0 + (h' - l)) * p.es = p.sh + o + h' * p.es := by
            have e1 : l * p.es + (h' - l) * p.es = h' * p.es := by rw [← Nat.add_mul]; congr 1; omega
            rw [Nat.zero_add]; omega
          rw [e]; exact this
        · intro k hk
          have hfin : ∀ m, l ≤ m → m ≤ K → p.sh + (o + l * p.es) + (m - l) * p.es ≤ p.S := by
            intro m hm1 hm2
            have := hmul m hm2
            have e : p.sh + (o + l * p.es) + (m - l) * p.es = p.sh + o + m * p.es := by
              have e1 : l * p.es + (m - l) * p.es = m * p.es := by rw [← Nat.add_mul]; congr 1; omega
              omega
            rw [e]; exact this
          cases mx with
          | none =>
            cases hcc : cap with
            | none => simp [hcc, subCap] at hk
            | some k' =>
              simp only [hcc, subCap, Option.map_some, Option.some.injEq] at hk
              simp only [hcc, Option.getD_some] at hK
              subst hk; subst hK
              exact ⟨by omega, hfin _ (by omega) (Nat.le_refl _)⟩
          | some m =>
            simp only [subCap, Option.some.injEq] at hk
            simp at c3 hmK
            subst hk
            exact ⟨by omega, hfin _ (by omega) hmK⟩
      · simp only [l1, if_false] at h
        cases mx with
        | some m => simp at h
        | none =>
          simp at h
          subst h
          have hlh : l = h' := by omega
          refine ⟨?_, p, hp, hes, ?_, by simp, ?_⟩
          · simp only [Option.getD_none, conc, concSlice, hp, l0, if_false, ← hK]
            rw [hlh]
            split
            · rename_i hKl; simp [hKl]
            · simp [Addr.add_mk, Nat.add_assoc]
          · have := hmul l (by omega); simpa using this
          · intro k hk
            simp only [hk, Option.getD_some] at hK
            subst hK
            exact ⟨by omega, (hcap _ hk).2⟩
  · simp only [ha, if_false] at h
    split at h
    case isFalse => cases h
    rename_i hc
    simp only [Bool.and_eq_true, decide_eq_true_eq] at hc
    obtain ⟨⟨c1, c2⟩, c3⟩ := hc
    cases h
    have hlen : len = 0 := by
      rcases Nat.eq_zero_or_pos len with h | h
      · exact h
      · exact absurd (hadv h) ha
    subst hlen
    refine ⟨?_, p, hp, hes, hin, hadv, hcap⟩
    have hv : ∃ x k, conc ρ (.slice b o adv 0 cap) = .slice (some ⟨p.B, x, none⟩) 0 k := by
      simp only [conc, concSlice, hp, ha, if_false]
      split
      · exact ⟨_, _, rfl⟩
      · exact ⟨_, _, rfl⟩
    obtain ⟨x, k, hv⟩ := hv
    rw [hv]
    have hmx : mx = none := by cases mx <;> simp_all
    subst hmx
    have hb := bounds_run (P := P) (w := w) (len := 0) (cap := k) true h1 h2 h3 (by omega) (by simp; omega) (by simp) (by simp)
    simp only [Instr.slice, Sem.run_bind, run_und hu, Result.andThen_ok, hb, hrun, Sem.run_pure, c1, c2, Option.getD_none]
    simp [Addr.add]

theorem slice_sound (hT : TabOk P T) (hS : Sim P ρ M w) (hA : ActRel ρ a ca) {t : TypeId} {x : Operand} {lo hi mx : Option Operand} {v : AV}
    (h : vSlice T a M t x lo hi mx = some v) :
    (Instr.sliceAt t (ca.eval x) (lo.map ca.eval) (hi.map ca.eval) (mx.map ca.eval)).run P w = .ok (conc ρ v) w ∧ okv ρ v := by
  unfold vSlice at h
  split at h
  case h_2 => cases h
  rename_i u l h' m hx hl hh hm
  have hxv := aeval_sound hA hx
  have g1 := optNat_sound hA hl
  have g2 := optNat_sound hA hh
  have g3 := optNat_sound hA hm
  split at h
  · rename_i sz by_ z hty
    have hu := (hT.types _ _ hty).und
    simp only at hu
    split at h
    · rename_i s
      unfold asliceStr at h
      split at h
      · rename_i hc
        simp only [Bool.and_eq_true, decide_eq_true_eq] at hc
        obtain ⟨⟨c1, c2⟩, c3⟩ := hc
        have hmn : m = none := by cases m <;> simp_all
        subst hmn
        cases h
        refine ⟨?_, trivial⟩
        have hmv : mx.map ca.eval = none := by
          rcases g3 with g | ⟨m, k, e, _⟩
          · exact g.2
          · cases e
        have hb := bounds_run (P := P) (w := w) (len := s.size) (cap := s.size) false g1 g2 (.inl ⟨rfl, rfl⟩) c2 (by simpa using c3) (by simp) (by simp)
        simp only [Instr.sliceAt, Sem.run_bind, run_und hu, Result.andThen_ok, Instr.slice, hxv.1, conc, hmv]
        simp [hb]
      · cases h
    · cases h
  · rename_i e sz by_ z hty
    have hu := (hT.types _ _ hty).und
    simp only at hu
    unfold aslice at h
    split at h
    case h_2 => cases h
    rename_i j hj
    have hgo : (Instr.sliceAt t (ca.eval x) (lo.map ca.eval) (hi.map ca.eval) (mx.map ca.eval)).run P w = (Instr.slice t (ca.eval x) (lo.map ca.eval) (hi.map ca.eval) (mx.map ca.eval)).run P w := by
      simp only [Instr.sliceAt, Sem.run_bind, run_und hu, Result.andThen_ok]
    split at h
    · have := asliceNil_sound (ρ := ρ) (w := w) hT g1 g2 g3 hu hj h
      exact ⟨by rw [hgo, hxv.1]; exact this.1, this.2⟩
    · split at h
      · rename_i c e' fz q ex hM
        split at h
        · rename_i hc
          obtain ⟨rfl, _⟩ := hc
          have := asliceAt_sound hT hS g1 g2 g3 hu hj hM hxv.2 h
          exact ⟨by rw [hgo, hxv.1]; exact this.1, this.2⟩
        · cases h
      · cases h
    · cases h
  · cases h

end Go.Tc

/- Soundness: conversions, maps, builtins that read. -/
namespace Go.Tc

variable {P : Program} {T : Tab} {ρ : Rho} {M : AMem} {w : World} {a : AAct} {ca : Act}

theorem bytesOfCells_some : ∀ {l : List AV} {bs : List UInt8}, bytesOfCells l = some bs → ∃ ns : List Int, l = ns.map (AV.int .u8) ∧ bs = ns.map fun n => UInt8.ofNat n.toNat := by
  intro l
  induction l with
  | nil => intro bs h; simp [bytesOfCells] at h; subst h; exact ⟨[], rfl, rfl⟩
  | cons v r ih =>
    intro bs h
    cases v with
    | int k n =>
      cases k with
      | u8 =>
        simp only [bytesOfCells] at h
        cases hr : bytesOfCells r with
        | none => simp [hr] at h
        | some b =>
          simp [hr] at h
          subst h
          obtain ⟨ns, h1, h2⟩ := ih hr
          exact ⟨n :: ns, by simp [h1], by simp [h2]⟩
      | _ => simp [bytesOfCells] at h
    | _ => simp [bytesOfCells] at h

theorem foldl_push (ns : List Int) : ∀ s : ByteArray, ns.foldl (fun r n => r.push (UInt8.ofNat n.toNat)) s = ⟨(s.data.toList ++ ns.map fun n => UInt8.ofNat n.toNat).toArray⟩ := by
  induction ns with
  | nil => intro s; simp
  | cons n r ih =>
    intro s
    rw [List.foldl_cons, ih]
    simp [ByteArray.push]

theorem concL_u8 (ρ : Rho) (ns : List Int) : concL ρ (ns.map (AV.int .u8)) = ns.map (Value.int .u8) := by
  rw [concL_eq, List.map_map]; rfl

theorem isU8_und (hT : TabOk P T) {e : TypeId} (h : isU8 T e = true) : P.underlying e = some (.int .u8) := by
  unfold isU8 at h
  split at h
  · rename_i hi; exact (hT.types _ _ hi).und
  · cases h

theorem run_extBytes : ∀ (ns : List Int) (b : Addr) (acc : ByteArray), (∀ j x, ns[j]? = some x → w.cell? (b.add j) = some (.int .u8 x)) →
    (Extern.Bytes.loadBytes b ns.length acc).run P w = .ok (ns.foldl (fun r n => r.push (UInt8.ofNat n.toNat)) acc) w := by
  intro ns
  induction ns with
  | nil => intro b acc _; simp [Extern.Bytes.loadBytes]
  | cons n r ih =>
    intro b acc h
    have h0 : w.cell? b = some (.int .u8 n) := by
      have := h 0 n rfl
      simpa [Addr.add] using this
    simp only [List.length_cons, Extern.Bytes.loadBytes, Sem.run_bind, run_load, h0, Result.andThen_ok, List.foldl_cons]
    have e : (n.toNat.toUInt8 : UInt8) = UInt8.ofNat n.toNat := rfl
    rw [e]
    refine ih (b.add 1) _ fun j x hj => ?_
    have := h (j + 1) x (by simpa using hj)
    have e2 : (b.add 1).add j = b.add (j + 1) := by
      unfold Addr.add
      by_cases hj0 : j = 0
      · simp [hj0]
      · simp [hj0, Nat.add_comm, Nat.add_left_comm]
    rw [e2]; exact this

/-- The bytes of a value, as the conversions and the library's own functions read them. -/
theorem abytes_sound (hS : Sim P ρ M w) {x : AV} (hx : okv ρ x) {s : ByteArray} (h : abytes M x = some s) :
    (Extern.Bytes.bytesOf (conc ρ x)).run P w = .ok s w ∧ ((∀ s, x ≠ .string s) → (Conv.bytesToString (conc ρ x)).run P w = .ok (.string s) w) := by
  unfold abytes at h
  split at h
  · cases h; exact ⟨by simp [conc, Extern.Bytes.bytesOf], fun hn => absurd rfl (hn _)⟩
  · cases h; exact ⟨by simp [conc, Extern.Bytes.bytesOf], fun _ => by simp [conc, Conv.bytesToString]⟩
  · rename_i b o adv len cap
    split at h
    · rename_i hl
      subst hl
      cases h
      obtain ⟨x, l, k, hc⟩ := conc_slice_some hx
      have hl0 : l = 0 := by
        obtain ⟨p, hp, _⟩ := hx
        simp only [conc, concSlice, hp] at hc
        split at hc
        · injection hc with _ h _; exact h.symm
        · split at hc <;> (injection hc with _ h _; exact h.symm)
      subst hl0
      rw [hc]
      refine ⟨by simp [Extern.Bytes.bytesOf, Extern.Bytes.loadBytes], fun _ => ?_⟩
      have := run_bytesToString (P := P) w x 0 k [] (by simp [loadCells, loadCellsFrom])
      simpa using this
    · split at h
      · cases h
      · rename_i hl ha
        have ha0 : adv = 0 := Decidable.not_not.1 ha
        subst ha0
        split at h
        · rename_i c e fz q ex hM
          cases htk : takeCells c o len with
          | none => simp [htk] at h
          | some l =>
            simp [htk] at h
            obtain ⟨bs, hbs, rfl⟩ := h
            obtain ⟨ns, rfl, rfl⟩ := bytesOfCells_some hbs
            obtain ⟨p, hp, _⟩ := hx
            have hr := run_takeCells (P := P) hS hM hp htk
            obtain ⟨hle, hlen, hget⟩ := takeCells_some htk
            simp only [List.length_map] at hlen
            rw [conc_slice0 hp]
            constructor
            · simp only [Extern.Bytes.bytesOf]
              rw [← hlen]
              have := run_extBytes (P := P) (w := w) ns ⟨p.B, p.sh + o, none⟩ .empty (by
                intro j x hj
                have := (getElem?_conc hS hM hp (hget j (.int .u8 x) (by simp [hj]))).1
                rw [Addr.add_mk, Nat.add_assoc]
                exact this)
              rw [this, foldl_push]
              simp
            · intro _
              have h1 := hr.1
              rw [concL_u8] at h1
              rw [run_bytesToString (P := P) w _ len _ ns h1, foldl_push]
              simp
        · cases h
  · cases h

theorem shape_cells {B : Nat} {C : Array Value} {e : TypeId} {fr : Nat × Nat} (h : w.heap[B]? = some (.cells C e fr)) : w.shape? B = some (e, C.size) := by
  simp [World.shape?, h]

theorem run_seenAt {B o : Nat} {C : Array Value} {e : TypeId} {fr : Nat × Nat} (h : w.heap[B]? = some (.cells C e fr)) : (Conv.seenAt ⟨B, o, none⟩).run P w = .ok ⟨B, o, none⟩ w := by
  simp [Conv.seenAt, viewAt, shape_cells h]

theorem aunsafe_sound (hT : TabOk P T) (hS : Sim P ρ M w) {s d : TypeId} {x v : AV} (hx : okv ρ x) (h : aunsafe P T M s d x = some v) :
    (convert s d (conc ρ x)).run P w = .ok (conc ρ v) w ∧ okv ρ v := by
  unfold aunsafe at h
  split at h
  · rename_i t1 _ _ _ _ _ _ hs hd
    cases h
    refine ⟨?_, trivial⟩
    have h1 := (hT.types _ _ hs).und
    have h2 := (hT.types _ _ hd).und
    simp only at h1 h2
    simp [convert, run_und h1, run_und h2, conc, Conv.unsafePointer]
  · rename_i t1 _ _ _ _ _ _ b o hs hd
    have h1 := (hT.types _ _ hs).und
    have h2 := (hT.types _ _ hd).und
    simp only at h1 h2
    split at h
    · rename_i j c e fz q ex hj hM
      split at h
      · rename_i hc
        cases h
        obtain ⟨p, hp⟩ := hx
        refine ⟨?_, p, hp⟩
        obtain ⟨C, fr, hC, hCs, hSh, _⟩ := blk_cells hS hM hp
        have hlt : ¬ C.size ≤ p.sh + o := by omega
        simp [convert, run_und h1, run_und h2, conc, concPtr, hp, Conv.unsafePointer, run_seenAt hC, cellsIn, shape_cells hC, (hT.types _ _ hj).run_size, hc.1, hlt]
      · cases h
    · cases h
  · rename_i t1 _ _ _ _ _ _ hs hd
    cases h
    refine ⟨?_, trivial⟩
    have h1 := (hT.types _ _ hs).und
    have h2 := (hT.types _ _ hd).und
    simp only at h1 h2
    simp [convert, run_und h1, run_und h2, conc, Conv.unsafePointer]
  · rename_i _ _ _ u _ _ _ b o hs hd
    have h1 := (hT.types _ _ hs).und
    have h2 := (hT.types _ _ hd).und
    simp only at h1 h2
    split at h
    · rename_i j c e fz q hj hM
      split at h
      · rename_i hc
        cases h
        obtain ⟨p, hp⟩ := hx
        refine ⟨?_, p, hp⟩
        obtain ⟨C, fr, hC, hCs, hSh, _, _, _, hex, _⟩ := blk_cells hS hM hp
        obtain ⟨hsh0, hlen⟩ := hex rfl
        have hv : liesAt P P.depth e (C.size / P.cellsOf e) (p.sh + o) u 1 = true := by
          rw [hCs, ← hlen, hsh0, Nat.zero_add]; exact hc.2
        simp [convert, run_und h1, run_und h2, conc, concPtr, hp, Conv.unsafePointer, run_seenAt hC, variablesAt, shape_cells hC, (hT.types _ _ hj).run_size, hc.1, hv]
      · cases h
    · cases h
  · cases h

theorem aconvBytes_sound (hT : TabOk P T) (hS : Sim P ρ M w) {s d : TypeId} {x v : AV} (hx : okv ρ x) (hk : x = .nilSlice ∨ ∃ b o adv len cap, x = .slice b o adv len cap)
    (h : aconvBytes T M s d x = some v) : (convert s d (conc ρ x)).run P w = .ok (conc ρ v) w ∧ okv ρ v := by
  unfold aconvBytes at h
  split at h
  · rename_i e _ _ _ _ _ _ hs hd
    have h1 := (hT.types _ _ hs).und
    have h2 := (hT.types _ _ hd).und
    simp only at h1 h2
    split at h
    · rename_i hu
      cases hb : abytes M x with
      | none => simp [hb] at h
      | some bs =>
        simp [hb] at h
        subst h
        refine ⟨?_, trivial⟩
        have := (abytes_sound hS hx hb).2 (by rcases hk with rfl | ⟨_, _, _, _, _, rfl⟩ <;> simp)
        have hval : ∃ A l k, conc ρ x = .slice A l k := by
          rcases hk with rfl | ⟨_, _, _, _, _, rfl⟩
          · exact ⟨none, 0, 0, by simp [conc]⟩
          · obtain ⟨x, l, k, hc⟩ := conc_slice_some hx; exact ⟨_, _, _, hc⟩
        obtain ⟨A, l, k, hc⟩ := hval
        rw [hc] at this ⊢
        rw [run_convert_bytes_string w s d e A l k h1 (isU8_und hT hu) h2, this]
        simp [conc]
    · cases h
  · cases h

theorem convert_sound (hT : TabOk P T) (hS : Sim P ρ M w) (hA : ActRel ρ a ca) {s d : TypeId} {x : Operand} {v : AV} (h : vConvert P T a M s d x = some v) :
    (convert s d (ca.eval x)).run P w = .ok (conc ρ v) w ∧ okv ρ v := by
  unfold vConvert at h
  split at h
  case h_2 => cases h
  rename_i u hx
  have h1 := aeval_sound hA hx
  rw [h1.1]
  unfold aconvert at h
  split at h
  · rw [(flat_conc ρ _ (by rfl)).1]; exact pureV_run h ρ w
  · rw [(flat_conc ρ _ (by rfl)).1]; exact pureV_run h ρ w
  · unfold aconvStr at h
    split at h
    · rename_i i1 _ _ _ hs hd
      cases h
      refine ⟨?_, trivial⟩
      have g1 := (hT.types _ _ hs).und
      have g2 := (hT.types _ _ hd).und
      simp only at g2
      simp [convert, run_und g1, run_und g2, conc]
    · cases h
  · exact aconvBytes_sound hT hS h1.2 (.inl rfl) h
  · exact aconvBytes_sound hT hS h1.2 (.inr ⟨_, _, _, _, _, rfl⟩) h
  · exact aunsafe_sound hT hS h1.2 h
  · exact aunsafe_sound hT hS h1.2 h
  · cases h

end Go.Tc

/- Soundness: maps, builtins that read; all operations that compute or look. -/
namespace Go.Tc

variable {P : Program} {T : Tab} {ρ : Rho} {M : AMem} {w : World} {a : AAct} {ca : Act}

theorem afind_sound (d : TypeDesc) {kt : TypeId} {k : AV} : ∀ (es : List AEnt) (i : Nat) (r : Option Nat), (∀ e ∈ es, flat e.key = true) →
    afind P kt d k es i = some r →
    ((es.all fun e => (Instr.sameNow d (cv k) (cv e.key)).isSome) = true → Instr.findNow d (cv k) (es.map (concEnt ρ)) i = some (r.map fun j => (j, ((es[j - i]?).map fun e => conc ρ e.val).getD undef))) ∧
    ((es.all fun e => (Instr.sameNow d (cv k) (cv e.key)).isNone) = true → (Instr.findAsking kt (cv k) (es.map (concEnt ρ)) i).run P w = .ok (r.map fun j => (j, ((es[j - i]?).map fun e => conc ρ e.val).getD undef)) w) ∧
    ∀ j, r = some j → i ≤ j ∧ j - i < es.length := by
  intro es
  induction es with
  | nil =>
    intro i r _ h
    simp [afind] at h
    subst h
    simp [Instr.findNow, Instr.findAsking]
  | cons e rest ih =>
    intro i r hf h
    have hk := (flat_conc ρ e.key (hf e (by simp))).1
    simp only [afind] at h
    have step : ∀ r', afind P kt d k rest (i + 1) = some r' → ∀ j, r' = some j → i + 1 ≤ j ∧ j - (i + 1) < rest.length ∧ j - i = (j - (i + 1)) + 1 := by
      intro r' hr j hj
      have := (ih (i + 1) r' (fun x hx => hf x (List.mem_cons_of_mem _ hx)) hr).2.2 j hj
      omega
    cases hs : Instr.sameNow d (cv k) (cv e.key) with
    | some b =>
      rw [hs] at h
      simp only at h
      cases b with
      | true =>
        simp only [Option.some.injEq] at h
        subst h
        refine ⟨fun _ => ?_, fun hn => ?_, fun j hj => ?_⟩
        · simp [Instr.findNow, concEnt, hk, hs]
        · simp [hs] at hn
        · cases hj; simp
      | false =>
        simp only at h
        obtain ⟨i1, i2, i3⟩ := ih (i + 1) r (fun x hx => hf x (List.mem_cons_of_mem _ hx)) h
        refine ⟨fun hn => ?_, fun hn => ?_, fun j hj => ?_⟩
        · simp only [List.all_cons, Bool.and_eq_true] at hn
          have hr := i1 hn.2
          simp only [List.map_cons, Instr.findNow, concEnt, hk, hs]
          rw [hr]
          cases r with
          | none => rfl
          | some j => have := step _ h j rfl; simp [this.2.2]
        · simp [hs] at hn
        · have := step _ h j hj; simp; omega
    | none =>
      rw [hs] at h
      simp only at h
      cases he : evalPure P (Op.equal kt (cv k) (cv e.key)) with
      | none => simp [he] at h
      | some b =>
        rw [he] at h
        have hrun := evalPure_run P _ _ he w
        cases b with
        | true =>
          simp only [Option.some.injEq] at h
          subst h
          refine ⟨fun hn => ?_, fun _ => ?_, fun j hj => ?_⟩
          · simp [hs] at hn
          · simp [Instr.findAsking, concEnt, hk, hrun]
          · cases hj; simp
        | false =>
          simp only at h
          obtain ⟨i1, i2, i3⟩ := ih (i + 1) r (fun x hx => hf x (List.mem_cons_of_mem _ hx)) h
          refine ⟨fun hn => ?_, fun hn => ?_, fun j hj => ?_⟩
          · simp [hs] at hn
          · simp only [List.all_cons, Bool.and_eq_true] at hn
            have hr := i2 hn.2
            simp only [List.map_cons, Instr.findAsking, concEnt, hk, Sem.run_bind, hrun, Result.andThen_ok]
            simp only [Bool.false_eq_true, if_false, hr]
            cases r with
            | none => rfl
            | some j => have := step _ h j rfl; simp [this.2.2]
          · have := step _ h j hj; simp; omega

/-- A key's entry, as the model finds it. -/
theorem findKey_sound (hT : TabOk P T) {kt : TypeId} {kd : TInfo} (hkd : T.types.get kt = some kd) {k : AV} {es : List AEnt} {r : Option Nat}
    (hf : ∀ e ∈ es, flat e.key = true) (hn : nowAll kd.desc k es = true) (h : afind P kt kd.desc k es 0 = some r) :
    (Instr.findKey kt (cv k) (es.map (concEnt ρ))).run P w = .ok (r.map fun j => (j, ((es[j]?).map fun e => conc ρ e.val).getD undef)) w ∧ ∀ j, r = some j → j < es.length := by
  obtain ⟨h1, h2, h3⟩ := afind_sound (ρ := ρ) (w := w) kd.desc es 0 r hf h
  refine ⟨?_, fun j hj => by have := h3 j hj; omega⟩
  simp only [Instr.findKey, Sem.run_bind, (hT.types _ _ hkd).run_und, Result.andThen_ok]
  unfold nowAll at hn
  rw [Bool.or_eq_true] at hn
  rcases hn with hn | hn
  · rw [h1 hn]
    simp
  · cases es with
    | nil => simp [afind] at h; subst h; simp [Instr.findNow]
    | cons e rest =>
      simp only [Bool.and_eq_true] at hn
      have hk := (flat_conc ρ e.key (hf e (by simp))).1
      have hnone : Instr.sameNow kd.desc (cv k) (cv e.key) = none := by simpa using hn.1
      have : Instr.findNow kd.desc (cv k) ((e :: rest).map (concEnt ρ)) 0 = none := by simp [Instr.findNow, concEnt, hk, hnone]
      rw [this]
      simpa using h2 hn.2

theorem keyFits_sound {empty : Bool} {kt : TypeId} {k : AV} {es : List AEnt} (h : keyFits P empty kt k es = true) :
    conc ρ k = cv k ∧ okv ρ k ∧ (Instr.checkKey empty 10000 kt (cv k)).run P w = .ok () w ∧ ∀ e ∈ es, flat e.key = true := by
  simp only [keyFits, Bool.and_eq_true, List.all_eq_true] at h
  obtain ⟨⟨h1, h2⟩, h3⟩ := h
  obtain ⟨⟨⟩, hu⟩ := Option.isSome_iff_exists.1 h2
  have := flat_conc ρ k h1
  exact ⟨this.1, this.2, evalPure_run P _ _ hu w, h3⟩

theorem run_getObj {r : Nat} {o : Obj} (h : w.heap[r]? = some o) (hn : ∀ c e f, o ≠ .cells c e f) : (getObj r).run P w = .ok o w := by
  cases o <;> first
    | (exact absurd rfl (hn _ _ _))
    | (simp [getObj, Sem.run, h])

theorem amapOf_sound (hS : Sim P ρ M w) {m : AV} (hm : okv ρ m) {es : List AEnt} (h : amapOf M m = some es) :
    ((conc ρ m = .map none ∧ es = []) ∨ ∃ r ES CL, conc ρ m = .map (some r) ∧ w.heap[r]? = some (.map ES CL) ∧ ES.toList = es.map (concEnt ρ)) ∧ ∀ e ∈ es, okv ρ e.key ∧ okv ρ e.val := by
  unfold amapOf at h
  split at h
  · cases h; exact ⟨.inl ⟨by simp [conc], rfl⟩, by simp⟩
  · rename_i b
    split at h
    · rename_i es' cl hM
      cases h
      obtain ⟨p, hp⟩ := hm
      obtain ⟨o, ho, hb⟩ := hS.blk _ _ _ hM hp
      cases o <;> simp only [BlkOk] at hb
      rename_i ES CL
      exact ⟨.inr ⟨p.B, ES, CL, by simp [conc, concMap, hp], ho, hb.2.1⟩, hb.2.2⟩
    · cases h
  · cases h

theorem lookup_sound (hT : TabOk P T) (hS : Sim P ρ M w) (hA : ActRel ρ a ca) {t : TypeId} {m k : Operand} {ok : Bool} {v : AV} (h : vLookup P T a M t m k ok = some v) :
    (Instr.lookup t (ca.eval m) (ca.eval k) ok).run P w = .ok (conc ρ v) w ∧ okv ρ v := by
  unfold vLookup at h
  split at h
  case h_2 => cases h
  rename_i mv kv hm hk
  have h1 := aeval_sound hA hm
  have h2 := aeval_sound hA hk
  unfold alookup at h
  split at h
  case h_2 => cases h
  rename_i kt et _ _ _ ht
  have hu := (hT.types _ _ ht).und
  simp only at hu
  split at h
  case h_2 => cases h
  rename_i kd ed es hkd hed hes
  split at h
  case isFalse => cases h
  rename_i hc
  simp only [Bool.and_eq_true] at hc
  obtain ⟨g1, g2, g3, g4⟩ := keyFits_sound (ρ := ρ) (w := w) hc.1
  obtain ⟨e1, e3⟩ := amapOf_sound hS h1.2 hes
  have hz := flat_conc ρ ed.zero (hT.types _ _ hed).flat
  have hrz := (hT.types _ _ hed).run_zero (w := w)
  have hbeg : ∀ R : Option (Nat × Value), (Instr.findKey kt (cv kv) (es.map (concEnt ρ))).run P w = .ok R w →
      (Instr.lookup t (ca.eval m) (ca.eval k) ok).run P w = match R with
        | some (_, v) => .ok (if ok then .tuple #[v, .bool true] else v) w
        | none => .ok (if ok then .tuple #[cv ed.zero, .bool false] else cv ed.zero) w := by
    intro R hR
    rcases e1 with ⟨hcm, rfl⟩ | ⟨r, ES, CL, hcm, hheap, hES⟩
    · simp only [List.isEmpty_nil, List.map_nil] at g3 hR
      simp only [Instr.lookup, Sem.run_bind, run_und hu, Result.andThen_ok, h1.1, h2.1, g1, hcm, Sem.run_pure, Array.isEmpty_empty, g3, hR]
      cases R with
      | none => simp [hrz]
      | some x => simp
    · have hemp : ES.isEmpty = es.isEmpty := by rw [← Array.isEmpty_toList, hES]; cases es <;> rfl
      simp only [Instr.lookup, Sem.run_bind, run_und hu, Result.andThen_ok, h1.1, h2.1, g1, hcm, run_getObj hheap (by simp), Sem.run_pure, hemp, g3, hES, hR]
      cases R with
      | none => simp [hrz]
      | some x => simp
  split at h
  · rename_i i hfd
    obtain ⟨f1, f2⟩ := findKey_sound (ρ := ρ) (w := w) hT hkd g4 hc.2 hfd
    rw [hbeg _ f1]
    split at h
    · rename_i e he
      cases h
      have hok := e3 e (List.mem_of_getElem? he)
      simp only [Option.map_some, he, Option.getD_some]
      cases ok
      · exact ⟨by simp, by simpa using hok.2⟩
      · exact ⟨by simp [conc, concL], hok.2, trivial, trivial⟩
    · cases h
  · rename_i hfd
    obtain ⟨f1, f2⟩ := findKey_sound (ρ := ρ) (w := w) hT hkd g4 hc.2 hfd
    rw [hbeg _ f1]
    cases h
    simp only [Option.map_none]
    cases ok
    · exact ⟨by simp [hz.1], by simpa using hz.2⟩
    · exact ⟨by simp [conc, concL, hz.1], hz.2, trivial, trivial⟩
  · cases h

theorem entry_sound (hS : Sim P ρ M w) (hA : ActRel ρ a ca) {x : Operand} {v : AV} (h : vEntry a M x = some v) :
    (Instr.entry (ca.eval x)).run P w = .ok (conc ρ v) w ∧ okv ρ v := by
  unfold vEntry at h
  split at h
  case h_2 => cases h
  rename_i b hx
  have h1 := aeval_sound hA hx
  obtain ⟨p, hp⟩ := h1.2
  unfold aentry at h
  split at h
  case h_2 => cases h
  rename_i m since seen stepped hM
  split at h
  case h_2 => cases h
  rename_i stamp es cl hlast hMm
  split at h
  case isFalse => cases h
  rename_i hcl
  cases hf : es.find? (·.born == stamp) with
  | none => simp [hf] at h
  | some e =>
    simp [hf] at h
    subst h
    obtain ⟨o, ho, hb⟩ := hS.blk _ _ _ hM hp
    cases o <;> simp only [BlkOk] at hb
    rename_i m' a' l' b'
    obtain ⟨rfl, rfl, rfl, hsh, hm⟩ := hb
    cases m' with
    | none => exact hm.elim
    | some y =>
      obtain ⟨q, hq, rfl⟩ := hm
      obtain ⟨o2, ho2, hb2⟩ := hS.blk _ _ _ hMm hq
      cases o2 <;> simp only [BlkOk] at hb2
      rename_i ES CL
      obtain ⟨rfl, hES, hok⟩ := hb2
      have hmem := List.mem_of_find?_eq_some hf
      refine ⟨?_, (hok e hmem).1, (hok e hmem).2, trivial⟩
      have hback : l'.back? = some stamp := by rw [← hlast, List.getLast?_eq_getElem?, Array.back?_eq_getElem?]; simp
      have hfind : ES.find? (·.born == stamp) = some (concEnt ρ e) := by
        rw [← Array.find?_toList, hES, List.find?_map]
        have : ((fun x : MapEntry => x.born == stamp) ∘ concEnt ρ) = fun x : AEnt => x.born == stamp := rfl
        rw [this, hf]
        rfl
      have hcl' : (CL != b') = false := by simp [hcl]
      simp only [Instr.entry, h1.1, conc, concPtr, hp, hsh, Nat.add_zero, Sem.run_bind, run_getObj ho (by simp), Result.andThen_ok, hback, run_getObj ho2 (by simp), hcl',
        Bool.false_eq_true, if_false, Sem.run_pure, hfind]
      simp [concL, concEnt]

end Go.Tc

/- Soundness: all operations that compute or look. -/
namespace Go.Tc

variable {P : Program} {T : Tab} {ρ : Rho} {M : AMem} {w : World} {a : AAct} {ca : Act}

theorem lenOfType_sound (hT : TabOk P T) (hS : Sim P ρ M w) {ts : Array TypeId} {t : TypeId} (ht : ts[0]? = some t) {x : AV} (hx : okv ρ x) {n : Nat} (ty : TypeId)
    (h : lenOfType T M t x = some n) : (Builtin.len_ ts ty #[conc ρ x]).run P w = .ok (.int .i64 n) w := by
  unfold lenOfType at h
  split at h
  case h_2 => cases h
  rename_i i hi
  have hu := (hT.types _ _ hi).und
  split at h
  · rename_i hd
    rw [hd] at hu
    split at h
    · cases h; simp [Builtin.len_, ht, run_und hu, conc, goInt]
    · cases h
  · rename_i e hd
    rw [hd] at hu
    split at h
    · cases h; simp [Builtin.len_, ht, run_und hu, conc, goInt]
    · rename_i b o adv len cap
      cases h
      have : ∃ A k, conc ρ (.slice b o adv n cap) = .slice A n k := by
        obtain ⟨p, hp, _⟩ := hx
        simp only [conc, concSlice, hp]
        split
        · exact ⟨_, _, rfl⟩
        · split <;> exact ⟨_, _, rfl⟩
      obtain ⟨A, k, hc⟩ := this
      rw [hc]
      simp [Builtin.len_, ht, run_und hu, goInt]
    · cases h
  · rename_i k e hd
    rw [hd] at hu
    split at h
    · cases h; simp [Builtin.len_, ht, run_und hu, conc, goInt]
    · rename_i b
      split at h
      · rename_i es cl hM
        cases h
        obtain ⟨p, hp⟩ := hx
        obtain ⟨o, ho, hb⟩ := hS.blk _ _ _ hM hp
        cases o <;> simp only [BlkOk] at hb
        rename_i ES CL
        have hsz : ES.size = es.length := by
          have := congrArg List.length hb.2.1
          simpa using this
        simp [Builtin.len_, ht, run_und hu, conc, concMap, hp, run_getObj ho (by simp), goInt, hsz]
      · cases h
    · cases h
  · cases h

theorem builtin_len (ts : Array TypeId) (ty : TypeId) (cs : Array Bool) (args : Array Value) : builtin .len ts ty cs args = (do pure (.value (← Builtin.len_ ts ty args))) := rfl
theorem builtin_cap (ts : Array TypeId) (ty : TypeId) (cs : Array Bool) (args : Array Value) : builtin .cap ts ty cs args = (do pure (.value (← Builtin.cap_ ts ty args))) := rfl
theorem builtin_min (ts : Array TypeId) (ty : TypeId) (cs : Array Bool) (args : Array Value) : builtin .min ts ty cs args = (do pure (.value (← Builtin.min_ ts ty args))) := rfl
theorem builtin_max (ts : Array TypeId) (ty : TypeId) (cs : Array Bool) (args : Array Value) : builtin .max ts ty cs args = (do pure (.value (← Builtin.max_ ts ty args))) := rfl
theorem builtin_data (ts : Array TypeId) (ty : TypeId) (cs : Array Bool) (args : Array Value) :
    builtin .unsafeSliceData ts ty cs args = (do pure (.value (← Builtin.unsafeSliceData_ ts ty args))) := rfl

theorem flat_scalars : ∀ {vs : List AV}, scalars vs = true → concL ρ vs = vs.map cv := by
  intro vs
  induction vs with
  | nil => intro _; simp [concL]
  | cons v r ih =>
    intro h
    simp only [scalars, List.all_cons, Bool.and_eq_true] at h
    simp [concL, (flat_conc ρ v (scalar_flat h.1)).1, ih h.2]

theorem data_nil (ts : Array TypeId) (ty : TypeId) (l c : Nat) : Builtin.unsafeSliceData_ ts ty #[.slice none l c] = pure (.pointer none) := rfl
theorem data_some (ts : Array TypeId) (ty : TypeId) (x : Addr) (l c : Nat) (h : c ≠ 0) : Builtin.unsafeSliceData_ ts ty #[.slice (some x) l c] = pure (.pointer (some x)) := by
  show (if c ≠ 0 then (pure (Value.pointer (some x)) : Sem Value) else _) = _
  rw [if_pos h]
theorem indexByte_eq (b c : Value) : Extern.BytealgIndexByte.indexByte #[b, c] = (do
    let b ← Extern.Bytes.bytesOf b
    let c ← Extern.Bytes.asByte c
    match (List.range b.size).find? fun i => b[i]! == c with
    | some i => pure (goInt i)
    | none => pure (goInt (-1))) := rfl
theorem count_eq (b c : Value) : Extern.BytealgCount.count #[b, c] = (do
    let b ← Extern.Bytes.bytesOf b
    let c ← Extern.Bytes.asByte c
    pure (goInt (b.foldl (fun n x => if x == c then n + 1 else n) (0 : Nat)))) := rfl
theorem f64bits_eq (b : Nat) : Extern.MathFloatBits.float64bits #[.float .f64 b] = pure (.int .u64 b) := rfl
theorem f64from_eq (n : Int) : Extern.MathFloatBits.float64frombits #[.int .u64 n] = pure (.float .f64 n.toNat) := rfl
theorem same_eq (x : Value) : Extern.AbiNoEscape.same #[x] = pure x := rfl

theorem readBuiltin_sound (hT : TabOk P T) (hS : Sim P ρ M w) {b : Builtin} {ts : Array TypeId} {ty : TypeId} {vs : List AV} (hvs : okL ρ vs) {v : AV}
    (h : areadBuiltin P T M b ts ty vs = some v) (cs : Array Bool) : (builtin b ts ty cs (concL ρ vs).toArray).run P w = .ok (.value (conc ρ v)) w ∧ okv ρ v := by
  unfold areadBuiltin at h
  split at h
  · unfold rdLen at h
    split at h
    · rename_i t r x hts
      cases hn : lenOfType T M t x with
      | none => simp [hn] at h
      | some n =>
        simp [hn] at h
        subst h
        have ht : ts[0]? = some t := by rw [← Array.getElem?_toList, hts]; rfl
        refine ⟨?_, trivial⟩
        rw [builtin_len]
        exact run_v (by simpa [concL, conc] using lenOfType_sound hT hS ht hvs.1 ty hn)
    · cases h
  · unfold rdCap at h
    split at h
    · rename_i t r x hts
      have ht : ts[0]? = some t := by rw [← Array.getElem?_toList, hts]; rfl
      cases hn : capOfType T t x with
      | none => simp [hn] at h
      | some n =>
        simp [hn] at h
        subst h
        refine ⟨?_, trivial⟩
        rw [builtin_cap]
        refine run_v ?_
        unfold capOfType at hn
        split at hn
        · rename_i e _ _ _ hi
          have hu := (hT.types _ _ hi).und
          simp only at hu
          unfold acap at hn
          split at hn
          · cases hn; simp [Builtin.cap_, ht, run_und hu, concL, conc, goInt]
          · rename_i b o adv len c
            split at hn
            · rename_i ha
              subst ha
              cases hn
              obtain ⟨p, hp, _⟩ := hvs.1
              simp [Builtin.cap_, ht, run_und hu, concL, conc_slice0 hp, goInt]
              simp [conc]
            · cases hn
          · cases hn
        · cases hn
    · cases h
  · split at h
    · rename_i hs
      have := pureV_run h ρ w
      refine ⟨?_, this.2⟩
      rw [builtin_min, flat_scalars hs]
      exact run_v this.1
    · cases h
  · split at h
    · rename_i hs
      have := pureV_run h ρ w
      refine ⟨?_, this.2⟩
      rw [builtin_max, flat_scalars hs]
      exact run_v this.1
    · cases h
  · unfold rdData at h
    split at h
    · cases h
      refine ⟨?_, trivial⟩
      rw [builtin_data]
      exact run_v (by simp only [concL, conc]; rw [data_nil]; rfl)
    · rename_i b o adv len cap
      split at h
      · rename_i hc
        obtain ⟨rfl, hlen⟩ := hc
        cases h
        obtain ⟨p, hp, hes, hin, _, hcap⟩ := hvs.1
        refine ⟨?_, p, hp⟩
        rw [builtin_data]
        have hne : cap.getD ((p.S - (p.sh + o)) / p.es) ≠ 0 := by
          cases cap with
          | none =>
            have := room_le (k := len) hes (by simpa using hin)
            simp only [Option.getD_none]; omega
          | some k => have := (hcap k rfl).1; simp only [Option.getD_some]; omega
        refine run_v ?_
        simp only [concL, conc_slice0 hp]
        rw [data_some _ _ _ _ _ hne]
        simp [conc, concPtr, hp]
      · cases h
    · cases h
  · cases h

theorem byte_eq (c : Int) : (c.toNat.toUInt8 : UInt8) = UInt8.ofNat c.toNat := rfl

theorem callExt {f : FuncId} {fn : Func} {args : Array Value} {e : Array Value → Sem Value} (hf : P.funcs[f]? = some fn) (hn : (fn.name == "runtime.NumGoroutine") = false)
    (hb : fn.body = none) (h1 : Extern.findNext fn = none) (h2 : Extern.find fn = some e) : (callFunc f args).run P w = ((do pure (.value (← e args)) : Sem Next)).run P w := by
  have hn' : ¬ fn.name = "runtime.NumGoroutine" := by simpa using hn
  simp [callFunc, hf, hn', hb, h1, h2]

theorem readExt_sound (hT : TabOk P T) (hS : Sim P ρ M w) {f : FuncId} {e : AExt} (he : T.ext.get f = some e) {vs : List AV} (hvs : okL ρ vs) {v : AV}
    (h : areadExt M e vs = some v) : (callFunc f (concL ρ vs).toArray).run P w = .ok (.value (conc ρ v)) w ∧ okv ρ v := by
  obtain ⟨fn, hfn, hb, hx⟩ := hT.ext f e he
  obtain ⟨hf, hn⟩ := hT.funcs f fn hfn
  unfold areadExt at h
  split at h
  · rename_i x c
    split at h
    · rename_i s hs
      cases h
      refine ⟨?_, trivial⟩
      rw [callExt hf hn hb hx.1 hx.2]
      refine run_v ?_
      have := (abytes_sound hS hvs.1 hs).1
      simp only [concL]
      rw [indexByte_eq]
      simp only [Sem.run_bind, this, Result.andThen_ok, conc, Extern.Bytes.asByte, Sem.run_pure, byte_eq]
      split <;> rename_i hfd <;> simp [hfd, goInt]
    · cases h
  · rename_i x c
    split at h
    · rename_i s hs
      cases h
      refine ⟨?_, trivial⟩
      rw [callExt hf hn hb hx.1 hx.2]
      refine run_v ?_
      have := (abytes_sound hS hvs.1 hs).1
      simp only [concL]
      rw [count_eq]
      simp only [Sem.run_bind, this, Result.andThen_ok, conc, Extern.Bytes.asByte, Sem.run_pure, byte_eq]
      rfl
    · cases h
  · cases h
    refine ⟨?_, trivial⟩
    rw [callExt hf hn hb hx.1 hx.2]
    exact run_v (by simp only [concL, conc]; rw [f64bits_eq]; rfl)
  · cases h
    refine ⟨?_, trivial⟩
    rw [callExt hf hn hb hx.1 hx.2]
    exact run_v (by simp only [concL, conc]; rw [f64from_eq]; rfl)
  · cases h
    refine ⟨?_, hvs.1⟩
    rw [callExt hf hn hb hx.1 hx.2]
    exact run_v (by simp only [concL]; rw [same_eq]; rfl)
  · cases h

theorem eval_func (f : FuncId) : ca.eval (.func f) = .func (.func f) #[] #[] := rfl

/-- Whatever the evaluator says of an operation that computes or looks, the model does. -/
theorem aval_sound (hT : TabOk P T) (hS : Sim P ρ M w) (hA : ActRel ρ a ca) {o : Oper} {v : AV} (h : aval P T a M o.type o.op = some v) :
    (execOp ca.eval o).run P w = .ok (.value (conc ρ v)) w ∧ okv ρ v := by
  unfold aval at h
  unfold execOp
  split at h <;> rename_i ho <;> (try rw [ho]) <;> try (simp only)
  · have := aeval_sound hA h; exact ⟨by simp [this.1], this.2⟩
  · have := aeval_sound hA h; exact ⟨by simp [this.1], this.2⟩
  · unfold vPick at h
    split at h
    · rename_i b hc
      have h1 := aeval_sound hA hc
      have h2 := aeval_sound hA h
      refine ⟨?_, h2.2⟩
      simp only [h1.1, conc, asBool, Sem.run_bind, Sem.run_pure, Result.andThen_ok]
      cases b <;> simp_all
    · cases h
  · have := extract_sound (P := P) (w := w) hA h; exact ⟨run_v this.1, this.2⟩
  · have := field_sound (w := w) hT hA h; exact ⟨run_v this.1, this.2⟩
  · have := build_sound (w := w) hT hA h; exact ⟨run_v this.1, this.2⟩
  · have := load_sound hT hS hA h; exact ⟨run_v this.1, this.2⟩
  · obtain ⟨b, h1, h2, h3⟩ := nilCheck_sound hA h
    exact ⟨by rw [h1, h2]; rfl, h3⟩
  · have := binOp_sound (w := w) hT hA h; exact ⟨run_v this.1, this.2⟩
  · have := un_sound (P := P) (w := w) hA h; exact ⟨run_v this.1, this.2⟩
  · have := convert_sound hT hS hA h; exact ⟨run_v this.1, this.2⟩
  · have := makeInterface_sound (w := w) hT hA h; exact ⟨run_v this.1, this.2⟩
  · unfold vMakeFunc at h
    split at h
    · rename_i l r hl hr
      cases h
      have h1 := aevalL_sound hA hl
      have h2 := aevalL_sound hA hr
      refine ⟨?_, h1.2, h2.2⟩
      refine run_v ?_
      simp only [Instr.makeFunc, Sem.run_pure, conc]
      congr 2
      · apply Array.toList_inj.1; simp [h1.1]
      · apply Array.toList_inj.1; simp [h2.1]
    · cases h
  · have := fieldAddr_sound (w := w) hT hA h; exact ⟨run_v this.1, this.2⟩
  · have := indexAddr_sound (w := w) hT hA h; exact ⟨run_v this.1, this.2⟩
  · have := index_sound (w := w) hT hA h; exact ⟨run_v this.1, this.2⟩
  · have := slice_sound hT hS hA h; exact ⟨run_v this.1, this.2⟩
  · have := lookup_sound hT hS hA h; exact ⟨run_v this.1, this.2⟩
  · have := entry_sound (P := P) hS hA h; exact ⟨run_v this.1, this.2⟩
  · rename_i x xt at_ ok
    have := typeAssert_sound (w := w) (xt := xt) hT hA h; exact ⟨run_v this.1, this.2⟩
  · rename_i c
    unfold vCall at h
    split at h
    · rename_i b hc
      split at h
      · rename_i vs hvs
        have h1 := aevalL_sound hA hvs
        have hargs : c.args.map ca.eval = (concL ρ vs).toArray := by apply Array.toList_inj.1; simp [h1.1]
        have := readBuiltin_sound hT hS h1.2 h (c.args.map fun | .const _ => true | _ => false)
        refine ⟨?_, this.2⟩
        simp only [resolve, hc, hargs, Sem.run_bind, Sem.run_pure, Result.andThen_ok, invoke]
        exact this.1
      · cases h
    · rename_i g hc
      split at h
      · rename_i e he
        split at h
        · rename_i vs hvs
          have h1 := aevalL_sound hA hvs
          have hargs : c.args.map ca.eval = (concL ρ vs).toArray := by apply Array.toList_inj.1; simp [h1.1]
          have := readExt_sound hT hS he h1.2 h
          refine ⟨?_, this.2⟩
          simp only [resolve, hc, hargs, eval_func, Deferred.ofValue, Sem.run_bind, Sem.run_pure, Result.andThen_ok, invoke]
          simpa using this.1
        · cases h
      · cases h
    · cases h
  · cases h

end Go.Tc

/- Soundness: operations that make a block. -/
namespace Go.Tc

variable {P : Program} {T : Tab} {ρ : Rho} {M : AMem} {w : World} {a : AAct} {ca : Act}

noncomputable def upd (ρ : Rho) (b : Nat) (p : Pl) : Rho := fun x => if x = b then some p else ρ x

theorem upd_self (ρ : Rho) (b : Nat) (p : Pl) : upd ρ b p b = some p := by simp [upd]
theorem upd_ext {ρ : Rho} {b : Nat} {p : Pl} (h : ρ b = none) : Ext ρ (upd ρ b p) := by
  intro x q hx
  by_cases e : x = b
  · subst e; rw [h] at hx; cases hx
  · simp [upd, e, hx]

theorem Sim.push (hS : Sim P ρ M w) (k : ABlk) : Sim P ρ (M.push k) w := by
  have hlow : ∀ b p, ρ b = some p → b ≠ M.next := fun b p hp => by have := (hS.dom b p hp).1; omega
  refine ⟨?_, ?_, ?_, ?_⟩
  · intro b k' p hb hp
    rw [AMem.get_push, if_neg (hlow b p hp)] at hb
    exact hS.blk b k' p hb hp
  · intro b b' k1 k2 p p' hb hb' hp hp' e
    rw [AMem.get_push, if_neg (hlow b p hp)] at hb
    rw [AMem.get_push, if_neg (hlow b' p' hp')] at hb'
    exact hS.inj b b' k1 k2 p p' hb hb' hp hp' e
  · intro b p hp
    have := hS.dom b p hp
    exact ⟨by simp only [AMem.next_push]; omega, this.2⟩
  · intro b k' hb
    rw [AMem.get_push] at hb
    simp only [AMem.next_push]
    split at hb
    · omega
    · have := hS.low b k' hb; omega

theorem Sim.born (hS : Sim P ρ M w) {b : Nat} {k : ABlk} (hb : M.get b = some k) (hρ : ρ b = none) {w1 : World} {o : Obj} (hheap : w1.heap = w.heap.push o) {p : Pl} (hp : p.B = w.heap.size)
    (hk : BlkOk P (upd ρ b p) p k o) : Sim P (upd ρ b p) M w1 := by
  have hext := upd_ext (p := p) hρ
  have hcase : ∀ x q, upd ρ b p x = some q → (x = b ∧ q = p) ∨ (x ≠ b ∧ ρ x = some q) := by
    intro x q hx
    by_cases e : x = b
    · subst e; rw [upd_self] at hx; cases hx; exact .inl ⟨rfl, rfl⟩
    · simp [upd, e] at hx; exact .inr ⟨e, hx⟩
  refine ⟨?_, ?_, ?_, hS.low⟩
  · intro x k' q hx hq
    rcases hcase x q hq with ⟨rfl, rfl⟩ | ⟨e, hq⟩
    · rw [hb] at hx
      cases hx
      exact ⟨o, by rw [hheap, hp]; simp, hk⟩
    · obtain ⟨o', ho', hok⟩ := hS.blk x k' q hx hq
      have hlt := (hS.dom x q hq).2
      refine ⟨o', ?_, BlkOk.ext hext hok⟩
      rw [hheap, Array.getElem?_push, if_neg (by omega)]
      exact ho'
  · intro x y k1 k2 q q' hx hy hq hq' e
    rcases hcase x q hq with ⟨e1, e1'⟩ | ⟨e1, hq1⟩ <;> rcases hcase y q' hq' with ⟨e2, e2'⟩ | ⟨e2, hq2⟩
    · rw [e1, e2]
    · have := (hS.dom y q' hq2).2; rw [e1'] at e; omega
    · have := (hS.dom x q hq1).2; rw [e2'] at e; omega
    · exact hS.inj x y k1 k2 q q' hx hy hq1 hq2 e
  · intro x q hq
    rw [hheap, Array.size_push]
    rcases hcase x q hq with ⟨rfl, rfl⟩ | ⟨_, hq⟩
    · exact ⟨hS.low _ _ hb, by omega⟩
    · have := hS.dom x q hq; exact ⟨this.1, by omega⟩

theorem Adv.born {M M' : AMem} (hn : M.next ≤ M'.next) {b : Nat} (hb : M.next ≤ b) (hρ : ρ b = none) {w1 : World} {o : Obj} (hheap : w1.heap = w.heap.push o) (h1 : w1.os = w.os) (h2 : w1.tape = w.tape) (h3 : w1.output = w.output) {p : Pl} (hp : p.B = w.heap.size) :
    Adv M ρ w M' (upd ρ b p) w1 := by
  refine ⟨hn, ?_, upd_ext hρ, ?_, h1, h2, h3, by rw [hheap]; simp, ?_⟩
  · intro x q hx hn
    by_cases e : x = b
    · subst e; exact hb
    · simp [upd, e] at hx; rw [hx] at hn; cases hn
  · intro x q hx hn
    by_cases e : x = b
    · subst e; rw [upd_self] at hx; cases hx; exact .inl (by omega)
    · simp [upd, e] at hx; rw [hx] at hn; cases hn
  · intro B hB _
    rw [hheap, Array.getElem?_push, if_neg (by omega)]

/-- What an allocation comes to. -/
noncomputable def AllocOk (P : Program) (ρ : Rho) (w : World) (k : ABlk) (f : Nat → AV) (val : Value) (w1 : World) : Prop :=
  ∃ o S es, w1.heap = w.heap.push o ∧ w1.os = w.os ∧ w1.tape = w.tape ∧ w1.output = w.output ∧
    ∀ ρ' b, Ext ρ ρ' → ρ' b = some ⟨w.heap.size, 0, S, es⟩ → val = conc ρ' (f b) ∧ okv ρ' (f b) ∧ BlkOk P ρ' ⟨w.heap.size, 0, S, es⟩ k o

theorem cells_ok {ρ : Rho} {p : Pl} {c : List AV} {e : TypeId} {C : Array Value} (hc : okL ρ c) (hC : C.toList = concL ρ c) (h0 : p.sh = 0) (hS : p.S = c.length)
    (hes : ∃ f, P.info? e = some f ∧ f.size = p.es) : BlkOk P ρ p (.cells c e 0 true true) (.cells C e) := by
  have hlen : C.size = c.length := by have := congrArg List.length hC; simpa [concL_eq] using this
  refine ⟨rfl, by omega, by omega, ?_, by simp, by simp, by simp [h0, hS], hes⟩
  intro i v hv
  refine ⟨?_, (okL_iff _ _).1 hc v (List.mem_of_getElem? hv)⟩
  rw [h0, Nat.zero_add, ← Array.getElem?_toList, hC, concL_eq, List.getElem?_map, hv]
  rfl

theorem okL_mono {ρ ρ' : Rho} (e : Ext ρ ρ') {l : List AV} (h : okL ρ l) : concL ρ' l = concL ρ l ∧ okL ρ' l := concL_ext e l h

theorem info_size (hT : TabOk P T) {t : TypeId} {i : TInfo} (hi : T.types.get t = some i) : ∃ f, P.info? t = some f ∧ f.size = i.size := by
  obtain ⟨f, hf, hs, _⟩ := (hT.types t i hi).info
  exact ⟨f, hf, hs⟩

theorem newRow_run {e : TypeId} {C : Array Value} : (newRow e C).run P w = .ok ⟨w.heap.size, 0, none⟩ { w with heap := w.heap.push (.cells C e) } := by
  simp [newRow]

theorem alAlloc_sound (hT : TabOk P T) {t : TypeId} {k : ABlk} {f : Nat → AV} (h : alAlloc T t = some (k, f)) :
    ∃ val w1, (Instr.alloc t true (.tuple #[])).run P w = .ok val w1 ∧ AllocOk P ρ w k f val w1 := by
  unfold alAlloc at h
  split at h
  · rename_i i hi
    cases h
    have hti := hT.types t i hi
    have hz := zero_cells ρ hti
    refine ⟨.pointer (some ⟨w.heap.size, 0, none⟩), { w with heap := w.heap.push (.cells (cv i.zero).cells t) }, ?_, .cells (cv i.zero).cells t, i.size, i.size, rfl, rfl, rfl, rfl, ?_⟩
    · simp [Instr.alloc, hti.run_zero, newVar, newRow_run]
    · intro ρ' b he hb
      have hm := okL_mono he hz.2
      refine ⟨by simp [conc, concPtr, hb], ⟨_, hb⟩, cells_ok hm.2 (by rw [hz.1, hm.1]) rfl (by simp [hti.size]) (info_size hT hi)⟩
  · cases h

theorem alBox_sound (hT : TabOk P T) (hA : ActRel ρ a ca) {t : TypeId} {x : Operand} {k : ABlk} {f : Nat → AV} (h : alBox T a t x = some (k, f)) :
    ∃ val w1, (Instr.box t (ca.eval x)).run P w = .ok val w1 ∧ AllocOk P ρ w k f val w1 := by
  unfold alBox at h
  split at h
  · rename_i v i hx hi
    cases h
    have h1 := aeval_sound hA hx
    refine ⟨.pointer (some ⟨w.heap.size, 0, none⟩), { w with heap := w.heap.push (.cells (conc ρ v).cells t) }, ?_, .cells (conc ρ v).cells t, v.cells.length, i.size, rfl, rfl, rfl, rfl, ?_⟩
    · simp [Instr.box, newVar, newRow_run, h1.1]
    · intro ρ' b he hb
      have hm := okL_mono he ((okL_iff _ _).2 (okv_cells h1.2))
      refine ⟨by simp [conc, concPtr, hb], ⟨_, hb⟩, cells_ok hm.2 (by rw [conc_cells, hm.1, concL_eq]) rfl rfl (info_size hT hi)⟩
  · cases h

theorem range_repeat {α : Type} [Inhabited α] (z : List α) : ∀ n, (List.range (n * z.length)).map (fun i => z[i % z.length]!) = (List.replicate n z).flatten := by
  intro n
  induction n with
  | zero => simp
  | succ n ih =>
    rw [Nat.succ_mul, List.range_add, List.map_append, ih, List.replicate_succ', List.flatten_append]
    congr 1
    simp only [List.map_map, List.flatten_cons, List.flatten_nil, List.append_nil]
    apply List.ext_getElem
    · simp
    · intro i h1 h2
      have hi : i < z.length := h2
      simp [Nat.mul_add_mod_of_lt hi, hi]

theorem zero_row (z : Array Value) (n size : Nat) (h : z.size = size) : ((Array.range (n * size)).map (z[· % z.size]!)).toList = (List.replicate n z.toList).flatten := by
  rw [← range_repeat]
  simp only [Array.toList_map, Array.toList_range, Array.length_toList]
  rw [h]
  apply List.map_congr_left
  intro i _
  rw [getElem!_def, getElem!_def, Array.getElem?_toList]

theorem concL_flatten (ρ : Rho) (n : Nat) (l : List AV) : concL ρ (List.replicate n l).flatten = (List.replicate n (concL ρ l)).flatten := by
  simp only [concL_eq, List.map_flatten, List.map_replicate]

theorem okL_flatten {ρ : Rho} {n : Nat} {l : List AV} (h : okL ρ l) : okL ρ (List.replicate n l).flatten := by
  refine (okL_iff _ _).2 fun v hv => ?_
  simp only [List.mem_flatten, List.mem_replicate] at hv
  obtain ⟨l', ⟨_, rfl⟩, hv⟩ := hv
  exact (okL_iff _ _).1 h v hv

theorem fillA_length (place : Nat → Option (Nat × Nat)) : ∀ (ps : List (Nat × AV)) (c l : List AV), fillA place c ps = some l → l.length = c.length := by
  intro ps
  induction ps with
  | nil => intro c l h; simp [fillA] at h; subst h; rfl
  | cons x r ih =>
    intro c l h
    simp only [fillA] at h
    split at h
    · split at h
      · rename_i hc
        rw [ih _ _ h, setRange_length (by omega)]
      · cases h
    · cases h

theorem zero_size {i : TInfo} {t : TypeId} (h : TInfoOk P t i) : (cv i.zero).cells.size = i.size := by
  have := congrArg List.length (zero_cells rho0 h).1
  simpa [concL_eq, h.size] using this

theorem alSlice_sound (hT : TabOk P T) (hA : ActRel ρ a ca) {t : TypeId} {len : Nat} {parts : Array (Nat × Operand)} {k : ABlk} {f : Nat → AV}
    (h : alSlice T a t len parts.toList = some (k, f)) :
    ∃ val w1, (Instr.buildSlice t len (parts.map fun (i, x) => (i, ca.eval x))).run P w = .ok val w1 ∧ AllocOk P ρ w k f val w1 := by
  unfold alSlice at h
  split at h
  case h_2 => cases h
  rename_i e _ _ _ hi
  have hu := (hT.types _ _ hi).und
  simp only at hu
  split at h
  case h_2 => cases h
  rename_i j ps hj hps
  split at h
  case isTrue => cases h
  rename_i hne
  split at h
  case h_2 => cases h
  rename_i c hf
  cases h
  have htj := hT.types _ _ hj
  have hp := aparts_sound hA hps
  have hz := zero_cells ρ htj
  have hzs := zero_size htj
  have hsz : j.size ≠ 0 := fun e => hne (.inl e)
  have hbig : ¬ len * j.size > 2 ^ 24 := fun e => hne (.inr e)
  have hrow : ((Array.range (len * j.size)).map ((cv j.zero).cells[· % (cv j.zero).cells.size]!)).toList = concL ρ (List.replicate len j.zero.cells).flatten := by
    rw [zero_row _ _ _ hzs, hz.1, concL_flatten]
  obtain ⟨C', hC1, hC2, hC3⟩ := fill_sound ρ (fun i => some (i * j.size, j.size)) ps (List.replicate len j.zero.cells).flatten c
    ((Array.range (len * j.size)).map ((cv j.zero).cells[· % (cv j.zero).cells.size]!)) hf hrow (okL_flatten hz.2) hp.2
  have hlen : c.length = len * j.size := by
    rw [fillA_length _ _ _ _ hf]
    simp [htj.size]
  have hpl : (parts.map fun (i, x) => (i, ca.eval x)).toList = ps.map fun x => (x.1, conc ρ x.2) := by rw [Array.toList_map]; exact hp.1
  refine ⟨.slice (some ⟨w.heap.size, 0, none⟩) len len, { w with heap := w.heap.push (.cells C' e) }, ?_, .cells C' e, c.length, j.size, rfl, rfl, rfl, rfl, ?_⟩
  · simp only [Instr.buildSlice, Sem.run_bind, run_und hu, Result.andThen_ok, htj.run_size, if_neg hbig]
    by_cases h0 : len * j.size = 0
    · have hl0 : len = 0 := by
        rcases Nat.mul_eq_zero.1 h0 with h | h
        · exact h
        · exact absurd h hsz
      subst hl0
      simp only [Nat.zero_mul] at hC1
      have e1 : (Array.range 0).map (fun x => (cv j.zero).cells[x % (cv j.zero).cells.size]!) = (Array.range 0).map (fun x => (#[] : Array Value)[x % (#[] : Array Value).size]!) := by simp
      simp only [Nat.zero_mul, if_true, Sem.run_bind, Sem.run_pure, Result.andThen_ok]
      rw [← e1, hpl, hC1]
      simp [newRow_run]
    · simp only [if_neg h0, Sem.run_bind, htj.run_zero, Result.andThen_ok, Sem.run_pure]
      rw [hpl, hC1]
      simp [newRow_run]
  · intro ρ' b he hb
    have hm := okL_mono he hC3
    have hroom : (c.length - (0 + 0)) / j.size = len := by
      rw [hlen]
      simp [Nat.mul_div_cancel _ (Nat.pos_of_ne_zero hsz)]
    refine ⟨?_, ⟨_, hb, Nat.pos_of_ne_zero hsz, by simp [hlen], by simp, by simp⟩, cells_ok hm.2 (by rw [hC2, hm.1]) rfl rfl (info_size hT hj)⟩
    rw [conc_slice0 hb]
    simp only [Option.getD_none, hroom]

end Go.Tc

/- Soundness: operations that make a block, the rest. -/
namespace Go.Tc

variable {P : Program} {T : Tab} {ρ : Rho} {M : AMem} {w : World} {a : AAct} {ca : Act}

theorem map_alloc : AllocOk P ρ w (.map [] 0) (fun b => .map b) (.map (some w.heap.size)) { w with heap := w.heap.push (.map #[] 0) } :=
  ⟨.map #[] 0, 0, 0, rfl, rfl, rfl, rfl, fun ρ' b _ hb => ⟨by simp [conc, concMap, hb], ⟨_, hb⟩, by simp [BlkOk]⟩⟩

theorem alMap_sound (hT : TabOk P T) (hA : ActRel ρ a ca) {t : TypeId} {x : Operand} {k : ABlk} {f : Nat → AV} (h : alMap T a t x = some (k, f)) :
    ∃ val w1, (Instr.makeMap t (some (ca.eval x))).run P w = .ok val w1 ∧ AllocOk P ρ w k f val w1 := by
  unfold alMap at h
  split at h
  · rename_i k n _ _ _ _ _ hx ht
    cases h
    have hu := (hT.types _ _ ht).und
    simp only at hu
    have h1 := aeval_sound hA hx
    refine ⟨_, _, ?_, map_alloc⟩
    simp [Instr.makeMap, run_und hu, h1.1, conc, asInt, asIntOf]
  · cases h

theorem wrap_small {n : Nat} (h : n < 2 ^ 47) : IntKind.i64.wrap (n : Int) = (n : Int) := by
  simp only [IntKind.wrap, IntKind.signed, IntKind.bits]
  simp
  omega

theorem alMakeSlice_sound (hT : TabOk P T) (hA : ActRel ρ a ca) {t : TypeId} {l c : Operand} {k : ABlk} {f : Nat → AV} (h : alMakeSlice T a t l c = some (k, f)) :
    ∃ val w1, (Instr.makeSlice t (ca.eval l) (ca.eval c)).run P w = .ok val w1 ∧ AllocOk P ρ w k f val w1 := by
  unfold alMakeSlice at h
  split at h
  case h_2 => cases h
  rename_i e _ _ _ lv cv' ht hl hc
  have hu := (hT.types _ _ ht).und
  simp only at hu
  split at h
  case h_2 => cases h
  rename_i j n m hj hn hm
  split at h
  case isTrue => cases h
  rename_i hne
  cases h
  have h1 := aeval_sound hA hl
  have h2 := aeval_sound hA hc
  obtain ⟨k1, rfl⟩ := asNat_int hn
  obtain ⟨k2, rfl⟩ := asNat_int hm
  have htj := hT.types _ _ hj
  have hz := zero_cells ρ htj
  have hzs := zero_size htj
  have c1 : j.size ≠ 0 := fun e => hne (.inl e)
  have c2 : ¬ n > m := fun e => hne (.inr (.inl e))
  have c3 : ¬ m * j.bytes > 2 ^ 47 := fun e => hne (.inr (.inr (.inl e)))
  have c4 : ¬ m ≥ 2 ^ 47 := fun e => hne (.inr (.inr (.inr e)))
  obtain ⟨fi, hfi, _, hfb, _⟩ := htj.run_info (w := w)
  have hrow : ((Array.range (m * j.size)).map ((cv j.zero).cells[· % (cv j.zero).cells.size]!)).toList = concL ρ (List.replicate m j.zero.cells).flatten := by
    rw [zero_row _ _ _ hzs, hz.1, concL_flatten]
  have hw1 := wrap_small (n := n) (by omega)
  have hw2 := wrap_small (n := m) (by omega)
  have hbb : ¬ ((fi.bytes : Int) * (m : Int) > 2 ^ 48) := by
    rw [hfb]
    have : (j.bytes : Int) * (m : Int) ≤ 2 ^ 47 := by
      have : m * j.bytes ≤ 2 ^ 47 := by omega
      have h2 : ((m * j.bytes : Nat) : Int) ≤ ((2 ^ 47 : Nat) : Int) := by exact_mod_cast this
      rw [Int.natCast_mul, Int.mul_comm] at h2
      exact h2
    omega
  refine ⟨.slice (some ⟨w.heap.size, 0, none⟩) n m, { w with heap := w.heap.push (.cells ((Array.range (m * j.size)).map ((cv j.zero).cells[· % (cv j.zero).cells.size]!)) e) }, ?_,
    .cells ((Array.range (m * j.size)).map ((cv j.zero).cells[· % (cv j.zero).cells.size]!)) e, (List.replicate m j.zero.cells).flatten.length, j.size, rfl, rfl, rfl, rfl, ?_⟩
  · have hcond : (decide ((m : Int) < 0) || decide ((fi.bytes : Int) * (m : Int) > 2 ^ 48) || decide ((n : Int) < 0) || decide ((n : Int) > (m : Int))) = false := by
      simp only [Bool.or_eq_false_iff, decide_eq_false_iff_not]
      exact ⟨⟨⟨by omega, hbb⟩, by omega⟩, by omega⟩
    simp only [Instr.makeSlice, Sem.run_bind, run_und hu, Result.andThen_ok, h1.1, h2.1, conc, asInt, asIntOf, Sem.run_pure, hfi, hw1, hw2, hcond, Bool.false_eq_true, if_false, run_askRoom, htj.run_size,
      Int.toNat_natCast]
    by_cases h0 : m * j.size = 0
    · simp only [h0, if_true, Sem.run_bind, Sem.run_pure, Result.andThen_ok]
      simp [newRow_run, show Array.range 0 = #[] from rfl]
    · simp only [if_neg h0, Sem.run_bind, htj.run_zero, Result.andThen_ok, Sem.run_pure]
      simp [newRow_run]
  · intro ρ' b he hb
    have hok : okL ρ (List.replicate m j.zero.cells).flatten := okL_flatten hz.2
    have hm' := okL_mono he hok
    have hlen : (List.replicate m j.zero.cells).flatten.length = m * j.size := by simp [htj.size]
    have hroom : ((List.replicate m j.zero.cells).flatten.length - (0 + 0)) / j.size = m := by
      rw [hlen]; simp [Nat.mul_div_cancel _ (Nat.pos_of_ne_zero c1)]
    refine ⟨?_, ⟨_, hb, Nat.pos_of_ne_zero c1, ?_, by simp, by simp⟩, cells_ok hm'.2 (by rw [hrow, hm'.1]) rfl rfl (info_size hT hj)⟩
    · rw [conc_slice0 hb]
      simp only [Option.getD_none, hroom]
    · show 0 + 0 + (0 + n) * j.size ≤ _
      rw [hlen]
      have : n * j.size ≤ m * j.size := Nat.mul_le_mul_right _ (by omega)
      simpa using this

theorem u8_size (hT : TabOk P T) {e : TypeId} (h : isU8 T e = true) : ∃ j, T.types.get e = some j ∧ j.size = 1 := by
  unfold isU8 at h
  split at h
  · rename_i sz by_ z hi
    exact ⟨_, hi, (hT.types _ _ hi).agg rfl⟩
  · cases h

theorem cap_cut (n : Nat) (e : TypeId) (t : Nat) : n ≤ (Question.appendCap n 0 e).cut t := by simp [Question.cut]

theorem heap_freeze_new (w : World) (C : Array Value) (e : TypeId) (_h : w.heap.size = w.heap.size) :
    (({ w with heap := w.heap.push (.cells C e) } : World).freeze ⟨w.heap.size, C.size, none⟩ 1).heap = w.heap.push (.cells C e (C.size, C.size + 1)) := by
  simp only [World.freeze, Nat.one_ne_zero, if_false]
  apply Array.ext_getElem?
  intro i
  simp only [Array.getElem?_modify, Array.getElem?_push]
  by_cases hi : w.heap.size = i
  · subst hi; simp
  · have : ¬ i = w.heap.size := fun e => hi e.symm
    simp [hi, this]

theorem alBytes_sound (hT : TabOk P T) (hA : ActRel ρ a ca) {s d : TypeId} {x : Operand} {k : ABlk} {f : Nat → AV} (h : alBytes T a s d x = some (k, f)) :
    ∃ val w1, (convert s d (ca.eval x)).run P w = .ok val w1 ∧ AllocOk P ρ w k f val w1 := by
  unfold alBytes at h
  split at h
  case h_2 => cases h
  rename_i str _ _ _ e _ _ _ hx hs hd
  have hus := (hT.types _ _ hs).und
  have hud := (hT.types _ _ hd).und
  simp only at hus hud
  split at h
  case isFalse => cases h
  rename_i hu8
  cases h
  have h1 := aeval_sound hA hx
  obtain ⟨j, hj, hj1⟩ := u8_size hT hu8
  obtain ⟨cap, hcap⟩ : ∃ cap, cap = (Question.appendCap str.size 0 e).cut (w.tape w.drawn (Question.appendCap str.size 0 e)) := ⟨_, rfl⟩
  have hge : str.size ≤ cap := by rw [hcap]; exact cap_cut _ _ _
  obtain ⟨C, hC⟩ : ∃ C : Array Value, C = (str.data.map fun b => Value.int .u8 b.toNat) ++ Array.replicate (cap - str.size) (.int .u8 0) := ⟨_, rfl⟩
  have hCs : C.size = cap := by rw [hC]; simp; have : str.data.size = str.size := rfl; omega
  let w0 : World := { w with drawn := w.drawn + 1, heap := w.heap.push (.cells C e) }
  refine ⟨.slice (some ⟨w.heap.size, 0, none⟩) str.size cap, w0.freeze ⟨w.heap.size, C.size, none⟩ 1, ?_, .cells C e (C.size, C.size + 1), cap, 1, ?_, ?_, ?_, ?_, ?_⟩
  · have hforced : (Question.appendCap str.size 0 e).forced = false := rfl
    simp only [convert, Sem.run_bind, run_und hus, run_und hud, Result.andThen_ok, h1.1, conc, run_und (isU8_und hT hu8), Conv.stringToBytes, run_choose, hforced, Bool.false_eq_true, if_false, ← hcap]
    simp only [newRow, Sem.run_bind, run_newObj, Result.andThen_ok, Sem.run_pure, markStringish, run_shape]
    rw [← hC]
    have hsh : (({ heap := w.heap.push (Obj.cells C e), tape := w.tape, drawn := w.drawn + 1, os := w.os, output := w.output } : World).shape? w.heap.size) = some (e, C.size) := by
      simp [World.shape?]
    simp only [hsh, run_freeze]
    rfl
  · exact heap_freeze_new { w with drawn := w.drawn + 1 } C e rfl
  · simp [w0, World.freeze]
  · simp [w0, World.freeze]
  · simp [w0, World.freeze]
  · intro ρ' b he hb
    have hcell : ∀ i v, (str.data.toList.map fun c => AV.int .u8 (c.toNat : Int))[i]? = some v → C[0 + i]? = some (conc ρ' v) ∧ okv ρ' v := by
      intro i v hv
      rw [List.getElem?_map] at hv
      cases hi : str.data.toList[i]? with
      | none => simp [hi] at hv
      | some c =>
        simp [hi] at hv
        subst hv
        refine ⟨?_, trivial⟩
        have hlt : i < str.data.size := by
          have := (List.getElem?_eq_some_iff.1 hi).1
          simpa using this
        rw [Nat.zero_add, hC, Array.getElem?_append_left (by simpa using hlt), Array.getElem?_map]
        have : str.data[i]? = some c := by rw [← Array.getElem?_toList]; exact hi
        rw [this]
        simp [conc]
    refine ⟨?_, ⟨_, hb, by simp, ?_, by simp, by simp⟩, rfl, hCs, ?_, hcell, ?_, ⟨by simp, fun _ _ => .inr (Nat.le_of_eq hCs.symm)⟩, by simp, ?_⟩
    · rw [conc_slice0 hb]
      simp
    · show 0 + 0 + (0 + str.size) * 1 ≤ cap
      omega
    · have : str.data.toList.length = str.size := by simp
      simp [this]; exact hge
    · intro i _ hi
      simp only [hCs] at hi ⊢
      omega
    · obtain ⟨f, hf, hs⟩ := info_size hT hj
      exact ⟨f, hf, by rw [hs, hj1]⟩

theorem alRange_sound (hT : TabOk P T) (hA : ActRel ρ a ca) {t : TypeId} {x : Operand} {k : ABlk} {f : Nat → AV} (h : alRange T a t x = some (k, f)) :
    ∃ val w1, (Instr.range t (ca.eval x)).run P w = .ok val w1 ∧ AllocOk P ρ w k f val w1 := by
  unfold alRange at h
  split at h
  · rename_i s _ _ _ hx ht
    cases h
    have hu := (hT.types _ _ ht).und
    simp only at hu
    have h1 := aeval_sound hA hx
    refine ⟨.pointer (some ⟨w.heap.size, 0, none⟩), { w with heap := w.heap.push (.stringIter s 0) }, ?_, .stringIter s 0, 0, 0, rfl, rfl, rfl, rfl, ?_⟩
    · simp [Instr.range, run_und hu, h1.1, conc]
    · intro ρ' b he hb
      exact ⟨by simp [conc, concPtr, hb], ⟨_, hb⟩, by simp [BlkOk]⟩
  · cases h

theorem aalloc_sound (hT : TabOk P T) (hA : ActRel ρ a ca) {o : Oper} {k : ABlk} {f : Nat → AV} (h : aalloc T a o.op = some (k, f)) :
    ∃ val w1, (execOp ca.eval o).run P w = .ok (.value val) w1 ∧ AllocOk P ρ w k f val w1 := by
  unfold aalloc at h
  unfold execOp
  split at h <;> rename_i ho <;> (try rw [ho]) <;> try (simp only)
  · obtain ⟨val, w1, h1, h2⟩ := alAlloc_sound (ρ := ρ) (w := w) hT h; exact ⟨val, w1, run_v h1, h2⟩
  · obtain ⟨val, w1, h1, h2⟩ := alBox_sound (w := w) hT hA h; exact ⟨val, w1, run_v h1, h2⟩
  · obtain ⟨val, w1, h1, h2⟩ := alSlice_sound (w := w) hT hA h; exact ⟨val, w1, run_v h1, h2⟩
  · cases h
    exact ⟨_, _, run_v (by simp [Instr.makeMap]), map_alloc⟩
  · obtain ⟨val, w1, h1, h2⟩ := alMap_sound (w := w) hT hA h; exact ⟨val, w1, run_v (by simpa using h1), h2⟩
  · obtain ⟨val, w1, h1, h2⟩ := alMakeSlice_sound (w := w) hT hA h; exact ⟨val, w1, run_v h1, h2⟩
  · obtain ⟨val, w1, h1, h2⟩ := alBytes_sound (w := w) hT hA h; exact ⟨val, w1, run_v h1, h2⟩
  · obtain ⟨val, w1, h1, h2⟩ := alRange_sound (w := w) hT hA h; exact ⟨val, w1, run_v h1, h2⟩
  · cases h

end Go.Tc
