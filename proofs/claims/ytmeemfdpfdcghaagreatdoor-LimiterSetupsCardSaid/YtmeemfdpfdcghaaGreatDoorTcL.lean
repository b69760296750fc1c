/- Soundness: operations that write, builtins, library rows, methods. -/
import Derived.Test.YtmeemfdpfdcghaaGreatDoorTcK
import Derived.Lib.UnsafeStr
import Derived.Calls

/- Soundness: writes. -/
namespace Go.Tc

variable {P : Program} {T : Tab} {ρ : Rho} {M : AMem} {w : World} {a : AAct} {ca : Act}

theorem splice_get {α : Type} (l vs : List α) (n i : Nat) (h : n + vs.length ≤ l.length) :
    (l.take n ++ vs ++ l.drop (n + vs.length))[i]? = if i < n then l[i]? else if i < n + vs.length then vs[i - n]? else l[i]? := by
  have hl : (l.take n).length = n := by rw [List.length_take]; omega
  by_cases h1 : i < n
  · rw [if_pos h1, List.append_assoc, List.getElem?_append_left (by omega), List.getElem?_take, if_pos h1]
  · rw [if_neg h1]
    by_cases h2 : i < n + vs.length
    · rw [if_pos h2, List.append_assoc, List.getElem?_append_right (by omega), List.getElem?_append_left (by omega), hl]
    · rw [if_neg h2, List.getElem?_append_right (by rw [List.length_append]; omega), List.length_append, hl, List.getElem?_drop]
      congr 1
      omega

theorem setIfInBounds_same {α : Type} (A : Array α) (i : Nat) (x : α) (h : A[i]? = some x) : A.setIfInBounds i x = A := by
  apply Array.ext_getElem?
  intro j
  rw [Array.getElem?_setIfInBounds]
  by_cases e : i = j
  · subst e
    rw [h]
    have : i < A.size := by
      rcases Nat.lt_or_ge i A.size with h' | h'
      · exact h'
      · rw [Array.getElem?_eq_none h'] at h; cases h
    simp [this]
  · simp [e]

theorem modify_eq {α : Type} (A : Array α) (i : Nat) (f : α → α) (x : α) (h : A[i]? = some x) : A.modify i f = A.setIfInBounds i (f x) := by
  apply Array.ext_getElem?
  intro j
  rw [Array.getElem?_modify, Array.getElem?_setIfInBounds]
  by_cases e : i = j
  · subst e
    have hlt : i < A.size := by
      rcases Nat.lt_or_ge i A.size with h' | h'
      · exact h'
      · rw [Array.getElem?_eq_none h'] at h; cases h
    have hx : A[i] = x := by rw [Array.getElem?_eq_getElem hlt] at h; injection h
    simp [hlt, hx]
  · simp [e]

theorem storeCells_run (B o : Nat) (e : TypeId) (fr : Nat × Nat) : ∀ (vs : List Value) (i : Nat) (C : Array Value) (w : World), w.heap[B]? = some (.cells C e fr) →
    o + i + vs.length ≤ C.size → (∀ v ∈ vs, v.oneCell' = true) → (∀ j, o + i ≤ j → j < o + i + vs.length → ¬ (fr.1 ≤ j ∧ j < fr.2)) →
    ∃ C', (storeCells ⟨B, o, none⟩ vs i).run P w = .ok () { w with heap := w.heap.setIfInBounds B (.cells C' e fr) } ∧
      C'.toList = C.toList.take (o + i) ++ vs ++ C.toList.drop (o + i + vs.length) := by
  intro vs
  induction vs with
  | nil =>
    intro i C w hw _ _ _
    refine ⟨C, ?_, by simp⟩
    simp only [storeCells, Sem.run_pure]
    rw [setIfInBounds_same _ _ _ hw]
  | cons v r ih =>
    intro i C w hw hle hone hfr
    simp only [List.length_cons] at hle hfr
    have hlt : o + i < C.size := by omega
    have hcell : w.cell? ⟨B, o + i, none⟩ = some C[o + i] := by simp [World.cell?, hw, hlt]
    have hnf : w.frozen? ⟨B, o + i, none⟩ = false := by
      have := hfr (o + i) (Nat.le_refl _) (by omega)
      simp only [World.frozen?, hw]
      rw [Bool.eq_false_iff]
      intro hc
      simp only [Bool.and_eq_true, decide_eq_true_eq] at hc
      exact this hc
    have hset : w.setCell ⟨B, o + i, none⟩ v = { w with heap := w.heap.setIfInBounds B (.cells (C.setIfInBounds (o + i) v) e fr) } := by
      simp only [World.setCell]
      rw [modify_eq _ _ _ _ hw]
      simp
    have hlt2 : B < w.heap.size := by
      rcases Nat.lt_or_ge B w.heap.size with h | h
      · exact h
      · rw [Array.getElem?_eq_none h] at hw; cases hw
    obtain ⟨C', h1, h2⟩ := ih (i + 1) (C.setIfInBounds (o + i) v) { w with heap := w.heap.setIfInBounds B (.cells (C.setIfInBounds (o + i) v) e fr) } (by simp [hlt2])
      (by simp; omega) (fun u hu => hone u (List.mem_cons_of_mem _ hu)) (fun j hj1 hj2 => hfr j (by omega) (by omega))
    refine ⟨C', ?_, ?_⟩
    · simp only [storeCells, Addr.add_mk, Sem.run_bind, run_store P w _ v _ (hone v (by simp)), hcell, hnf, Bool.false_eq_true, if_false, Result.andThen_ok, hset, h1]
      simp
    · rw [h2]
      simp only [Array.toList_setIfInBounds, List.length_cons]
      have hl : o + i < C.toList.length := by simpa using hlt
      have hl2 : (C.toList.take (o + i)).length = o + i := by rw [List.length_take]; omega
      rw [List.take_set, List.drop_set_of_lt (by omega), show o + (i + 1) = (o + i) + 1 from by omega, List.take_succ_eq_append_getElem hl,
        List.set_append_right _ _ (by omega), hl2, Nat.sub_self, List.set_cons_zero]
      simp only [List.append_assoc, List.cons_append, List.nil_append]
      rw [show o + i + 1 + r.length = o + i + (r.length + 1) from by omega]

/-- A block in its place turned into another. -/
theorem Sim.put (hS : Sim P ρ M w) {b : Nat} {k0 k1 : ABlk} (hM : M.get b = some k0) {p : Pl} (hp : ρ b = some p) {o : Obj} {w1 : World} (hheap : w1.heap = w.heap.setIfInBounds p.B o)
    (hk : BlkOk P ρ p k1 o) : Sim P ρ (M.set b k1) w1 := by
  have hlt := (hS.dom b p hp).2
  have hget : ∀ x k, (M.set b k1).get x = some k → ∃ k', M.get x = some k' := by
    intro x k hx
    rw [AMem.get_set] at hx
    split at hx
    · rename_i e; exact ⟨k0, e ▸ hM⟩
    · exact ⟨k, hx⟩
  refine ⟨?_, ?_, ?_, ?_⟩
  · intro x k q hx hq
    rw [AMem.get_set] at hx
    split at hx
    · rename_i e
      subst e
      cases hx
      rw [hp] at hq
      cases hq
      exact ⟨o, by rw [hheap]; simp [hlt], hk⟩
    · rename_i e
      obtain ⟨o', ho', hok⟩ := hS.blk x k q hx hq
      refine ⟨o', ?_, hok⟩
      rw [hheap, Array.getElem?_setIfInBounds, if_neg ?_]
      · exact ho'
      · intro hB
        exact e (hS.inj x b _ _ _ _ hx hM hq hp hB.symm)
  · intro x y k k' q q' hx hy hq hq' e
    obtain ⟨_, hx'⟩ := hget x k hx
    obtain ⟨_, hy'⟩ := hget y k' hy
    exact hS.inj x y _ _ q q' hx' hy' hq hq' e
  · intro x q hq
    rw [hheap]
    simp only [Array.size_setIfInBounds]
    exact hS.dom x q hq
  · intro x k hx
    obtain ⟨_, hx'⟩ := hget x k hx
    exact hS.low x _ hx'

theorem Adv.put {M' : AMem} (hn : M.next ≤ M'.next) {b : Nat} {p : Pl} (hp : ρ b = some p) {o : Obj} {w1 : World} (hheap : w1.heap = w.heap.setIfInBounds p.B o) (h1 : w1.os = w.os) (h2 : w1.tape = w.tape)
    (h3 : w1.output = w.output) : Adv M ρ w M' ρ w1 := by
  refine Adv.still hn h1 h2 h3 (by rw [hheap]; simp) ?_
  intro B _ hno
  rw [hheap, Array.getElem?_setIfInBounds, if_neg (hno b p hp)]

theorem cells_spliced {c : List AV} {e : TypeId} {fz : Nat} {q ex : Bool} {p : Pl} {C C' : Array Value} {fr : Nat × Nat} (hb : BlkOk P ρ p (.cells c e fz q ex) (.cells C e fr)) {vs : List AV} (hvs : okL ρ vs) {o : Nat}
    (hle : o + vs.length ≤ c.length) (hC' : C'.toList = C.toList.take (p.sh + o) ++ concL ρ vs ++ C.toList.drop (p.sh + o + vs.length)) :
    BlkOk P ρ p (.cells (setRange c o vs) e fz q ex) (.cells C' e fr) := by
  obtain ⟨_, h2, h3, h4, h5, h6, h7, h8⟩ := hb
  have hlen : C'.size = C.size := by
    have := congrArg List.length hC'
    simp only [Array.length_toList, List.length_append, List.length_take, List.length_drop, concL_eq, List.length_map] at this
    omega
  refine ⟨rfl, by omega, by rw [setRange_length hle]; exact h3, ?_, h5, h6, ?_, h8⟩
  · intro i v hv
    unfold setRange at hv
    rw [splice_get c vs o i hle] at hv
    have hg : C'[p.sh + i]? = if p.sh + i < p.sh + o then C[p.sh + i]? else if p.sh + i < p.sh + o + vs.length then (concL ρ vs)[p.sh + i - (p.sh + o)]? else C[p.sh + i]? := by
      rw [← Array.getElem?_toList, hC']
      have := splice_get C.toList (concL ρ vs) (p.sh + o) (p.sh + i) (by simp [concL_eq]; omega)
      simp only [concL_eq, List.length_map] at this ⊢
      rw [this]
      simp
    rw [hg]
    by_cases c1 : i < o
    · rw [if_pos c1] at hv
      rw [if_pos (by omega)]
      exact h4 i v hv
    · rw [if_neg c1] at hv
      rw [if_neg (by omega)]
      by_cases c2 : i < o + vs.length
      · rw [if_pos c2] at hv
        rw [if_pos (by omega)]
        have e1 : p.sh + i - (p.sh + o) = i - o := by omega
        rw [e1, concL_eq, List.getElem?_map, hv]
        exact ⟨rfl, (okL_iff _ _).1 hvs v (List.mem_of_getElem? hv)⟩
      · rw [if_neg c2] at hv
        rw [if_neg (by omega)]
        exact h4 i v hv
  · intro hx
    have := h7 hx
    rw [setRange_length hle]
    exact this

theorem blk_cells' (hS : Sim P ρ M w) {b : Nat} {c : List AV} {e : TypeId} {fz : Nat} {q ex : Bool} (hM : M.get b = some (.cells c e fz q ex)) {p : Pl} (hp : ρ b = some p) :
    ∃ C fr, w.heap[p.B]? = some (.cells C e fr) ∧ BlkOk P ρ p (.cells c e fz q ex) (.cells C e fr) := by
  obtain ⟨o, ho, hb⟩ := hS.blk b _ p hM hp
  cases o <;> try (simp only [BlkOk] at hb)
  rename_i C e' fr
  have he : e' = e := hb.1
  subst he
  exact ⟨_, _, ho, hb⟩

/-- Cells of a block written in place. -/
theorem write_sound (hS : Sim P ρ M w) {b : Nat} {c : List AV} {e : TypeId} {fz : Nat} {q ex : Bool} (hM : M.get b = some (.cells c e fz q ex)) {p : Pl} (hp : ρ b = some p) {vs : List AV} (hvs : okL ρ vs)
    (hcell : vs.all AV.cell = true) {o : Nat} (hle : o + vs.length ≤ c.length) (hfz : fz ≤ o) :
    ∃ w1, (storeCells ⟨p.B, p.sh + o, none⟩ (concL ρ vs)).run P w = .ok () w1 ∧ Sim P ρ (M.set b (.cells (setRange c o vs) e fz q ex)) w1 ∧ Adv M ρ w (M.set b (.cells (setRange c o vs) e fz q ex)) ρ w1 := by
  obtain ⟨C, fr, hC, hb⟩ := blk_cells' hS hM hp
  obtain ⟨_, h2, h3, h4, h5, _⟩ := id hb
  obtain ⟨C', r1, r2⟩ := storeCells_run (P := P) p.B (p.sh + o) e fr (concL ρ vs) 0 C w hC (by simp [concL_eq]; omega) (by
      intro v hv
      rw [concL_eq, List.mem_map] at hv
      obtain ⟨u, hu, rfl⟩ := hv
      exact cell_one (List.all_eq_true.1 hcell u hu) ((okL_iff _ _).1 hvs u hu)) (by
      intro j hj1 hj2
      simp only [concL_eq, List.length_map] at hj2
      exact h5 j (by omega) (by omega))
  simp only [Nat.add_zero, concL_eq, List.length_map] at r2
  refine ⟨_, r1, Sim.put hS hM hp rfl (cells_spliced hb hvs hle (by rw [r2, concL_eq])), Adv.put (by exact Nat.le_refl _) hp rfl rfl rfl rfl⟩

theorem astore_sound (hT : TabOk P T) (hS : Sim P ρ M w) {t : TypeId} {b o : Nat} {v : AV} (hv : okv ρ v) {M' : AMem} (h : astore T M t b o v = some M') {p : Pl} (hp : ρ b = some p) :
    ∃ w1, (storeVar t ⟨p.B, p.sh + o, none⟩ (conc ρ v)).run P w = .ok () w1 ∧ Sim P ρ M' w1 ∧ Adv M ρ w M' ρ w1 := by
  unfold astore at h
  split at h
  case h_2 => cases h
  rename_i i c e fz q ex hi hM
  split at h
  case isFalse => cases h
  rename_i hc
  obtain ⟨c1, c2, c3, c4⟩ := hc
  cases h
  have hti := hT.types t i hi
  obtain ⟨w1, r1, r2, r3⟩ := write_sound (P := P) hS hM hp ((okL_iff _ _).2 (okv_cells hv)) c4 (by omega) c3
  refine ⟨w1, ?_, r2, r3⟩
  have hsz : (conc ρ v).cells.size = i.size := by
    have := congrArg List.length (conc_cells ρ v)
    simpa [c1] using this
  simp only [storeVar, Sem.run_bind, hti.run_size, Result.andThen_ok, hsz, ne_eq, not_true_eq_false, if_false, conc_cells]
  rw [← concL_eq]
  simpa using r1

end Go.Tc

/- Soundness: append and copy. -/
namespace Go.Tc

variable {P : Program} {T : Tab} {ρ : Rho} {M : AMem} {w : World} {a : AAct} {ca : Act}

theorem growBy_le (newLen : Nat) : ∀ (r c : Nat), Builtin.growBy newLen r c ≤ max c (newLen + (newLen + 768) / 4) := by
  intro r
  induction r with
  | zero => intro c; simp only [Builtin.growBy]; omega
  | succ r ih =>
    intro c
    simp only [Builtin.growBy]
    split
    · omega
    · rename_i hc
      have := ih (c + (c + 768) / 4)
      omega

theorem nextcap_le {need cap : Nat} (h : cap < need) : Builtin.nextslicecap need cap ≤ 2 * need + 200 := by
  unfold Builtin.nextslicecap
  split
  · omega
  · split
    · omega
    · have := growBy_le need 4 cap
      omega

theorem sliceCells_sound (hS : Sim P ρ M w) {size : Nat} {x : AV} (hx : okv ρ x) {n : Nat} (hn : alen M x = some n) {l : List AV} (h : sliceCells M size x = some l) :
    (Builtin.lenOf (conc ρ x)).run P w = .ok n w ∧ (Builtin.firstCells size n (conc ρ x)).run P w = .ok (concL ρ l).toArray w ∧ okL ρ l := by
  unfold sliceCells at h
  split at h
  · rename_i s
    cases h
    simp [alen] at hn
    subst hn
    refine ⟨by simp [conc, Builtin.lenOf], ?_, (okL_iff _ _).2 fun v hv => ?_⟩
    · simp only [conc, Builtin.firstCells, Sem.run_pure]
      congr 1
      apply Array.toList_inj.1
      have : s.extract 0 s.size = s := by
        apply ByteArray.ext
        simp
      rw [this]
      simp [concL_eq, conc]
    · simp only [List.mem_map] at hv
      obtain ⟨c, _, rfl⟩ := hv
      trivial
  · cases h
    simp [alen] at hn
    subst hn
    exact ⟨by simp [conc, Builtin.lenOf], by simp [conc, Builtin.firstCells, concL], trivial⟩
  · rename_i b o adv len cap
    simp [alen] at hn
    subst hn
    have hlen : (Builtin.lenOf (conc ρ (.slice b o adv len cap))).run P w = .ok len w := by
      have : ∃ A k, conc ρ (.slice b o adv len cap) = .slice A len k := by
        obtain ⟨p, hp, _⟩ := hx
        simp only [conc, concSlice, hp]
        split
        · exact ⟨_, _, rfl⟩
        · split <;> exact ⟨_, _, rfl⟩
      obtain ⟨A, k, hc⟩ := this
      rw [hc]; rfl
    refine ⟨hlen, ?_⟩
    split at h
    · rename_i h0
      subst h0
      cases h
      obtain ⟨x, l, c, hc⟩ := conc_slice_some hx
      rw [hc]
      exact ⟨by simp [Builtin.firstCells, loadCells, loadCellsFrom, concL], trivial⟩
    · split at h
      · cases h
      · rename_i ha
        have ha0 : adv = 0 := Decidable.not_not.1 ha
        subst ha0
        split at h
        · rename_i c e fz q ex hM
          obtain ⟨p, hp, _⟩ := hx
          have hr := run_takeCells (P := P) hS hM hp h
          rw [conc_slice0 hp]
          exact ⟨by simpa [Builtin.firstCells] using hr.1, hr.2⟩
        · cases h
  · cases h

theorem Sim.kill (hS : Sim P ρ M w) (b : Nat) : Sim P ρ (M.kill b) w := by
  have hget : ∀ x k, (M.kill b).get x = some k → M.get x = some k := by
    intro x k hx
    rw [AMem.get_kill] at hx
    split at hx
    · cases hx
    · exact hx
  exact ⟨fun x k p hx hp => hS.blk x k p (hget _ _ hx) hp, fun x y k k' p p' hx hy hp hp' e => hS.inj x y k k' p p' (hget _ _ hx) (hget _ _ hy) hp hp' e, hS.dom, fun x k hx => hS.low x k (hget _ _ hx)⟩

/-- The new cells of an append, and how many elements they are. -/
theorem anew_sound (hT : TabOk P T) (hS : Sim P ρ M w) {e : TypeId} {j : TInfo} (hj : T.types.get e = some j) {zeros : Bool} {x : AV} (hx : okv ρ x) {n : Nat} {l : List AV}
    (h : anew M j zeros x = some (n, l)) :
    (zeros = false → (Builtin.lenOf (conc ρ x)).run P w = .ok n w) ∧ (zeros = true → ∃ k, conc ρ x = .int k n ∧ n < 2 ^ 40) ∧
    ((zeros = false → (Builtin.firstCells j.size n (conc ρ x)).run P w = .ok (concL ρ l).toArray w) ∧ (zeros = true → (n * j.size = 0 → (concL ρ l).toArray = #[]) ∧ (n * j.size ≠ 0 → (concL ρ l).toArray = Builtin.zeroCells (cv j.zero).cells n))) ∧ okL ρ l := by
  unfold anew at h
  cases zeros with
  | false =>
    simp only [Bool.false_eq_true, if_false] at h
    split at h
    · rename_i n' l' hn hl
      simp only [Option.some.injEq, Prod.mk.injEq] at h
      obtain ⟨rfl, rfl⟩ := h
      have := sliceCells_sound (P := P) hS hx hn hl
      exact ⟨fun _ => this.1, by simp, ⟨fun _ => this.2.1, by simp⟩, this.2.2⟩
    · cases h
  | true =>
    simp only [if_true] at h
    split at h
    · rename_i m hm
      split at h
      · rename_i hlt
        simp only [Option.some.injEq, Prod.mk.injEq] at h
        obtain ⟨rfl, rfl⟩ := h
        obtain ⟨k, rfl⟩ := asNat_int hm
        have htj := hT.types _ _ hj
        have hz := zero_cells ρ htj
        refine ⟨by simp, fun _ => ⟨k, by simp [conc], hlt⟩, ⟨by simp, fun _ => ⟨fun h0 => ?_, fun h0 => ?_⟩⟩, okL_flatten hz.2⟩
        · have : (List.replicate m j.zero.cells).flatten = [] := by
            apply List.eq_nil_of_length_eq_zero
            simp [htj.size, h0]
          rw [this]
          rfl
        · apply Array.toList_inj.1
          have hzs := zero_size htj
          have := zero_row (cv j.zero).cells m j.size hzs
          rw [hz.1] at this
          rw [concL_flatten, ← this, Builtin.zeroCells, hzs]
      · cases h
    · cases h

end Go.Tc

/- Soundness: append. -/
namespace Go.Tc

variable {P : Program} {T : Tab} {ρ : Rho} {M : AMem} {w : World} {a : AAct} {ca : Act}

/-- The new cells of an append: of what is appended, or noughts. -/
noncomputable def NewIs (P : Program) (e : TypeId) (j : TInfo) (zeros : Bool) (n : Nat) (x : Value) (new : Array Value) (w : World) : Prop :=
  (zeros = false → ∀ w' : World, w'.heap = w.heap → (Builtin.firstCells j.size n x).run P w' = .ok new w') ∧
  (zeros = true → (n * j.size = 0 → new = #[]) ∧ (n * j.size ≠ 0 → new = Builtin.zeroCells (cv j.zero).cells n) ∧ ∀ w' : World, (zeroValue e).run P w' = .ok (cv j.zero) w')

theorem append_in_place (hT : TabOk P T) {ts : Array TypeId} {t xt e : TypeId} (ht : ts[0]? = some t) (hxt : ts[1]? = some xt) (hu : P.underlying t = some (.slice e)) {j xi : TInfo} (hj : T.types.get e = some j)
    (hxi : T.types.get xt = some xi) {base : Option Addr} {sLen sCap n : Nat} {x : Value} (ty : TypeId)
    (h1 : isIntDesc xi.desc = false → (Builtin.lenOf x).run P w = .ok n w) (h2 : isIntDesc xi.desc = true → ∃ k, x = .int k n ∧ n < 2 ^ 40) (hb : n * j.bytes ≤ 2 ^ 40) {new : Array Value}
    (hnew : NewIs P e j (isIntDesc xi.desc) n x new w) {A : Addr} (hbase : base = some A) (hle : sLen + n ≤ sCap) {w1 : World} (hst : (storeCells (A.add (sLen * j.size)) new.toList).run P w = .ok () w1) :
    (Builtin.append_ ts ty #[.slice base sLen sCap, x]).run P w = .ok (.slice (some A) (sLen + n) sCap) w1 := by
  subst hbase
  have hd := (hT.types _ _ hxi).und
  obtain ⟨fi, hfi0, _, hfb, _⟩ := (hT.types _ _ hj).info
  have hfi : ∀ w' : World, (typeInfo e).run P w' = .ok fi w' := fun w' => by simp [typeInfo, hfi0]
  unfold Builtin.append_
  simp only [ht, hxt, List.getElem?_toArray, List.getElem?_cons_zero, List.getElem?_cons_succ, Sem.run_bind, run_und hu, Result.andThen_ok, (hT.types _ _ hj).run_size, run_und hd, Sem.run_pure]
  cases hdd : xi.desc <;> rw [hdd] at h1 h2 hnew <;> first
    | (simp only [Bool.false_eq_true, if_false, Sem.run_bind, h1 rfl, Result.andThen_ok]
       simp only [if_pos hle, Sem.run_bind, Bool.not_false, if_true, hnew.1 rfl w rfl, Result.andThen_ok, hst, Sem.run_pure])
    | (obtain ⟨k, rfl, hlt⟩ := h2 rfl
       have hw := wrap_small (n := n) (by omega)
       have hbb : ¬ ((n : Int) * (fi.bytes : Int) > 2 ^ 48) := by
         rw [hfb]
         have h2 : ((n * j.bytes : Nat) : Int) ≤ ((2 ^ 40 : Nat) : Int) := by exact_mod_cast hb
         rw [Int.natCast_mul] at h2
         omega
       have hneg : ¬ ((n : Int) < 0) := by omega
       simp only [if_true, asInt, asIntOf, Sem.run_bind, Sem.run_pure, Result.andThen_ok, hw, if_neg hneg, hfi, if_neg hbb, Int.toNat_natCast]
       obtain ⟨g1, g2, g3⟩ := hnew.2 rfl
       by_cases h0 : n * j.size = 0
       · rw [g1 h0] at hst
         simp only [if_pos hle, Sem.run_bind, Bool.not_true, Bool.false_eq_true, if_false, if_pos h0, Sem.run_pure, Result.andThen_ok, hst]
       · rw [g2 h0] at hst
         simp only [if_pos hle, Sem.run_bind, Bool.not_true, Bool.false_eq_true, if_false, if_neg h0, g3 w, Sem.run_pure, Result.andThen_ok, hst])

theorem append_in_place_nil (hT : TabOk P T) {ts : Array TypeId} {t xt e : TypeId} (ht : ts[0]? = some t) (hxt : ts[1]? = some xt) (hu : P.underlying t = some (.slice e)) {j xi : TInfo} (hj : T.types.get e = some j)
    (hxi : T.types.get xt = some xi) {base : Option Addr} {sLen sCap n : Nat} {x : Value} (ty : TypeId)
    (h1 : isIntDesc xi.desc = false → (Builtin.lenOf x).run P w = .ok n w) (h2 : isIntDesc xi.desc = true → ∃ k, x = .int k n ∧ n < 2 ^ 40) (hb : n * j.bytes ≤ 2 ^ 40) {new : Array Value}
    (hnew : NewIs P e j (isIntDesc xi.desc) n x new w) (hbase : base = none) (hle : sLen + n ≤ sCap) :
    (Builtin.append_ ts ty #[.slice base sLen sCap, x]).run P w = .ok (.slice none (sLen + n) sCap) w := by
  subst hbase
  have hd := (hT.types _ _ hxi).und
  obtain ⟨fi, hfi0, _, hfb, _⟩ := (hT.types _ _ hj).info
  have hfi : ∀ w' : World, (typeInfo e).run P w' = .ok fi w' := fun w' => by simp [typeInfo, hfi0]
  unfold Builtin.append_
  simp only [ht, hxt, List.getElem?_toArray, List.getElem?_cons_zero, List.getElem?_cons_succ, Sem.run_bind, run_und hu, Result.andThen_ok, (hT.types _ _ hj).run_size, run_und hd, Sem.run_pure]
  cases hdd : xi.desc <;> rw [hdd] at h1 h2 hnew <;> first
    | (simp only [Bool.false_eq_true, if_false, Sem.run_bind, h1 rfl, Result.andThen_ok]
       simp only [if_pos hle, Sem.run_bind, Bool.not_false, if_true, hnew.1 rfl w rfl, Result.andThen_ok, Sem.run_pure])
    | (obtain ⟨k, rfl, hlt⟩ := h2 rfl
       have hw := wrap_small (n := n) (by omega)
       have hbb : ¬ ((n : Int) * (fi.bytes : Int) > 2 ^ 48) := by
         rw [hfb]
         have h2 : ((n * j.bytes : Nat) : Int) ≤ ((2 ^ 40 : Nat) : Int) := by exact_mod_cast hb
         rw [Int.natCast_mul] at h2
         omega
       have hneg : ¬ ((n : Int) < 0) := by omega
       simp only [if_true, asInt, asIntOf, Sem.run_bind, Sem.run_pure, Result.andThen_ok, hw, if_neg hneg, hfi, if_neg hbb, Int.toNat_natCast]
       obtain ⟨g1, g2, g3⟩ := hnew.2 rfl
       by_cases h0 : n * j.size = 0
       · simp only [if_pos hle, Sem.run_bind, Bool.not_true, Bool.false_eq_true, if_false, if_pos h0, Sem.run_pure, Result.andThen_ok]
       · simp only [if_pos hle, Sem.run_bind, Bool.not_true, Bool.false_eq_true, if_false, if_neg h0, g3 w, Sem.run_pure, Result.andThen_ok])

theorem append_grows (hT : TabOk P T) {ts : Array TypeId} {t xt e : TypeId} (ht : ts[0]? = some t) (hxt : ts[1]? = some xt) (hu : P.underlying t = some (.slice e)) {j xi : TInfo} (hj : T.types.get e = some j)
    (hxi : T.types.get xt = some xi) {base : Option Addr} {sLen sCap n : Nat} {x : Value} (ty : TypeId)
    (h1 : isIntDesc xi.desc = false → (Builtin.lenOf x).run P w = .ok n w) (h2 : isIntDesc xi.desc = true → ∃ k, x = .int k n ∧ n < 2 ^ 40) (hb : n * j.bytes ≤ 2 ^ 40) {new : Array Value}
    (hnew : NewIs P e j (isIntDesc xi.desc) n x new w) {old : Array Value} (hold : ∀ w' : World, w'.heap = w.heap → (Builtin.firstCells j.size sLen (.slice base sLen sCap)).run P w' = .ok old w') (hgt : ¬ sLen + n ≤ sCap)
    (hbytes : (sLen + n) * j.bytes ≤ 2 ^ 40) (hlen : sLen + n < 2 ^ 60) :
    ∃ K, sLen + n ≤ K ∧ (Builtin.append_ ts ty #[.slice base sLen sCap, x]).run P w =
      .ok (.slice (some ⟨w.heap.size, 0, none⟩) (sLen + n) K) { w with drawn := w.drawn + 1, heap := w.heap.push (.cells (old ++ new ++ Builtin.zeroCells (cv j.zero).cells (K - (sLen + n))) e) } := by
  refine ⟨(Question.appendCap (sLen + n) sCap e).cut (w.tape w.drawn (Question.appendCap (sLen + n) sCap e)), by simp [Question.cut], ?_⟩
  have hd := (hT.types _ _ hxi).und
  obtain ⟨fi, hfi0, _, hfb, _⟩ := (hT.types _ _ hj).info
  have hfi : ∀ w' : World, (typeInfo e).run P w' = .ok fi w' := fun w' => by simp [typeInfo, hfi0]
  have htj := hT.types _ _ hj
  have hmax : IntKind.i64.max = 9223372036854775807 := rfl
  have c0 : ¬ (((sLen + n : Nat) : Int) > IntKind.i64.max) := by
    rw [hmax]
    omega
  have c2 : ¬ (Builtin.nextslicecap (sLen + n) sCap * fi.bytes > 2 ^ 48) := by
    rw [hfb]
    have h1 := nextcap_le (need := sLen + n) (cap := sCap) (by omega)
    have h2 : Builtin.nextslicecap (sLen + n) sCap * j.bytes ≤ (2 * (sLen + n) + 200) * j.bytes := Nat.mul_le_mul_right _ h1
    have h3 : (2 * (sLen + n) + 200) * j.bytes = 2 * ((sLen + n) * j.bytes) + 200 * j.bytes := by rw [Nat.add_mul, Nat.mul_assoc]
    have h4 : j.bytes ≤ (sLen + n) * j.bytes := by
      have : 1 ≤ sLen + n := by omega
      calc j.bytes = 1 * j.bytes := (Nat.one_mul _).symm
        _ ≤ (sLen + n) * j.bytes := Nat.mul_le_mul_right _ this
    omega
  have hforced : (Question.appendCap (sLen + n) sCap e).forced = false := rfl
  unfold Builtin.append_
  simp only [ht, hxt, List.getElem?_toArray, List.getElem?_cons_zero, List.getElem?_cons_succ, Sem.run_bind, run_und hu, Result.andThen_ok, (hT.types _ _ hj).run_size, run_und hd, Sem.run_pure]
  cases hdd : xi.desc <;> rw [hdd] at h1 h2 hnew <;> first
    | (simp only [Bool.false_eq_true, if_false, Sem.run_bind, h1 rfl, Result.andThen_ok]
       simp only [if_neg hgt, Sem.run_bind, hfi, Result.andThen_ok, c0, false_and, if_false, if_neg c2, run_choose, hforced, Bool.false_eq_true, if_false, run_askRoom]
       rw [hold { w with drawn := w.drawn + 1 } rfl]
       simp only [Result.andThen_ok, Bool.not_false, if_true]
       rw [hnew.1 rfl { w with drawn := w.drawn + 1 } rfl]
       simp only [Result.andThen_ok, htj.run_zero, newRow_run]
       rfl)
    | (obtain ⟨k, rfl, hlt⟩ := h2 rfl
       have hw := wrap_small (n := n) (by omega)
       have hbb : ¬ ((n : Int) * (fi.bytes : Int) > 2 ^ 48) := by
         rw [hfb]
         have h2 : ((n * j.bytes : Nat) : Int) ≤ ((2 ^ 40 : Nat) : Int) := by exact_mod_cast hb
         rw [Int.natCast_mul] at h2
         omega
       have hneg : ¬ ((n : Int) < 0) := by omega
       simp only [if_true, asInt, asIntOf, Sem.run_bind, Sem.run_pure, Result.andThen_ok, hw, if_neg hneg, hfi, if_neg hbb, Int.toNat_natCast]
       obtain ⟨g1, g2, g3⟩ := hnew.2 rfl
       simp only [if_neg hgt, Sem.run_bind, hfi, Result.andThen_ok, c0, false_and, if_false, if_neg c2, run_choose, hforced, Bool.false_eq_true, if_false, run_askRoom]
       rw [hold { w with drawn := w.drawn + 1 } rfl]
       by_cases h0 : n * j.size = 0
       · rw [g1 h0]
         simp only [Result.andThen_ok, Bool.not_true, Bool.false_eq_true, if_false, if_pos h0, Sem.run_pure, htj.run_zero, newRow_run]
       · rw [g2 h0]
         simp only [Result.andThen_ok, Bool.not_true, Bool.false_eq_true, if_false, if_neg h0, Sem.run_bind, Sem.run_pure, htj.run_zero, newRow_run])

end Go.Tc

/- Soundness: append, its two ways. -/
namespace Go.Tc

variable {P : Program} {T : Tab} {ρ : Rho} {M : AMem} {w : World} {a : AAct} {ca : Act}

/-- What an append comes to. -/
noncomputable def Appended (P : Program) (M : AMem) (ρ : Rho) (w : World) (val : Value) (w1 : World) (v : AV) (M' : AMem) : Prop :=
  ∃ ρ', Adv M ρ w M' ρ' w1 ∧ Sim P ρ' M' w1 ∧ val = conc ρ' v ∧ okv ρ' v

theorem Appended.next_eq {M₁ M₂ : AMem} (e : M₁.next = M₂.next) {val : Value} {w1 : World} {v : AV} {M' : AMem} (h : Appended P M₁ ρ w val w1 v M') : Appended P M₂ ρ w val w1 v M' := by
  obtain ⟨ρ', h1, h2⟩ := h
  exact ⟨ρ', ⟨e ▸ h1.mono, fun b p x y => e ▸ h1.fresh b p x y, h1.ext, h1.new, h1.os, h1.tape, h1.output, h1.size, h1.keep⟩, h2⟩

theorem concL_append (ρ : Rho) (l r : List AV) : concL ρ (l ++ r) = concL ρ l ++ concL ρ r := by simp [concL_eq]

/-- The new memory of an append that grew: a new block. -/
theorem grown_ok (hT : TabOk P T) (hS : Sim P ρ M w) {e : TypeId} {j : TInfo} (hj : T.types.get e = some j) (hsz : j.size ≠ 0) {c : List AV} (hc : okL ρ c) {n K : Nat} (hlen : c.length = n * j.size) (hK : n ≤ K)
    {C : Array Value} (hC : C.toList = concL ρ c) {w1 : World} {fz : Nat} {q : Bool}
    (hheap : w1.heap = w.heap.push (.cells (C ++ Builtin.zeroCells (cv j.zero).cells (K - n)) e)) (h1 : w1.os = w.os) (h2 : w1.tape = w.tape) (h3 : w1.output = w.output) :
    Appended P M ρ w (.slice (some ⟨w.heap.size, 0, none⟩) n K) w1 (.slice M.next 0 0 n none) (M.push (.cells c e fz q false)) := by
  have hnone : ρ M.next = none := by
    cases h : ρ M.next with
    | none => rfl
    | some p => have := (hS.dom _ _ h).1; omega
  let p : Pl := ⟨w.heap.size, 0, K * j.size, j.size⟩
  have hzs := zero_size (hT.types _ _ hj)
  have hCs : C.size = n * j.size := by
    have := congrArg List.length hC
    simpa [concL_eq, hlen] using this
  have hb : upd ρ M.next p M.next = some p := upd_self _ _ _
  have hm := okL_mono (upd_ext (p := p) hnone) hc
  have htot : (C ++ Builtin.zeroCells (cv j.zero).cells (K - n)).size = K * j.size := by
    simp only [Array.size_append, Builtin.zeroCells, Array.size_map, Array.size_range, hCs, hzs]
    rw [← Nat.add_mul]
    congr 1
    omega
  have hk : BlkOk P (upd ρ M.next p) p (.cells c e fz q false) (.cells (C ++ Builtin.zeroCells (cv j.zero).cells (K - n)) e) := by
    refine ⟨rfl, htot, ?_, ?_, by simp, by simp, by simp, info_size hT hj⟩
    · show 0 + c.length ≤ K * j.size
      rw [hlen, Nat.zero_add]
      exact Nat.mul_le_mul_right _ hK
    · intro i v hv
      have hi : i < c.length := (List.getElem?_eq_some_iff.1 hv).1
      refine ⟨?_, (okL_iff _ _).1 hm.2 v (List.mem_of_getElem? hv)⟩
      show (C ++ _)[0 + i]? = _
      rw [Nat.zero_add, Array.getElem?_append_left (by omega), ← Array.getElem?_toList, hC, ← hm.1, concL_eq, List.getElem?_map, hv]
      rfl
  refine ⟨upd ρ M.next p, Adv.born (by exact Nat.le_succ _) (Nat.le_refl _) hnone hheap h1 h2 h3 rfl, Sim.born (Sim.push hS _) (by rw [AMem.get_push, if_pos rfl]) hnone hheap rfl hk, ?_, ⟨p, hb, Nat.pos_of_ne_zero hsz, ?_, by simp, by simp⟩⟩
  · rw [conc_slice0 hb]
    simp only [Option.getD_none]
    congr 1
    show K = (K * j.size - (0 + 0)) / j.size
    simp [Nat.mul_div_cancel _ (Nat.pos_of_ne_zero hsz)]
  · show 0 + 0 + (0 + n) * j.size ≤ K * j.size
    have := Nat.mul_le_mul_right j.size hK
    simpa using this

theorem first_of_heap {size n : Nat} {x : Value} {old : Array Value} (h : ∀ w' : World, w'.heap = w.heap → (Builtin.firstCells size n x).run P w' = .ok old w') :
    ∀ w' : World, w'.heap = w.heap → (Builtin.firstCells size n x).run P w' = .ok old w' := h

theorem aappend_sound (hT : TabOk P T) (hS : Sim P ρ M w) {ts : Array TypeId} {t xt : TypeId} (ht : ts[0]? = some t) (hxt : ts[1]? = some xt) {s x : AV} (hs : okv ρ s) (hx : okv ρ x) {v : AV} {M' : AMem}
    (h : aappend T M t xt s x = some (v, M')) (ty : TypeId) :
    ∃ val w1, (Builtin.append_ ts ty #[conc ρ s, conc ρ x]).run P w = .ok val w1 ∧ Appended P M ρ w val w1 v M' := by
  unfold aappend at h
  split at h
  case h_2 => cases h
  rename_i e _ _ _ xi hti hxi
  have hu := (hT.types _ _ hti).und
  simp only at hu
  split at h
  case h_2 => cases h
  rename_i j hj
  split at h
  case h_2 => cases h
  rename_i n new hn
  split at h
  case isTrue => cases h
  rename_i hne
  have c1 : j.size ≠ 0 := fun e => hne (.inl e)
  have c2 : new.length = n * j.size := Decidable.not_not.1 fun e => hne (.inr (.inl e))
  have c3 : n * j.bytes ≤ 2 ^ 40 := by have := fun e => hne (.inr (.inr (.inl e))); omega
  have c4 : new.all AV.cell = true := by
    cases hq : new.all AV.cell
    · exact absurd (.inr (.inr (.inr hq))) hne
    · rfl
  have hA := anew_sound (P := P) hT hS hj hx hn
  have hnew : NewIs P e j (isIntDesc xi.desc) n (conc ρ x) (concL ρ new).toArray w := ⟨fun hz w' hw => (anew_sound (P := P) hT (Sim.world hS hw) hj hx hn).2.2.1.1 hz, fun hz => ⟨(hA.2.2.1.2 hz).1, (hA.2.2.1.2 hz).2, fun w' => (hT.types _ _ hj).run_zero⟩⟩
  unfold appendTo at h
  split at h
  · -- nil
    have hcs : conc ρ AV.nilSlice = .slice none 0 0 := rfl
    rw [hcs]
    split at h
    · rename_i h0
      subst h0
      cases h
      exact ⟨_, _, append_in_place_nil hT ht hxt hu hj hxi ty hA.1 hA.2.1 c3 hnew rfl (by omega), ρ, Adv.refl _ ρ w, hS, by simp [conc], trivial⟩
    · rename_i h0
      split at h
      · cases h
      · rename_i hbig
        cases h
        obtain ⟨K, hK, hr⟩ := append_grows (w := w) hT ht hxt hu hj hxi (base := none) (sLen := 0) (sCap := 0) (old := #[]) ty hA.1 hA.2.1 c3 hnew
          (fun w' _ => by simp [Builtin.firstCells]) (by omega) (by simpa using c3) (by omega)
        refine ⟨_, _, hr, ?_⟩
        simp only [Nat.zero_add] at hK ⊢
        exact grown_ok hT hS hj c1 hA.2.2.2 c2 hK (C := #[] ++ (concL ρ new).toArray) (by simp) rfl rfl rfl rfl
  · rename_i b o adv len cap
    split at h
    · -- nothing is appended
      rename_i h0
      subst h0
      cases h
      have hnil : new = [] := List.eq_nil_of_length_eq_zero (by simpa using c2)
      subst hnil
      obtain ⟨A, l, k, hc⟩ := conc_slice_some hs
      have hlk : l ≤ k := by
        obtain ⟨p, hp, hes, hin, hadv, hcap⟩ := hs
        simp only [conc, concSlice, hp] at hc
        split at hc
        · rename_i ha
          subst ha
          injection hc with _ h1 h2
          subst h1; subst h2
          cases cap with
          | none => exact room_le hes (by simpa using hin)
          | some k => have := (hcap k rfl).1; simpa using this
        · rename_i ha
          have hl0 : len = 0 := by
            rcases Nat.eq_zero_or_pos len with h | h
            · exact h
            · exact absurd (hadv h) ha
          split at hc <;> (injection hc with _ h1 h2; omega)
      rw [hc]
      refine ⟨_, _, append_in_place (w1 := w) hT ht hxt hu hj hxi ty hA.1 hA.2.1 c3 hnew rfl (by omega) (by simp [concL, storeCells]), ρ, Adv.refl _ ρ w, hS, ?_, hs⟩
      rw [hc]; rfl
    · rename_i h0
      split at h
      · cases h
      rename_i hcond
      have d1 : adv = 0 := Decidable.not_not.1 fun e => hcond (.inl e)
      have d2 : cap = none := by
        cases cap with
        | none => rfl
        | some k => exact absurd (.inr (.inl rfl)) hcond
      have d3 : (len + n) * j.bytes ≤ 2 ^ 40 := by have := fun e => hcond (.inr (.inr (.inl e))); omega
      have d4 : len + n < 2 ^ 40 := by have := fun e => hcond (.inr (.inr (.inr e))); omega
      subst d1; subst d2
      split at h
      case h_2 => cases h
      rename_i c e' fz q ex hM
      split at h
      · cases h
      rename_i hfz
      have f1 : e' = e := Decidable.not_not.1 fun x => hfz (.inl x)
      have f2 : fz ≤ o + len * j.size := Decidable.not_not.1 fun x => hfz (.inr x)
      subst f1
      split at h
      case h_2 => cases h
      rename_i old hold
      cases h
      obtain ⟨p, hp, hes, hin, _, _⟩ := id hs
      have hjes := es_eq hT hS hM hp hj
      obtain ⟨hle, holen, hget⟩ := takeCells_some hold
      obtain ⟨K, hK⟩ : ∃ K, K = (p.S - (p.sh + o)) / p.es := ⟨_, rfl⟩
      have hKS : p.sh + o + K * p.es ≤ p.S := by
        have := room_mul (S := p.S) (o := p.sh + o) (es := p.es)
        have h0 : p.sh + o ≤ p.S := Nat.le_trans (Nat.le_add_right _ _) hin
        rw [hK]; omega
      have hcs : conc ρ (.slice b o 0 len none) = .slice (some ⟨p.B, p.sh + o, none⟩) len K := by rw [conc_slice0 hp, hK]; rfl
      rw [hcs]
      have hokold : okL ρ old := (run_takeCells (P := P) hS hM hp hold).2
      have hokall : okL ρ (old ++ new) := (okL_iff _ _).2 fun v hv => by
        rcases List.mem_append.1 hv with hv | hv
        · exact (okL_iff _ _).1 hokold v hv
        · exact (okL_iff _ _).1 hA.2.2.2 v hv
      have halllen : (old ++ new).length = (len + n) * j.size := by rw [List.length_append, holen, c2, Nat.add_mul]
      by_cases hroom : len + n ≤ K
      · -- there is room: in place
        obtain ⟨C, fr, hC, hb⟩ := blk_cells' hS hM hp
        obtain ⟨_, h2, h3, h4, h5, h6, h7, h8⟩ := id hb
        have hend : p.sh + o + (len + n) * p.es ≤ p.S := Nat.le_trans (Nat.add_le_add_left (Nat.mul_le_mul_right _ hroom) _) hKS
        rw [hjes] at hend
        have hmul : (len + n) * j.size = len * j.size + n * j.size := Nat.add_mul _ _ _
        obtain ⟨C', r1, r2⟩ := storeCells_run (P := P) p.B (p.sh + o + len * j.size) e' fr (concL ρ new) 0 C w hC (by simp [concL_eq]; omega) (by
            intro v hv
            rw [concL_eq, List.mem_map] at hv
            obtain ⟨u, hu, rfl⟩ := hv
            exact cell_one (List.all_eq_true.1 c4 u hu) ((okL_iff _ _).1 hA.2.2.2 u hu)) (by
            intro i hi1 hi2
            simp only [concL_eq, List.length_map] at hi2
            exact h5 i (by omega) (by omega))
        simp only [Nat.add_zero, concL_eq, List.length_map] at r2
        have hst : (storeCells ((⟨p.B, p.sh + o, none⟩ : Addr).add (len * j.size)) (concL ρ new).toArray.toList).run P w = .ok () { w with heap := w.heap.setIfInBounds p.B (.cells C' e' fr) } := by
          rw [Addr.add_mk]; simpa using r1
        have hnone : ρ M.next = none := by
          cases h : ρ M.next with
          | none => rfl
          | some p => have := (hS.dom _ _ h).1; omega
        have hbn : b ≠ M.next := by have := (hS.dom _ _ hp).1; omega
        let p' : Pl := ⟨p.B, p.sh + o, p.S, p.es⟩
        let ρ' := upd ρ M.next p'
        have hext : Ext ρ ρ' := upd_ext hnone
        have hbρ : ρ' M.next = some p' := upd_self _ _ _
        have hm := okL_mono hext hokall
        have hlt := (hS.dom b p hp).2
        have hk : BlkOk P ρ' p' (.cells (old ++ new) e' (fz - o) q false) (.cells C' e' fr) := by
          have hsz : C'.size = C.size := by
            have := congrArg List.length r2
            simp only [Array.length_toList, List.length_append, List.length_take, List.length_drop, List.length_map] at this
            omega
          refine ⟨rfl, by rw [hsz]; exact h2, ?_, ?_, ?_, ?_, by simp, h8⟩
          · show p.sh + o + (old ++ new).length ≤ p.S
            rw [halllen]; exact hend
          · intro i v hv
            refine ⟨?_, (okL_iff _ _).1 hm.2 v (List.mem_of_getElem? hv)⟩
            have hvi : i < (old ++ new).length := (List.getElem?_eq_some_iff.1 hv).1
            have hconc : conc ρ' v = conc ρ v := (conc_ext hext v ((okL_iff _ _).1 hokall v (List.mem_of_getElem? hv))).1
            rw [hconc]
            show C'[p.sh + o + i]? = _
            rw [← Array.getElem?_toList, r2]
            have hsp := splice_get C.toList (new.map (conc ρ)) (p.sh + o + len * j.size) (p.sh + o + i) (by simp; omega)
            simp only [List.length_map] at hsp
            rw [hsp]
            by_cases hio : i < old.length
            · rw [if_pos (by omega)]
              rw [List.getElem?_append_left hio] at hv
              have := (h4 (o + i) v (hget i v hv)).1
              rw [Array.getElem?_toList, Nat.add_assoc]
              exact this
            · rw [if_neg (by omega), if_pos (by omega)]
              rw [List.getElem?_append_right (by omega)] at hv
              have e1 : p.sh + o + i - (p.sh + o + len * j.size) = i - old.length := by omega
              rw [e1, List.getElem?_map, hv]
              rfl
          · intro i hi1 hi2
            exact h5 i (by show p.sh + fz ≤ i; have : p.sh + o + (fz - o) ≤ i := hi1; omega) hi2
          · refine ⟨fun hq => ?_, fun hz hsh => ?_⟩
            · have := h6.1 hq
              show fr.1 = fr.2 ∨ fr.2 ≤ p.sh + o + (fz - o)
              omega
            · have hsh' : p.sh + o = 0 := hsh
              exact h6.2 (by omega) (by omega)
        have hcase : ∀ x r, ρ' x = some r → (x = M.next ∧ r = p') ∨ (x ≠ M.next ∧ ρ x = some r) := by
          intro x r hx
          by_cases e : x = M.next
          · subst e; rw [hbρ] at hx; cases hx; exact .inl ⟨rfl, rfl⟩
          · have : ρ x = some r := by simpa [ρ', upd, e] using hx
            exact .inr ⟨e, this⟩
        have hget' : ∀ x k, ((M.kill b).push (.cells (old ++ new) e' (fz - o) q false)).get x = some k → x ≠ M.next → x ≠ b ∧ M.get x = some k := by
          intro x k hx hn
          rw [AMem.get_push, AMem.next_kill, if_neg hn, AMem.get_kill] at hx
          split at hx
          · cases hx
          · rename_i e; exact ⟨e, hx⟩
        refine ⟨_, _, append_in_place hT ht hxt hu hj hxi ty hA.1 hA.2.1 c3 hnew rfl hroom hst, ρ', ?_, ?_, ?_, ⟨p', hbρ, hes, ?_, by simp, by simp⟩⟩
        · refine ⟨Nat.le_succ _, ?_, hext, ?_, rfl, rfl, rfl, by simp, ?_⟩
          · intro x r hx hn
            rcases hcase x r hx with ⟨rfl, _⟩ | ⟨_, h⟩
            · exact Nat.le_refl _
            · rw [h] at hn; cases hn
          · intro x r hx hn
            rcases hcase x r hx with ⟨rfl, rfl⟩ | ⟨_, h⟩
            · exact .inr ⟨b, p, hp, rfl⟩
            · rw [h] at hn; cases hn
          · intro B _ hno
            show (w.heap.setIfInBounds p.B _)[B]? = _
            rw [Array.getElem?_setIfInBounds, if_neg (hno b p hp)]
        · refine ⟨?_, ?_, ?_, ?_⟩
          · intro x k r hx hr
            rcases hcase x r hr with ⟨rfl, rfl⟩ | ⟨hxn, hr⟩
            · rw [AMem.get_push, AMem.next_kill, if_pos rfl] at hx
              cases hx
              exact ⟨_, by show (w.heap.setIfInBounds p.B _)[p.B]? = _; simp [hlt], hk⟩
            · obtain ⟨hxb, hx⟩ := hget' x k hx hxn
              obtain ⟨o', ho', hok⟩ := hS.blk x k r hx hr
              refine ⟨o', ?_, BlkOk.ext hext hok⟩
              show (w.heap.setIfInBounds p.B _)[r.B]? = _
              rw [Array.getElem?_setIfInBounds, if_neg ?_]
              · exact ho'
              · intro hB
                exact hxb (hS.inj x b _ _ _ _ hx hM hr hp hB.symm)
          · intro x y k k' r r' hx hy hr hr' e
            rcases hcase x r hr with ⟨e1, e1'⟩ | ⟨e1, hr1⟩ <;> rcases hcase y r' hr' with ⟨e2, e2'⟩ | ⟨e2, hr2⟩
            · rw [e1, e2]
            · obtain ⟨hyb, hy⟩ := hget' y k' hy e2
              rw [e1'] at e
              exact absurd (hS.inj y b _ _ _ _ hy hM hr2 hp e.symm) hyb
            · obtain ⟨hxb, hx⟩ := hget' x k hx e1
              rw [e2'] at e
              exact absurd (hS.inj x b _ _ _ _ hx hM hr1 hp e) hxb
            · obtain ⟨_, hx⟩ := hget' x k hx e1
              obtain ⟨_, hy⟩ := hget' y k' hy e2
              exact hS.inj x y k k' r r' hx hy hr1 hr2 e
          · intro x r hr
            show x < M.next + 1 ∧ r.B < (w.heap.setIfInBounds p.B _).size
            rw [Array.size_setIfInBounds]
            rcases hcase x r hr with ⟨rfl, rfl⟩ | ⟨_, hr⟩
            · exact ⟨by omega, hlt⟩
            · have := hS.dom x r hr; exact ⟨by omega, this.2⟩
          · intro x k hx
            show x < M.next + 1
            by_cases e : x = M.next
            · omega
            · have := hS.low x k (hget' x k hx e).2; omega
        · rw [conc_slice0 hbρ]
          simp only [Option.getD_none]
          congr 1
        · show p.sh + o + 0 + (0 + (len + n)) * p.es ≤ p.S
          rw [hjes]
          simpa using hend
      · -- there is none: a new block
        have hfo : ∀ w' : World, w'.heap = w.heap → (Builtin.firstCells j.size len (.slice (some ⟨p.B, p.sh + o, none⟩) len K)).run P w' = .ok (concL ρ old).toArray w' := by
          intro w' hw'
          have := (run_takeCells (P := P) (Sim.world hS hw') hM hp hold).1
          simpa [Builtin.firstCells] using this
        obtain ⟨K', hK', hr⟩ := append_grows (w := w) hT ht hxt hu hj hxi (base := some ⟨p.B, p.sh + o, none⟩) (sLen := len) (sCap := K) ty hA.1 hA.2.1 c3 hnew hfo hroom d3 (by omega)
        refine ⟨_, _, hr, ?_⟩
        refine Appended.next_eq (M₁ := M.kill b) (M₂ := M) rfl ?_
        exact grown_ok hT (Sim.kill hS b) hj c1 hokall halllen hK' (C := (concL ρ old).toArray ++ (concL ρ new).toArray) (by simp [concL_append]) rfl rfl rfl rfl
  · cases h

end Go.Tc

/- Soundness: copy, maps' writes, ranging. -/
namespace Go.Tc

variable {P : Program} {T : Tab} {ρ : Rho} {M : AMem} {w : World} {a : AAct} {ca : Act}

theorem conc_slice_len {b o adv len : Nat} {cap : Option Nat} (h : okv ρ (.slice b o adv len cap)) : ∃ A k, conc ρ (.slice b o adv len cap) = .slice (some A) len k := by
  obtain ⟨p, hp, _⟩ := h
  simp only [conc, concSlice, hp]
  split
  · exact ⟨_, _, rfl⟩
  · split <;> exact ⟨_, _, rfl⟩

theorem slen_sound {x : AV} (hx : okv ρ x) {n : Nat} (h : slen x = some n) :
    (Builtin.lenOf (conc ρ x)).run P w = .ok n w ∧ ∀ size, (Builtin.firstCells size 0 (conc ρ x)).run P w = .ok #[] w := by
  unfold slen at h
  split at h <;> simp only [Option.some.injEq, reduceCtorEq] at h
  · rename_i s
    subst h
    refine ⟨by simp [conc, Builtin.lenOf], fun size => ?_⟩
    simp only [conc, Builtin.firstCells, Sem.run_pure]
    congr 1
    apply Array.toList_inj.1
    simp
  · subst h
    exact ⟨by simp [conc, Builtin.lenOf], fun size => by simp [conc, Builtin.firstCells]⟩
  · subst h
    obtain ⟨A, k, hc⟩ := conc_slice_len hx
    rw [hc]
    exact ⟨by simp [Builtin.lenOf], fun size => by simp [Builtin.firstCells, loadCells, loadCellsFrom]⟩

theorem acopy_sound (hT : TabOk P T) (hS : Sim P ρ M w) {ts : Array TypeId} {t : TypeId} (ht : ts[0]? = some t) {d s : AV} (hd : okv ρ d) (hs : okv ρ s) {v : AV} {M' : AMem}
    (h : acopy T M t d s = some (v, M')) (ty : TypeId) :
    ∃ val w1, (Builtin.copy_ ts ty #[conc ρ d, conc ρ s]).run P w = .ok val w1 ∧ Appended P M ρ w val w1 v M' := by
  unfold acopy at h
  split at h
  case h_2 => cases h
  rename_i e _ _ _ hti
  have hu := (hT.types _ _ hti).und
  simp only at hu
  split at h
  case h_2 => cases h
  rename_i j n hj hn
  have hsz := (hT.types _ _ hj).run_size (w := w)
  have hl := slen_sound (P := P) (w := w) hs hn
  have hbeg : ∀ (base : Option Addr) (dl k : Nat) (cells : Array Value), (Builtin.firstCells j.size (Nat.min n dl) (conc ρ s)).run P w = .ok cells w →
      ∀ w1, (∀ A, base = some A → (storeCells A cells.toList).run P w = .ok () w1) → (base = none → w1 = w) →
      (Builtin.copy_ ts ty #[.slice base dl k, conc ρ s]).run P w = .ok (goInt (Nat.min n dl)) w1 := by
    intro base dl k cells hc w1 h1 h2
    cases base with
    | none =>
      cases h2 rfl
      simp only [Builtin.copy_, ht, List.getElem?_toArray, List.getElem?_cons_zero, List.getElem?_cons_succ, Sem.run_bind, run_und hu, Result.andThen_ok, hl.1, hsz, hc, Sem.run_pure]
    | some A =>
      simp only [Builtin.copy_, ht, List.getElem?_toArray, List.getElem?_cons_zero, List.getElem?_cons_succ, Sem.run_bind, run_und hu, Result.andThen_ok, hl.1, hsz, hc, h1 A rfl, Sem.run_pure]
  split at h
  · rename_i b o adv len cap
    split at h
    · rename_i h0
      cases h
      obtain ⟨A, k, hc⟩ := conc_slice_len hd
      rw [hc]
      refine ⟨_, w, hbeg (some A) len k #[] (by rw [h0]; exact hl.2 _) w (fun A' e => by simp [storeCells]) (by simp), ρ, Adv.refl _ ρ w, hS, ?_, trivial⟩
      simp [conc, h0, goInt]
    · rename_i h0
      split at h
      · cases h
      · rename_i ha
        have ha0 : adv = 0 := Decidable.not_not.1 ha
        subst ha0
        split at h
        case h_2 => cases h
        rename_i cs c e' fz q ex hcs hM
        split at h
        case isFalse => cases h
        rename_i hc
        obtain ⟨c1, c2, c3, c4, c5⟩ := hc
        cases h
        obtain ⟨p, hp, hr⟩ := hd
        have hmin : Nat.min n len = n := Nat.min_eq_left c3
        have hn' : alen M s = some n := by
          unfold slen at hn
          unfold alen
          split at hn <;> simp_all
        have hsc := sliceCells_sound (P := P) hS hs hn' hcs
        obtain ⟨w1, r1, r2, r3⟩ := write_sound (P := P) hS hM hp hsc.2.2 c5 c4 c2
        rw [conc_slice0 hp]
        refine ⟨_, w1, hbeg (some _) len _ _ (by rw [hmin]; exact hsc.2.1) w1 (fun A' e => by cases e; exact r1) (by simp), ρ, r3, r2, ?_, trivial⟩
        simp [conc, hmin, goInt]
  · cases h
    refine ⟨_, w, hbeg none 0 0 #[] (by simpa using hl.2 _) w (by simp) (fun _ => rfl), ρ, Adv.refl _ ρ w, hS, ?_, trivial⟩
    simp [conc, goInt]
  · cases h

/-! ### maps -/

theorem map_at (hS : Sim P ρ M w) {b : Nat} {es : List AEnt} {cl : Nat} (hM : M.get b = some (.map es cl)) {p : Pl} (hp : ρ b = some p) :
    ∃ ES, w.heap[p.B]? = some (.map ES cl) ∧ ES.toList = es.map (concEnt ρ) ∧ ∀ e ∈ es, okv ρ e.key ∧ okv ρ e.val := by
  obtain ⟨o, ho, hb⟩ := hS.blk _ _ _ hM hp
  cases o <;> simp only [BlkOk] at hb
  obtain ⟨rfl, h2, h3⟩ := hb
  exact ⟨_, ho, h2, h3⟩

theorem run_setObj {r : Nat} {o : Obj} (h : ∃ o', w.heap[r]? = some o' ∧ ∀ c e f, o' ≠ .cells c e f) : (setObj r o).run P w = .ok () { w with heap := w.heap.setIfInBounds r o } := by
  obtain ⟨o', ho, hn⟩ := h
  cases o' <;> first
    | (exact absurd rfl (hn _ _ _))
    | (simp [setObj, Sem.run, ho])

theorem map_put (hS : Sim P ρ M w) {b : Nat} {es : List AEnt} {cl : Nat} (hM : M.get b = some (.map es cl)) {p : Pl} (hp : ρ b = some p) {ES' : Array MapEntry} {es' : List AEnt} {cl' : Nat}
    (h1 : ES'.toList = es'.map (concEnt ρ)) (h2 : ∀ e ∈ es', okv ρ e.key ∧ okv ρ e.val) :
    Sim P ρ (M.set b (.map es' cl')) { w with heap := w.heap.setIfInBounds p.B (.map ES' cl') } ∧ Adv M ρ w (M.set b (.map es' cl')) ρ { w with heap := w.heap.setIfInBounds p.B (.map ES' cl') } :=
  ⟨Sim.put hS hM hp rfl ⟨rfl, h1, h2⟩, Adv.put (by exact Nat.le_refl _) hp rfl rfl rfl rfl⟩

theorem mapUpdate_sound (hT : TabOk P T) (hS : Sim P ρ M w) {t : TypeId} {m k v : AV} (hm : okv ρ m) (hk : okv ρ k) (hv : okv ρ v) {M' : AMem} (h : amapUpdate P T M t m k v = some M') :
    ∃ w1, (Instr.mapUpdate t (conc ρ m) (conc ρ k) (conc ρ v)).run P w = .ok () w1 ∧ Sim P ρ M' w1 ∧ Adv M ρ w M' ρ w1 := by
  unfold amapUpdate at h
  split at h
  case h_2 => cases h
  rename_i b
  split at h
  case h_2 => cases h
  rename_i kt _ _ _ _ ht
  have hu := (hT.types _ _ ht).und
  simp only at hu
  split at h
  case h_2 => cases h
  rename_i kd es cl hkd hM
  split at h
  case isFalse => cases h
  rename_i hc
  simp only [Bool.and_eq_true] at hc
  obtain ⟨g1, g2, g3, g4⟩ := keyFits_sound (ρ := ρ) (w := w) hc.1
  obtain ⟨p, hp⟩ := hm
  obtain ⟨ES, hES, e1, e2⟩ := map_at hS hM hp
  have hcm : conc ρ (.map b) = .map (some p.B) := by simp [conc, concMap, hp]
  have hset : ∀ o, (setObj p.B o).run P w = .ok () { w with heap := w.heap.setIfInBounds p.B o } := fun o => run_setObj ⟨_, hES, by simp⟩
  split at h
  · rename_i i hfd
    obtain ⟨f1, f2⟩ := findKey_sound (ρ := ρ) (w := w) hT hkd g4 hc.2 hfd
    split at h
    case h_2 => cases h
    rename_i e he
    split at h
    case isFalse => cases h
    rename_i hsame
    cases h
    have hek := flat_conc ρ e.key (g4 e (List.mem_of_getElem? he))
    have hEi : ES[i]? = some (concEnt ρ e) := by rw [← Array.getElem?_toList, e1, List.getElem?_map, he]; rfl
    have hmod : (ES.modify i fun x => { x with key := cv k, val := conc ρ v }).toList = (es.set i { key := k, val := v, born := e.born }).map (concEnt ρ) := by
      rw [modify_eq _ _ _ _ hEi, Array.toList_setIfInBounds, e1, List.map_set]
      simp [concEnt, g1]
    have hput := map_put hS hM hp (cl' := cl) hmod (by
      intro x hx
      rcases List.mem_or_eq_of_mem_set hx with hx | rfl
      · exact e2 x hx
      · exact ⟨hk, hv⟩)
    refine ⟨_, ?_, hput.1, hput.2⟩
    simp only [Instr.mapUpdate, Sem.run_bind, run_und hu, Result.andThen_ok, hcm, run_getObj hES (by simp), g1, g3, e1, f1, Option.map_some, hEi, Option.getD_some, concEnt, hek.1, Instr.keyThatStays, hsame,
      if_true, Sem.run_pure, hset]
  · rename_i hfd
    obtain ⟨f1, f2⟩ := findKey_sound (ρ := ρ) (w := w) hT hkd g4 hc.2 hfd
    cases h
    have hput := map_put hS hM hp (cl' := cl + 1) (ES' := ES.push { key := cv k, val := conc ρ v, born := cl }) (es' := es ++ [{ key := k, val := v, born := cl }])
      (by simp [e1, concEnt, g1]) (by
      intro x hx
      rcases List.mem_append.1 hx with hx | hx
      · exact e2 x hx
      · simp only [List.mem_singleton] at hx; subst hx; exact ⟨hk, hv⟩)
    refine ⟨_, ?_, hput.1, hput.2⟩
    simp only [Instr.mapUpdate, Sem.run_bind, run_und hu, Result.andThen_ok, hcm, run_getObj hES (by simp), g1, g3, e1, f1, Option.map_none, hset]
  · cases h

theorem map_erase {α β : Type} (f : α → β) : ∀ (l : List α) (i : Nat), (l.map f).eraseIdx i = (l.eraseIdx i).map f
  | [], _ => rfl
  | _ :: _, 0 => rfl
  | x :: r, i + 1 => by simp [map_erase f r i]

theorem delete_sound (hT : TabOk P T) (hS : Sim P ρ M w) {ts : Array TypeId} {t : TypeId} (hts : ts[0]? = some t) {m k : AV} (hm : okv ρ m) {M' : AMem} (h : adelete P T M t m k = some M') (ty : TypeId) :
    ∃ w1, (Builtin.delete_ ts ty #[conc ρ m, conc ρ k]).run P w = .ok (.tuple #[]) w1 ∧ Sim P ρ M' w1 ∧ Adv M ρ w M' ρ w1 := by
  unfold adelete at h
  split at h
  case h_2 => cases h
  rename_i b
  split at h
  case h_2 => cases h
  rename_i kt _ _ _ _ ht
  have hu := (hT.types _ _ ht).und
  simp only at hu
  split at h
  case h_2 => cases h
  rename_i kd es cl hkd hM
  split at h
  case isFalse => cases h
  rename_i hc
  simp only [Bool.and_eq_true] at hc
  obtain ⟨g1, g2, g3, g4⟩ := keyFits_sound (ρ := ρ) (w := w) hc.1
  obtain ⟨p, hp⟩ := hm
  obtain ⟨ES, hES, e1, e2⟩ := map_at hS hM hp
  have hemp : ES.isEmpty = es.isEmpty := by rw [← Array.isEmpty_toList, e1]; cases es <;> rfl
  have hcm : conc ρ (.map b) = .map (some p.B) := by simp [conc, concMap, hp]
  have hset : ∀ o, (setObj p.B o).run P w = .ok () { w with heap := w.heap.setIfInBounds p.B o } := fun o => run_setObj ⟨_, hES, by simp⟩
  split at h
  · rename_i i hfd
    obtain ⟨f1, f2⟩ := findKey_sound (ρ := ρ) (w := w) hT hkd g4 hc.2 hfd
    cases h
    have hi := f2 i rfl
    have hES' : ES.size = es.length := by have := congrArg List.length e1; simpa using this
    have hput := map_put hS hM hp (cl' := cl) (ES' := ES.eraseIdxIfInBounds i) (es' := es.eraseIdx i) (by
      rw [Array.eraseIdxIfInBounds]
      simp [hES', hi, Array.toList_eraseIdx, e1, map_erase]) (by
      intro x hx
      exact e2 x (List.mem_of_mem_eraseIdx hx))
    refine ⟨_, ?_, hput.1, hput.2⟩
    simp only [Builtin.delete_, hts, List.getElem?_toArray, List.getElem?_cons_zero, List.getElem?_cons_succ, Sem.run_bind, run_und hu, Result.andThen_ok, hcm, run_getObj hES (by simp), g1, hemp, g3, e1, f1,
      Option.map_some, hset, Sem.run_pure]
  · rename_i hfd
    obtain ⟨f1, f2⟩ := findKey_sound (ρ := ρ) (w := w) hT hkd g4 hc.2 hfd
    cases h
    have hput := map_put hS hM hp (cl' := cl) (ES' := ES) (es' := es) e1 e2
    refine ⟨_, ?_, hput.1, hput.2⟩
    simp only [Builtin.delete_, hts, List.getElem?_toArray, List.getElem?_cons_zero, List.getElem?_cons_succ, Sem.run_bind, run_und hu, Result.andThen_ok, hcm, run_getObj hES (by simp), g1, hemp, g3, e1, f1,
      Option.map_none, hset, Sem.run_pure]
  · cases h

theorem clear_sound (hT : TabOk P T) (hS : Sim P ρ M w) {ts : Array TypeId} {t : TypeId} (hts : ts[0]? = some t) {m : AV} (hm : okv ρ m) {M' : AMem} (h : aclear T M t m = some M') (ty : TypeId) :
    ∃ w1, (Builtin.clear_ ts ty #[conc ρ m]).run P w = .ok (.tuple #[]) w1 ∧ Sim P ρ M' w1 ∧ Adv M ρ w M' ρ w1 := by
  unfold aclear at h
  split at h
  case h_2 => cases h
  rename_i b
  split at h
  case h_2 => cases h
  rename_i kt _ _ _ _ ht
  have hu := (hT.types _ _ ht).und
  simp only at hu
  split at h
  case h_2 => cases h
  rename_i es cl hM
  cases h
  obtain ⟨p, hp⟩ := hm
  obtain ⟨ES, hES, e1, e2⟩ := map_at hS hM hp
  have hcm : conc ρ (.map b) = .map (some p.B) := by simp [conc, concMap, hp]
  have hset : ∀ o, (setObj p.B o).run P w = .ok () { w with heap := w.heap.setIfInBounds p.B o } := fun o => run_setObj ⟨_, hES, by simp⟩
  have hput := map_put hS hM hp (cl' := cl) (ES' := #[]) (es' := []) (by simp) (by simp)
  refine ⟨_, ?_, hput.1, hput.2⟩
  simp only [Builtin.clear_, hts, List.getElem?_toArray, List.getElem?_cons_zero, Sem.run_bind, run_und hu, Result.andThen_ok, hcm, run_getObj hES (by simp), hset, Sem.run_pure]

end Go.Tc

/- Soundness: ranging, marks, strings over bytes. -/
namespace Go.Tc

variable {P : Program} {T : Tab} {ρ : Rho} {M : AMem} {w : World} {a : AAct} {ca : Act}

theorem rho_next (hS : Sim P ρ M w) : ρ M.next = none := by
  cases h : ρ M.next with
  | none => rfl
  | some p => have := (hS.dom _ _ h).1; omega

theorem alloc_done (hS : Sim P ρ M w) {k : ABlk} {f : Nat → AV} {val : Value} {w1 : World} (h : AllocOk P ρ w k f val w1) : Appended P M ρ w val w1 (f M.next) (M.push k) := by
  obtain ⟨o, S, es, h1, h2, h3, h4, h5⟩ := h
  have hn := rho_next hS
  obtain ⟨g1, g2, g3⟩ := h5 (upd ρ M.next ⟨w.heap.size, 0, S, es⟩) M.next (upd_ext hn) (upd_self _ _ _)
  exact ⟨_, Adv.born (by exact Nat.le_succ _) (Nat.le_refl _) hn h1 h2 h3 h4 rfl, Sim.born (Sim.push hS k) (by rw [AMem.get_push, if_pos rfl]) hn h1 rfl g3, g1, g2⟩

theorem filter_conc (es : List AEnt) (seen : List Nat) (ES : Array MapEntry) (l : Array Nat) (h : ES.toList = es.map (concEnt ρ)) (hl : l.toList = seen) :
    (ES.filter fun e => !l.contains e.born).toList = (unseen es seen).map (concEnt ρ) := by
  rw [Array.toList_filter, h, unseen, List.filter_map]
  congr 1
  apply List.filter_congr
  intro x _
  simp only [Function.comp, concEnt]
  rw [← hl, ← Array.contains_toList]

theorem anextMap_sound (hS : Sim P ρ M w) {b m since last : Nat} {seen : List Nat} {p : Pl} (hp : ρ b = some p) (hM : M.get b = some (.miter (some m) since seen last)) {v : AV} {M' : AMem}
    (h : anextMap M b m since seen last = some (v, M')) (ty : TypeId) :
    ∃ w1, (Instr.next (conc ρ (.ptr b 0)) false ty).run P w = .ok (conc ρ v) w1 ∧ Sim P ρ M' w1 ∧ Adv M ρ w M' ρ w1 ∧ okv ρ v := by
  obtain ⟨o, ho, hb⟩ := hS.blk _ _ _ hM hp
  cases o <;> simp only [BlkOk] at hb
  rename_i m' since' seen' last'
  obtain ⟨rfl, hseen, rfl, hsh, hm⟩ := hb
  cases m' with
  | none => exact hm.elim
  | some y =>
    obtain ⟨q, hq, rfl⟩ := hm
    unfold anextMap at h
    split at h
    case h_2 => cases h
    rename_i es cl hMm
    obtain ⟨ES, hES, e1, e2⟩ := map_at hS hMm hq
    split at h
    · cases h
    rename_i hstale
    have hptr : conc ρ (.ptr b 0) = .pointer (some ⟨p.B, 0, none⟩) := by simp [conc, concPtr, hp, hsh]
    have hst : ¬ ((!seen'.isEmpty && !ES.isEmpty && ES.all fun e => decide (e.born ≥ last')) = true) := by
      intro hc
      apply hstale
      have a1 : seen'.isEmpty = seen.isEmpty := by rw [← hseen]; simp
      have a2 : ES.isEmpty = es.isEmpty := by rw [← Array.isEmpty_toList, e1]; cases es <;> rfl
      have a3 : (ES.all fun e => decide (e.born ≥ last')) = es.all fun e => decide (e.born ≥ last') := by
        rw [← Array.all_toList, e1, List.all_map]; rfl
      rw [a1, a2, a3] at hc
      exact hc
    have hfil := filter_conc (ρ := ρ) es seen ES seen' e1 hseen
    split at h
    · rename_i hun
      cases h
      rw [hun] at hfil
      have hl : (ES.filter fun e => !seen'.contains e.born) = #[] := by apply Array.toList_inj.1; simpa using hfil
      refine ⟨w, ?_, hS, Adv.refl _ ρ w, trivial, trivial⟩
      simp only [Instr.next, hptr, Sem.run_bind, run_getObj ho (by simp), run_getObj hES (by simp), Result.andThen_ok, hst, Bool.false_eq_true, if_false, hl]
      simp [Question.forced, conc, concL]
    · rename_i e hun
      split at h
      case isFalse => cases h
      rename_i hlt
      cases h
      rw [hun] at hfil
      have hl : (ES.filter fun e => !seen'.contains e.born) = #[concEnt ρ e] := by apply Array.toList_inj.1; simpa using hfil
      have hmem : e ∈ es := by
        have : e ∈ unseen es seen := by rw [hun]; simp
        exact (List.mem_filter.1 this).1
      have hbe : (concEnt ρ e).born = e.born := rfl
      have hset : ∀ o, (setObj p.B o).run P w = .ok () { w with heap := w.heap.setIfInBounds p.B o } := fun o => run_setObj ⟨_, ho, by simp⟩
      refine ⟨{ w with heap := w.heap.setIfInBounds p.B (.mapIter (some q.B) since' (seen'.push e.born) cl) }, ?_, Sim.put hS hM hp (o := .mapIter (some q.B) since' (seen'.push e.born) cl) rfl ?_, Adv.put (by exact Nat.le_refl _) hp rfl rfl rfl rfl, trivial, (e2 e hmem).1, (e2 e hmem).2, trivial⟩
      · simp only [Instr.next, hptr, Sem.run_bind, run_getObj ho (by simp), run_getObj hES (by simp), Result.andThen_ok, hst, Bool.false_eq_true, if_false, hl]
        have n1 : ¬ (e.born ≥ since') := by omega
        simp [Question.forced, conc, concL, hbe, hlt, n1, hset]
        simp [concEnt]
      · exact ⟨rfl, by simp [hseen], rfl, hsh, q, hq, rfl⟩
    · cases h

theorem anextStr_sound (hS : Sim P ρ M w) {b : Nat} {p : Pl} (hp : ρ b = some p) {v : AV} {M' : AMem} (h : anextStr M b = some (v, M')) (ty : TypeId) :
    ∃ w1, (Instr.next (conc ρ (.ptr b 0)) true ty).run P w = .ok (conc ρ v) w1 ∧ Sim P ρ M' w1 ∧ Adv M ρ w M' ρ w1 ∧ okv ρ v := by
  unfold anextStr at h
  split at h
  case h_2 => cases h
  rename_i s pos hM
  obtain ⟨o, ho, hb⟩ := hS.blk _ _ _ hM hp
  cases o <;> simp only [BlkOk] at hb
  obtain ⟨rfl, rfl, hsh⟩ := hb
  rename_i s pos
  have hptr : conc ρ (.ptr b 0) = .pointer (some ⟨p.B, 0, none⟩) := by simp [conc, concPtr, hp, hsh]
  have hset : ∀ o, (setObj p.B o).run P w = .ok () { w with heap := w.heap.setIfInBounds p.B o } := fun o => run_setObj ⟨_, ho, by simp⟩
  split at h
  · rename_i hlt
    cases h
    refine ⟨{ w with heap := w.heap.setIfInBounds p.B (.stringIter s (pos + (Utf8.decode s pos).2)) }, ?_, Sim.put hS hM hp (o := .stringIter s (pos + (Utf8.decode s pos).2)) rfl ⟨rfl, rfl, hsh⟩, Adv.put (by exact Nat.le_refl _) hp rfl rfl rfl rfl, trivial, trivial, trivial, trivial⟩
    simp only [Instr.next, hptr, Sem.run_bind, run_getObj ho (by simp), Result.andThen_ok, hlt, if_true, hset, Sem.run_pure]
    simp [conc, concL, goInt]
  · rename_i hlt
    cases h
    refine ⟨w, ?_, hS, Adv.refl _ ρ w, trivial, trivial⟩
    simp only [Instr.next, hptr, Sem.run_bind, run_getObj ho (by simp), Result.andThen_ok, hlt, if_false, Sem.run_pure]
    simp [conc, concL]

theorem anext_sound (hS : Sim P ρ M w) {x : AV} (hx : okv ρ x) {isString : Bool} {v : AV} {M' : AMem} (h : anext M x isString = some (v, M')) (ty : TypeId) :
    ∃ w1, (Instr.next (conc ρ x) isString ty).run P w = .ok (conc ρ v) w1 ∧ Sim P ρ M' w1 ∧ Adv M ρ w M' ρ w1 ∧ okv ρ v := by
  unfold anext at h
  split at h
  case h_2 => cases h
  rename_i b
  obtain ⟨p, hp⟩ := hx
  cases isString with
  | true => simp only [if_true] at h; exact anextStr_sound hS hp h ty
  | false =>
    simp only [Bool.false_eq_true, if_false] at h
    split at h
    · rename_i hM
      cases h
      obtain ⟨o, ho, hb⟩ := hS.blk _ _ _ hM hp
      cases o <;> simp only [BlkOk] at hb
      rename_i m' _ _ _
      obtain ⟨rfl, _, rfl, hsh, hm⟩ := hb
      cases m' with
      | some _ => exact hm.elim
      | none =>
        have hptr : conc ρ (.ptr b 0) = .pointer (some ⟨p.B, 0, none⟩) := by simp [conc, concPtr, hp, hsh]
        refine ⟨w, ?_, hS, Adv.refl _ ρ w, trivial, trivial⟩
        simp only [Instr.next, hptr, Sem.run_bind, run_getObj ho (by simp), Result.andThen_ok, Sem.run_pure]
        simp [conc, concL]
    · rename_i hM
      exact anextMap_sound hS hp hM h ty
    · cases h

theorem eRange_sound (hT : TabOk P T) (hS : Sim P ρ M w) (hA : ActRel ρ a ca) {t : TypeId} {x : Operand} {r : AOut} (h : eRange T a M t x = some r) :
    ∃ v M' val w1, r = .val v M' ∧ (Instr.range t (ca.eval x)).run P w = .ok val w1 ∧ Appended P M ρ w val w1 v M' := by
  unfold eRange at h
  split at h
  case h_2 => cases h
  rename_i xv _ _ _ _ _ hx ht
  have hu := (hT.types _ _ ht).und
  simp only at hu
  have h1 := aeval_sound hA hx
  split at h
  · rename_i b
    split at h
    case h_2 => cases h
    rename_i es cl hM
    cases h
    obtain ⟨p, hp⟩ := h1.2
    obtain ⟨ES, hES, _⟩ := map_at hS hM hp
    refine ⟨_, _, .pointer (some ⟨w.heap.size, 0, none⟩), { w with heap := w.heap.push (.mapIter (some p.B) cl #[] cl) }, rfl, ?_, alloc_done hS (f := fun b => .ptr b 0) ⟨_, 0, 0, rfl, rfl, rfl, rfl, ?_⟩⟩
    · simp [Instr.range, run_und hu, h1.1, conc, concMap, hp, run_getObj hES]
    · intro ρ' b' he hb
      exact ⟨by simp [conc, concPtr, hb], ⟨_, hb⟩, rfl, rfl, rfl, rfl, p, he _ _ hp, rfl⟩
  · cases h
    refine ⟨_, _, .pointer (some ⟨w.heap.size, 0, none⟩), { w with heap := w.heap.push (.mapIter none 0 #[] 0) }, rfl, ?_, alloc_done hS (f := fun b => .ptr b 0) ⟨_, 0, 0, rfl, rfl, rfl, rfl, ?_⟩⟩
    · simp [Instr.range, run_und hu, h1.1, conc]
    · intro ρ' b' he hb
      exact ⟨by simp [conc, concPtr, hb], ⟨_, hb⟩, rfl, rfl, rfl, rfl, trivial⟩
  · cases h

theorem freeze_cells {B off n : Nat} {C : Array Value} {e : TypeId} {fr : Nat × Nat} (h : w.heap[B]? = some (.cells C e fr)) (hn : n ≠ 0) :
    w.freeze ⟨B, off, none⟩ n = { w with heap := w.heap.setIfInBounds B (.cells C e (if fr.1 = fr.2 then (off, off + n) else (min fr.1 off, max fr.2 (off + n)))) } := by
  obtain ⟨lo, hi⟩ := fr
  simp only [World.freeze, hn, if_false]
  rw [modify_eq _ _ _ _ h]
  simp

theorem eMark_sound (hT : TabOk P T) (hS : Sim P ρ M w) (hA : ActRel ρ a ca) {s d : TypeId} {x : Operand} {r : AOut} (h : eMark T a M s d x = some r) :
    ∃ v M' w1, r = .val v M' ∧ (convert s d (ca.eval x)).run P w = .ok (conc ρ v) w1 ∧ Sim P ρ M' w1 ∧ Adv M ρ w M' ρ w1 ∧ okv ρ v := by
  unfold eMark at h
  split at h
  case h_2 => cases h
  rename_i b o adv len cap e _ _ _ hx ht
  have hu := (hT.types _ _ ht).und
  simp only at hu
  have h1 := aeval_sound hA hx
  split at h
  case isFalse => cases h
  rename_i hc
  obtain ⟨rfl, hu8⟩ := hc
  have hue := isU8_und hT hu8
  split at h
  case h_2 => cases h
  rename_i c e' fz q hM
  split at h
  case isFalse => cases h
  rename_i hz
  subst hz
  cases h
  obtain ⟨p, hp, hrest⟩ := id h1.2
  obtain ⟨C, fr, hC, hb⟩ := blk_cells' hS hM hp
  obtain ⟨_, g2, g3, g4, g5, g6, g7, g8⟩ := id hb
  have hsh := (g7 rfl).1
  obtain ⟨A, k, hcs⟩ := conc_slice_len h1.2
  have hA' : A.block = p.B := by
    simp only [conc, concSlice, hp] at hcs
    split at hcs
    · injection hcs with hcs; injection hcs with hcs; rw [← hcs]
    · split at hcs <;> (injection hcs with hcs; injection hcs with hcs; rw [← hcs])
  refine ⟨_, _, w.freeze ⟨p.B, C.size, none⟩ 1, rfl, ?_, ?_, ?_, h1.2⟩
  · rw [h1.1, hcs]
    have hs : w.shape? p.B = some (e', C.size) := by simp [World.shape?, hC]
    simp only [convert, Sem.run_bind, run_und hu, Result.andThen_ok, run_und hue, beq_self_eq_true, markStringish, hA', run_shape, hs, run_freeze, Sem.run_pure]
  · rw [freeze_cells hC (by simp)]
    refine Sim.put hS hM hp rfl ⟨rfl, g2, g3, g4, ?_, ⟨by simp, ?_⟩, g7, g8⟩
    · intro i _ hi
      rcases g6.2 rfl hsh with h | h
      · rw [if_pos h]
        simp only
        omega
      · split
        · simp only; omega
        · simp only; omega
    · intro _ _
      refine .inr ?_
      rcases g6.2 rfl hsh with h | h
      · rw [if_pos h]
        simp only
        omega
      · split
        · simp only; omega
        · simp only; omega
  · rw [freeze_cells hC (by simp)]
    exact Adv.put (by exact Nat.le_refl _) hp rfl rfl rfl rfl

end Go.Tc

/- Soundness: strings over bytes, memory without noughts, methods; operations that write or call. -/
namespace Go.Tc

variable {P : Program} {T : Tab} {ρ : Rho} {M : AMem} {w : World} {a : AAct} {ca : Act}

theorem lies_bytes {e : TypeId} (hc : P.cellsOf e = 1) (count off n : Nat) (hn : off + n ≤ count) : liesAt P P.depth e count off e n = true := by
  have hd : P.depth = (2 * (P.types.size + Made.depth) + 1) + 1 := rfl
  rw [hd]
  simp only [liesAt, Bool.or_eq_true]
  left
  rw [hd]
  simp [rowAt, hc, hn, sameLayout, Nat.mod_one]

theorem run_coreBytes : ∀ (ns : List Int) (b : Addr) (acc : ByteArray), (∀ j x, ns[j]? = some x → w.cell? (b.add j) = some (.int .u8 x)) →
    (loadBytes b acc ns.length).run P w = .ok (ns.foldl (fun r n => r.push (UInt8.ofNat n.toNat)) acc) w := by
  intro ns
  induction ns with
  | nil => intro b acc _; simp [loadBytes]
  | cons n r ih =>
    intro b acc h
    have h0 : w.cell? b = some (.int .u8 n) := by
      have := h 0 n rfl
      simpa [Addr.add] using this
    simp only [List.length_cons, loadBytes, Sem.run_bind, run_load, h0, Result.andThen_ok, List.foldl_cons]
    have e : (n.toNat.toUInt8 : UInt8) = UInt8.ofNat n.toNat := rfl
    rw [e]
    refine ih (b.add 1) _ fun j x hj => ?_
    have := h (j + 1) x (by simpa using hj)
    have e2 : (b.add 1).add j = b.add (j + 1) := by
      unfold Addr.add
      by_cases hj0 : j = 0
      · simp [hj0]
      · simp [hj0, Nat.add_comm, Nat.add_left_comm]
    rw [e2]; exact this

theorem us_match {m : Array Value → Type} (p : Option Addr) (x : Value) (f : (p : Option Addr) → (x : Value) → m #[.pointer p, x]) (g : (a : Array Value) → m a) :
    Builtin.unsafeString_.match_3 m #[.pointer p, x] f g = f p x := rfl

theorem unsafeString_zero (ts : Array TypeId) (ty pt : TypeId) (ht : ts[0]? = some pt) (p : Option Addr) (k : IntKind) :
    (Builtin.unsafeString_ ts ty #[.pointer p, .int k ((0 : Nat) : Int)]).run P w = .ok (.string .empty) w := by
  have hmax : IntKind.i64.max = 9223372036854775807 := rfl
  delta Builtin.unsafeString_
  rw [us_match]
  cases p <;> simp [asInt, asIntOf, ht, hmax]

theorem unsafeString_some (ts : Array TypeId) (ty pt u : TypeId) (ht : ts[0]? = some pt) (a : Addr) (k : IntKind) (n : Nat) (h0 : n ≠ 0) (hn : n < 2 ^ 47) (he : (elemOf pt).run P w = .ok u w)
    (hv : (variablesAt a u n).run P w = .ok true w) {s : ByteArray} (hl : (loadBytes a .empty n).run P w = .ok s w) :
    (Builtin.unsafeString_ ts ty #[.pointer (some a), .int k (n : Int)]).run P w = .ok (.string s) (w.freeze a n) := by
  have hmax : IntKind.i64.max = 9223372036854775807 := rfl
  have h1 : ¬ ((n : Int) < 0) := by omega
  have h2 : ¬ ((n : Int) > 9223372036854775807) := by omega
  have h3 : ¬ ((n : Int) = 0) := by omega
  delta Builtin.unsafeString_
  rw [us_match]
  simp only [asInt, asIntOf, Sem.run_bind, Sem.run_pure, Result.andThen_ok, ht, hmax, if_neg h1, if_neg h2, if_neg h3, Int.toNat_natCast, he, hv, if_true, hl, run_freeze]

theorem unsafeString_sound (hT : TabOk P T) (hS : Sim P ρ M w) {ts : Array TypeId} {pt : TypeId} (ht : ts[0]? = some pt) {p n : AV} (hp : okv ρ p) {v : AV} {M' : AMem}
    (h : aunsafeString T M pt p n = some (v, M')) (ty : TypeId) :
    ∃ w1, (Builtin.unsafeString_ ts ty #[conc ρ p, conc ρ n]).run P w = .ok (conc ρ v) w1 ∧ Sim P ρ M' w1 ∧ Adv M ρ w M' ρ w1 ∧ okv ρ v := by
  unfold aunsafeString at h
  split at h
  case h_2 => cases h
  rename_i n0 n hn
  obtain ⟨k, rfl⟩ := asNat_int hn
  split at h
  · cases h
  rename_i hlt
  have hcn : conc ρ (.int k n) = .int k n := by simp [conc]
  rw [hcn]
  split at h
  · split at h
    · rename_i h0
      subst h0
      cases h
      refine ⟨w, ?_, hS, Adv.refl _ ρ w, trivial⟩
      have : conc ρ .nilPtr = .pointer none := by simp [conc]
      rw [this]
      exact (unsafeString_zero ts ty pt ht none k).trans (by simp [conc])
    · cases h
  · rename_i b o
    obtain ⟨q, hq⟩ := hp
    have hcp : conc ρ (.ptr b o) = .pointer (some ⟨q.B, q.sh + o, none⟩) := by simp [conc, concPtr, hq]
    rw [hcp]
    split at h
    · rename_i h0
      subst h0
      cases h
      exact ⟨w, (unsafeString_zero ts ty pt ht _ k).trans (by simp [conc]), hS, Adv.refl _ ρ w, trivial⟩
    · rename_i h0
      split at h
      case h_2 => cases h
      rename_i u _ _ _ c e fz ex hti hM
      have hu := (hT.types _ _ hti).und
      simp only at hu
      split at h
      case isFalse => cases h
      rename_i hc
      simp only [Bool.and_eq_true, beq_iff_eq] at hc
      obtain ⟨hu8, rfl⟩ := hc
      split at h
      case h_2 => cases h
      rename_i l htk
      split at h
      case h_2 => cases h
      rename_i bs hbs
      cases h
      obtain ⟨ns, rfl, rfl⟩ := bytesOfCells_some hbs
      obtain ⟨j, hj, hj1⟩ := u8_size hT hu8
      obtain ⟨C, fr, hC, hb⟩ := blk_cells' hS hM hq
      obtain ⟨_, g2, g3, g4, g5, g6, g7, g8⟩ := id hb
      obtain ⟨hle, hlen, hget⟩ := takeCells_some htk
      simp only [List.length_map] at hlen
      obtain ⟨fi, hfi, hfs⟩ := info_size hT hj
      have hcells : P.cellsOf u = 1 := by simp [Program.cellsOf, hfi, hfs, hj1]
      have hlies := lies_bytes (P := P) hcells q.S (q.sh + o) n (by omega)
      have hs : w.shape? q.B = some (u, C.size) := by simp [World.shape?, hC]
      have hbytes := run_coreBytes (P := P) (w := w) ns ⟨q.B, q.sh + o, none⟩ .empty (by
        intro i x hi
        rw [Addr.add_mk]
        have hcv := hget i (.int .u8 x) (by rw [List.getElem?_map, hi]; rfl)
        have := (g4 (o + i) _ hcv).1
        rw [show q.sh + (o + i) = q.sh + o + i from by omega] at this
        simp only [World.cell?, hC]
        simpa [conc] using this)
      rw [hlen] at hbytes
      refine ⟨w.freeze ⟨q.B, q.sh + o, none⟩ n, ?_, ?_, ?_, trivial⟩
      · have he : (elemOf pt).run P w = .ok u w := by simp [elemOf, run_und hu]
        have hv : (variablesAt ⟨q.B, q.sh + o, none⟩ u n).run P w = .ok true w := by
          simp [variablesAt, hs, hcells, g2, hlies]
        rw [unsafeString_some ts ty pt u ht _ k n h0 (by omega) he hv hbytes]
        congr 1
        simp only [conc]
        congr 1
        rw [foldl_push]
        rfl
      · rw [freeze_cells hC h0]
        refine Sim.put hS hM hq rfl ⟨rfl, g2, g3, g4, ?_, ⟨fun _ => ?_, ?_⟩, g7, g8⟩
        · intro i hi1 hi2
          have hm1 : fz ≤ Nat.max fz (o + n) := Nat.le_max_left _ _
          have hm2 : o + n ≤ Nat.max fz (o + n) := Nat.le_max_right _ _
          have := g5 i (by omega) hi2
          split
          · simp only; omega
          · simp only
            rcases g6.1 rfl with h | h
            · omega
            · omega
        · have hm1 : fz ≤ Nat.max fz (o + n) := Nat.le_max_left _ _
          have hm2 : o + n ≤ Nat.max fz (o + n) := Nat.le_max_right _ _
          right
          split
          · simp only; omega
          · simp only
            rcases g6.1 rfl with h | h
            · omega
            · omega
        · intro hz
          have hm2 : o + n ≤ Nat.max fz (o + n) := Nat.le_max_right _ _
          omega
      · rw [freeze_cells hC h0]
        exact Adv.put (by exact Nat.le_refl _) hq rfl rfl rfl rfl
  · cases h

/-! ### memory without noughts -/

theorem digits_size : ∀ (n t : Nat) (acc : Array Value), (Extern.BytealgMakeNoZero.digits n t acc).size = acc.size + n := by
  intro n
  induction n with
  | zero => intro t acc; rfl
  | succ n ih => intro t acc; simp only [Extern.BytealgMakeNoZero.digits]; rw [ih]; simp; omega

theorem nz_match {m : Array Value → Type} (n : Int) (f : (n : Int) → m #[.int .i64 n]) (g : (a : Array Value) → m a) : Extern.BytealgMakeNoZero.makeNoZero.match_3 m #[.int .i64 n] f g = f n := rfl

theorem noZero_def (ps rs : Array TypeId) (t e : TypeId) (hr : rs[0]? = some t) (hu : P.underlying t = some (.slice e)) (n : Nat) (hn : n ≤ 2 ^ 30) :
    ∃ (cap bytes : Nat) (w1 : World), w1.heap = w.heap ∧ w1.os = w.os ∧ w1.tape = w.tape ∧ w1.output = w.output ∧ n ≤ cap ∧
    (Extern.BytealgMakeNoZero.makeNoZero ps rs #[.int .i64 n]).run P w = .ok (.slice (some ⟨w.heap.size, 0, none⟩) n cap) { w1 with heap := w.heap.push (.cells (Extern.BytealgMakeNoZero.digits cap bytes #[]) e) } := by
  have h1 : (decide ((n : Int) < 0) || decide ((n : Int) > 2 ^ 48)) = false := by
    simp only [Bool.or_eq_false_iff, decide_eq_false_iff_not]
    omega
  have f1 : (Question.appendCap n 0 e).forced = false := rfl
  have f2 : (Question.extern "internal/bytealg.MakeNoZero.bytes" 0).forced = false := rfl
  refine ⟨(Question.appendCap n 0 e).cut (w.tape w.drawn (Question.appendCap n 0 e)),
    (Question.extern "internal/bytealg.MakeNoZero.bytes" 0).cut (w.tape (w.drawn + 1) (Question.extern "internal/bytealg.MakeNoZero.bytes" 0)), { w with drawn := w.drawn + 1 + 1 }, rfl, rfl, rfl, rfl, cap_cut _ _ _, ?_⟩
  delta Extern.BytealgMakeNoZero.makeNoZero
  rw [nz_match]
  simp only [hr, Sem.run_bind, run_und hu, Result.andThen_ok, h1, Bool.false_eq_true, if_false, Int.toNat_natCast, run_choose, f1, f2, run_askRoom, newRow_run, Sem.run_pure]

theorem eNoZero_sound (hT : TabOk P T) (hS : Sim P ρ M w) {g : FuncId} {fn : Func} (he : T.ext.get g = some .makeNoZero) (hg : T.funcs.get g = some fn) {vs : List AV} {r : AOut}
    (h : eNoZero T M fn vs = some r) :
    ∃ v M' val w1, r = .val v M' ∧ (callFunc g (concL ρ vs).toArray).run P w = .ok (.value val) w1 ∧ Appended P M ρ w val w1 v M' := by
  obtain ⟨fn', hfn, hb, hx⟩ := hT.ext g _ he
  rw [hg] at hfn
  cases hfn
  obtain ⟨hf, hn⟩ := hT.funcs g fn hg
  unfold eNoZero at h
  split at h
  case h_2 => cases h
  rename_i n t hrt
  split at h
  case h_2 => cases h
  rename_i e _ _ _ ht
  have hu := (hT.types _ _ ht).und
  simp only at hu
  split at h
  case isFalse => cases h
  rename_i hc
  simp only [Bool.and_eq_true, decide_eq_true_eq] at hc
  obtain ⟨⟨hu8, h0⟩, h30⟩ := hc
  cases h
  obtain ⟨m, rfl⟩ := Int.eq_ofNat_of_zero_le h0
  obtain ⟨j, hj, hj1⟩ := u8_size hT hu8
  have hr0 : fn.resultTypes[0]? = some t := by rw [← Array.getElem?_toList, hrt]; rfl
  obtain ⟨cap, bytes, w1, c1, c2, c3, c4, c5, hrun⟩ := noZero_def (P := P) (w := w) fn.params fn.resultTypes t e hr0 hu m (by omega)
  refine ⟨_, _, .slice (some ⟨w.heap.size, 0, none⟩) m cap, { w1 with heap := w.heap.push (.cells (Extern.BytealgMakeNoZero.digits cap bytes #[]) e) }, rfl, ?_,
    alloc_done hS (k := .cells [] e 0 true false) (f := fun b => .slice b 0 0 m none) ⟨_, cap, 1, rfl, c2, c3, c4, ?_⟩⟩
  · rw [callExt hf hn hb hx.1 hx.2]
    simp only [concL, conc]
    exact run_v hrun
  · intro ρ' b he' hb'
    refine ⟨?_, ⟨_, hb', by simp, ?_, by simp, by simp⟩, rfl, ?_, by simp, by simp, by simp, by simp, by simp, ?_⟩
    · rw [conc_slice0 hb']; simp
    · show 0 + 0 + (0 + m) * 1 ≤ cap
      omega
    · show (Extern.BytealgMakeNoZero.digits cap bytes #[]).size = cap
      rw [digits_size]; simp
    · obtain ⟨f, hf', hs⟩ := info_size hT hj
      exact ⟨f, hf', by rw [hs, hj1]⟩

/-! ### methods -/

theorem nilChk_some (ts : Array TypeId) (t : TypeId) (x : Addr) (a b : ByteArray) : Builtin.ssaWrapNilChk_ ts t #[.pointer (some x), .string a, .string b] = pure (.pointer (some x)) := rfl

theorem made_pos (P : Program) : ∃ n, P.types.size + Made.depth = n + 1 := by
  have : 0 < Made.depth := by decide
  exact ⟨P.types.size + (Made.depth - 1), by omega⟩

theorem amethod_sound (hT : TabOk P T) (hS : Sim P ρ M w) {t : TypeId} {v : AV} (hv : okv ρ v) {name : String} {g : FuncId} {x : AV} (h : amethod P T M t v name = some (g, x)) (n : Nat) :
    (method (n + 1) t (conc ρ v) name).run P w = .ok (g, conc ρ x) w ∧ okv ρ x := by
  unfold amethod at h
  split at h
  case h_2 => cases h
  rename_i info hinfo
  split at h
  case h_2 => cases h
  rename_i m hm
  split at h
  case h_2 => cases h
  rename_i hpath
  split at h
  case h_2 => cases h
  rename_i f pr i hfn hi
  have hti := hT.types _ _ hi
  have hri : (typeInfo t).run P w = .ok info w := by simp [typeInfo, hinfo]
  have hemp : m.path.isEmpty = true := by rw [← Array.isEmpty_toList, hpath]; rfl
  have hbeg : (method (n + 1) t (conc ρ v) name).run P w = ((do
      pure (f, ← receiverAt t (.val (conc ρ v)) pr (some ((name.splitOn ".").getLastD name))) : Sem (FuncId × Value))).run P w := by
    simp only [method, Sem.run_bind, hri, Result.andThen_ok, hm, hpath, follow, Sem.run_pure, hfn, hemp, if_true]
  rw [hbeg]
  split at h
  · rename_i e hd
    have hud := hti.und
    rw [hd] at hud
    split at h
    · rename_i hpr
      cases h
      cases pr
      · cases hpr
      · refine ⟨?_, hv⟩
        simp only [Sem.run_bind, receiverAt, run_und hud, Result.andThen_ok, Place.get, Sem.run_pure]
    · rename_i hpr
      cases pr
      case true => exact absurd rfl hpr
      split at h
      case h_2 => cases h
      rename_i b o
      cases hl : aload T M e b o with
      | none => simp [hl] at h
      | some u =>
        simp [hl] at h
        obtain ⟨rfl, rfl⟩ := h
        obtain ⟨p, hp⟩ := hv
        have hld := aload_sound hT hS hl hp
        have hcp : conc ρ (.ptr b o) = .pointer (some ⟨p.B, p.sh + o, none⟩) := by simp [conc, concPtr, hp]
        refine ⟨?_, hld.2⟩
        have hchk : ∀ s, (Builtin.ssaWrapNilChk_ #[t] t #[.pointer (some ⟨p.B, p.sh + o, none⟩), strVal "", strVal s]).run P w = .ok (.pointer (some ⟨p.B, p.sh + o, none⟩)) w := fun s => by rw [strVal, strVal, nilChk_some]; rfl
        simp only [Sem.run_bind, receiverAt, run_und hud, Result.andThen_ok, Place.get, Sem.run_pure, hcp, hchk, asAddr, hld.1]
  · rename_i hd
    split at h
    · cases h
    · rename_i hpr
      cases h
      refine ⟨?_, hv⟩
      have hud := hti.und
      have hpr' : pr = false := by simpa using hpr
      subst hpr'
      cases hdd : i.desc <;> rw [hdd] at hud <;> first
        | (exact absurd hdd (hd _))
        | (simp only [Sem.run_bind, receiverAt, run_und hud, Result.andThen_ok, Place.get, Sem.run_pure])

end Go.Tc

/- Soundness: every operation. -/
namespace Go.Tc

variable {P : Program} {T : Tab} {ρ : Rho} {M : AMem} {w : World} {a : AAct} {ca : Act}

noncomputable def concPan (ρ : Rho) (x : APan) : PanicEntry := { v := conc ρ x.v, recovered := x.recovered }

noncomputable def EndIs (ρ : Rho) : AEnd → Ending → Prop
  | .returned v, e => e = .returned (conc ρ v) ∧ okv ρ v
  | .panicked ch, e => e = .panicked (ch.map (concPan ρ)) ∧ ∀ x ∈ ch, okv ρ x.v

/-- What a call's end must be. -/
noncomputable def Ends (P : Program) (M : AMem) (ρ : Rho) (w : World) (e : AEnd) (M' : AMem) (e' : Ending) (w' : World) : Prop :=
  ∃ ρ', Adv M ρ w M' ρ' w' ∧ Sim P ρ' M' w' ∧ EndIs ρ' e e'

structure CallOk (P : Program) (call : CallF) : Prop where
  enter : ∀ f vs M r, call f vs M = some r → ∃ fn c, P.funcs[f]? = some fn ∧ fn.body = some c ∧ (fn.name == "runtime.NumGoroutine") = false
  calls : ∀ f vs M e M', call f vs M = some (e, M') → ∀ ρ w, okL ρ vs → Sim P ρ M w → Calls P f (concL ρ vs).toArray w (Ends P M ρ w e M')

theorem callFunc_enter {f : FuncId} {fn : Func} {c : Code} (args : Array Value) (h1 : P.funcs[f]? = some fn) (h2 : fn.body = some c) (h3 : (fn.name == "runtime.NumGoroutine") = false) :
    (callFunc f args).run P w = .ok (.enter f args) w := by
  have hn' : ¬ fn.name = "runtime.NumGoroutine" := by simpa using h3
  simp [callFunc, h1, hn', h2]

/-- What the model may go on with after an operation. -/
noncomputable def OutOk (P : Program) (M : AMem) (ρ : Rho) (w : World) (ca : Act) (dst : Option Tmp) (next : Act → World → Prop) (Q : Exit → Act → World → Prop) : AOut → Prop
  | .val v M' => ∀ ρ' w', Adv M ρ w M' ρ' w' → Sim P ρ' M' w' → okv ρ' v → next (ca.put dst (conc ρ' v)) w'
  | .skip M' => ∀ ρ' w', Adv M ρ w M' ρ' w' → Sim P ρ' M' w' → next (ca.put dst undef) w'
  | .defer d => okL ρ d.captured → okL ρ d.args → next ({ ca with defers := concDef ρ d :: ca.defers }.put dst undef) w
  | .panic ch M' => ∀ ρ' w', Adv M ρ w M' ρ' w' → Sim P ρ' M' w' → (∀ x ∈ ch, okv ρ' x.v) → Q (.panic (ch.map (concPan ρ'))) ca w'

variable {next : Act → World → Prop} {Q : Exit → Act → World → Prop} {o : Oper} {out : AOut}

/-- The runs that an operation may come to. -/
inductive RunIs (P : Program) (M : AMem) (ρ : Rho) (w : World) (ca : Act) : AOut → Result Next → Prop
  | val {v M' ρ' w'} : Adv M ρ w M' ρ' w' → Sim P ρ' M' w' → okv ρ' v → RunIs P M ρ w ca (.val v M') (.ok (.value (conc ρ' v)) w')
  | skip {M' ρ' w'} : Adv M ρ w M' ρ' w' → Sim P ρ' M' w' → RunIs P M ρ w ca (.skip M') (.ok .skip w')
  | defer {d} : okL ρ d.captured → okL ρ d.args → RunIs P M ρ w ca (.defer d) (.ok (.defer (concDef ρ d)) w)
  | panic {v M' ρ' w'} : Adv M ρ w M' ρ' w' → Sim P ρ' M' w' → okv ρ' v → RunIs P M ρ w ca (.panic [{ v, recovered := false }] M') (.halt (.panic (conc ρ' v)) w')
  | calls {f args e M'} : Calls P f args w (Ends P M ρ w e M') → RunIs P M ρ w ca (match e with | .returned v => .val v M' | .panicked ch => .panic ch M') (.ok (.enter f args) w)

theorem RunIs.upon {r : Result Next} (h : RunIs P M ρ w ca out r) (hk : OutOk P M ρ w ca o.dst next Q out) : o.upon P ca next Q r := by
  cases h with
  | val h1 h2 h3 => exact hk _ _ h1 h2 h3
  | skip h1 h2 => exact hk _ _ h1 h2
  | defer h1 h2 => exact hk h1 h2
  | panic h1 h2 h3 =>
    have := hk _ _ h1 h2 (by intro x hx; simp only [List.mem_singleton] at hx; subst hx; exact h3)
    exact this
  | @calls f args e M' h =>
    rw [Oper.upon_enter]
    refine Calls.mono h fun e' w' he => ?_
    obtain ⟨ρ', h1, h2, h3⟩ := he
    cases e with
    | returned v =>
      obtain ⟨rfl, h4⟩ := h3
      exact hk _ _ h1 h2 h4
    | panicked ch =>
      obtain ⟨rfl, h4⟩ := h3
      exact hk _ _ h1 h2 h4

theorem RunIs.of_appended {val : Value} {w1 : World} {v : AV} {M' : AMem} (h : Appended P M ρ w val w1 v M') : RunIs P M ρ w ca (.val v M') (.ok (.value val) w1) := by
  obtain ⟨ρ', h1, h2, rfl, h4⟩ := h
  exact .val h1 h2 h4

theorem run_u {s : Sem Unit} {w' : World} (h : s.run P w = .ok () w') : ((do s; pure .skip) : Sem Next).run P w = .ok .skip w' := by
  simp [h]

theorem store_run (hT : TabOk P T) (hS : Sim P ρ M w) (hA : ActRel ρ a ca) {t : TypeId} {x v : Operand} (h : eStore T a M t x v = some out) :
    RunIs P M ρ w ca out (((do Instr.storeAt t (ca.eval x) (ca.eval v); pure .skip) : Sem Next).run P w) := by
  unfold eStore at h
  split at h
  case h_2 => cases h
  rename_i b o u hx hv
  have h1 := aeval_sound hA hx
  have h2 := aeval_sound hA hv
  cases hst : astore T M t b o u with
  | none => simp [hst] at h
  | some M' =>
    simp [hst] at h
    subst h
    obtain ⟨p, hp⟩ := h1.2
    obtain ⟨w1, r1, r2, r3⟩ := astore_sound hT hS h2.2 hst hp
    rw [run_u (w' := w1)]
    · exact .skip r3 r2
    · rw [h1.1, h2.1]
      simp only [conc, concPtr, hp, Instr.storeAt, Instr.sureAddr, Sem.run_bind, Sem.run_pure, Result.andThen_ok, r1]

theorem update_run (hT : TabOk P T) (hS : Sim P ρ M w) (hA : ActRel ρ a ca) {t : TypeId} {m k v : Operand} (h : eUpdate P T a M t m k v = some out) :
    RunIs P M ρ w ca out (((do Instr.mapUpdate t (ca.eval m) (ca.eval k) (ca.eval v); pure .skip) : Sem Next).run P w) := by
  unfold eUpdate at h
  split at h
  case h_2 => cases h
  rename_i mv kv vv hm hk hv
  have h1 := aeval_sound hA hm
  have h2 := aeval_sound hA hk
  have h3 := aeval_sound hA hv
  cases hst : amapUpdate P T M t mv kv vv with
  | none => simp [hst] at h
  | some M' =>
    simp [hst] at h
    subst h
    obtain ⟨w1, r1, r2, r3⟩ := mapUpdate_sound hT hS h1.2 h2.2 h3.2 hst
    rw [run_u (w' := w1)]
    · exact .skip r3 r2
    · rw [h1.1, h2.1, h3.1, r1]

theorem next_run (hS : Sim P ρ M w) (hA : ActRel ρ a ca) {x : Operand} {isString : Bool} (h : eNext a M x isString = some out) (ty : TypeId) :
    RunIs P M ρ w ca out (((do pure (.value (← Instr.next (ca.eval x) isString ty))) : Sem Next).run P w) := by
  unfold eNext at h
  split at h
  case h_2 => cases h
  rename_i v hx
  have h1 := aeval_sound hA hx
  cases hst : anext M v isString with
  | none => simp [hst] at h
  | some r =>
    simp [hst] at h
    subst h
    obtain ⟨w1, r1, r2, r3, r4⟩ := anext_sound hS h1.2 hst ty
    rw [h1.1, run_v r1]
    exact .val r3 r2 r4

theorem builtin_append (ts : Array TypeId) (ty : TypeId) (cs : Array Bool) (args : Array Value) : builtin .append ts ty cs args = (do pure (.value (← Builtin.append_ ts ty args))) := rfl
theorem builtin_copy (ts : Array TypeId) (ty : TypeId) (cs : Array Bool) (args : Array Value) : builtin .copy ts ty cs args = (do pure (.value (← Builtin.copy_ ts ty args))) := rfl
theorem builtin_delete (ts : Array TypeId) (ty : TypeId) (cs : Array Bool) (args : Array Value) : builtin .delete ts ty cs args = (do pure (.value (← Builtin.delete_ ts ty args))) := rfl
theorem builtin_clear (ts : Array TypeId) (ty : TypeId) (cs : Array Bool) (args : Array Value) : builtin .clear ts ty cs args = (do pure (.value (← Builtin.clear_ ts ty args))) := rfl
theorem builtin_string (ts : Array TypeId) (ty : TypeId) (cs : Array Bool) (args : Array Value) : builtin .unsafeString ts ty cs args = (do pure (.value (← Builtin.unsafeString_ ts ty args))) := rfl

theorem toList_two {ts : Array TypeId} {t x : TypeId} (h : ts.toList = [t, x]) : ts[0]? = some t ∧ ts[1]? = some x := by
  simp [← Array.getElem?_toList, h]

theorem toList_head {ts : Array TypeId} {t : TypeId} {r : List TypeId} (h : ts.toList = t :: r) : ts[0]? = some t := by
  simp [← Array.getElem?_toList, h]

theorem builtin_run (hT : TabOk P T) (hS : Sim P ρ M w) {b : Builtin} {ts : Array TypeId} {vs : List AV} (hvs : okL ρ vs) (h : eBuiltin P T M b ts.toList vs = some out) (ty : TypeId) (cs : Array Bool) :
    RunIs P M ρ w ca out ((builtin b ts ty cs (concL ρ vs).toArray).run P w) := by
  unfold eBuiltin at h
  split at h
  · split at h
    case h_2 => cases h
    rename_i s x t xt hts
    obtain ⟨t0, t1⟩ := toList_two hts
    cases hst : aappend T M t xt s x with
    | none => simp [hst] at h
    | some r =>
      simp [hst] at h
      subst h
      obtain ⟨val, w1, r1, r2⟩ := aappend_sound hT hS t0 t1 hvs.1 hvs.2.1 hst ty
      simp only [concL, builtin_append]
      rw [run_v r1]
      exact .of_appended r2
  · split at h
    case h_2 => cases h
    rename_i d s t _ hts
    have t0 := toList_head hts
    cases hst : acopy T M t d s with
    | none => simp [hst] at h
    | some r =>
      simp [hst] at h
      subst h
      obtain ⟨val, w1, r1, r2⟩ := acopy_sound hT hS t0 hvs.1 hvs.2.1 hst ty
      simp only [concL, builtin_copy]
      rw [run_v r1]
      exact .of_appended r2
  · split at h
    case h_2 => cases h
    rename_i m k t _ hts
    have t0 := toList_head hts
    cases hst : adelete P T M t m k with
    | none => simp [hst] at h
    | some r =>
      simp [hst] at h
      subst h
      obtain ⟨w1, r1, r2, r3⟩ := delete_sound hT hS t0 hvs.1 hst ty
      simp only [concL, builtin_delete]
      rw [run_v r1]
      exact .val (v := .tuple []) r3 r2 trivial
  · split at h
    case h_2 => cases h
    rename_i m t _ hts
    have t0 := toList_head hts
    cases hst : aclear T M t m with
    | none => simp [hst] at h
    | some r =>
      simp [hst] at h
      subst h
      obtain ⟨w1, r1, r2, r3⟩ := clear_sound hT hS t0 hvs.1 hst ty
      simp only [concL, builtin_clear]
      rw [run_v r1]
      exact .val (v := .tuple []) r3 r2 trivial
  · split at h
    case h_2 => cases h
    rename_i p n pt _ hts
    have t0 := toList_head hts
    cases hst : aunsafeString T M pt p n with
    | none => simp [hst] at h
    | some r =>
      simp [hst] at h
      subst h
      obtain ⟨w1, r1, r2, r3, r4⟩ := unsafeString_sound hT hS t0 hvs.1 hst ty
      simp only [concL, builtin_string]
      rw [run_v r1]
      exact .val r3 r2 r4
  · cases h

theorem ofEnd_run {e : Option (AEnd × AMem)} (h : ofEnd e = some out) : ∃ en M', e = some (en, M') ∧ out = (match en with | .returned v => .val v M' | .panicked ch => .panic ch M') := by
  unfold ofEnd at h
  split at h <;> simp only [Option.some.injEq, reduceCtorEq] at h
  · exact ⟨_, _, rfl, h.symm⟩
  · exact ⟨_, _, rfl, h.symm⟩

theorem enter_run {call : CallF} (hC : CallOk P call) (hS : Sim P ρ M w) {g : FuncId} {vs : List AV} (hvs : okL ρ vs) (h : ofEnd (call g vs M) = some out) {args : Array Value} (ha : args = (concL ρ vs).toArray) :
    RunIs P M ρ w ca out ((callFunc g args).run P w) := by
  obtain ⟨en, M', he, rfl⟩ := ofEnd_run h
  obtain ⟨fn, c, h1, h2, h3⟩ := hC.enter _ _ _ _ he
  rw [callFunc_enter _ h1 h2 h3, ha]
  exact .calls (hC.calls _ _ _ _ _ he ρ w hvs hS)

theorem func_run {call : CallF} (hT : TabOk P T) (hC : CallOk P call) (hS : Sim P ρ M w) {g : FuncId} {vs : List AV} (hvs : okL ρ vs) (h : eFunc T call M g vs = some out) {args : Array Value}
    (ha : args = (concL ρ vs).toArray) : RunIs P M ρ w ca out ((callFunc g args).run P w) := by
  unfold eFunc at h
  split at h
  · exact enter_run hC hS hvs h ha
  · rename_i he
    split at h
    case h_2 => cases h
    rename_i fn hfn
    obtain ⟨v, M', val, w1, rfl, r1, r2⟩ := eNoZero_sound hT hS he hfn h
    rw [ha, r1]
    exact .of_appended r2
  · cases h

theorem okL_append {l r : List AV} (h1 : okL ρ l) (h2 : okL ρ r) : okL ρ (l ++ r) := by
  rw [okL_iff] at *
  intro v hv
  rcases List.mem_append.1 hv with h | h
  · exact h1 v h
  · exact h2 v h

theorem call_run {call : CallF} (hT : TabOk P T) (hC : CallOk P call) (hS : Sim P ρ M w) (hA : ActRel ρ a ca) {c : Call} (h : eCall P T call a M c = some out) (ty : TypeId) :
    RunIs P M ρ w ca out ((do let d ← resolve ca.eval c ty; invoke d.target d.args : Sem Next).run P w) := by
  have hargs : ∀ {vs : List AV}, aevalL a c.args.toList = some vs → c.args.map ca.eval = (concL ρ vs).toArray ∧ okL ρ vs := by
    intro vs hvs
    have h1 := aevalL_sound hA hvs
    exact ⟨by apply Array.toList_inj.1; simp [h1.1], h1.2⟩
  unfold eCall at h
  split at h
  · rename_i b hc
    split at h
    case h_2 => cases h
    rename_i vs hvs
    obtain ⟨g1, g2⟩ := hargs hvs
    simp only [resolve, hc, g1, Sem.run_bind, Sem.run_pure, Result.andThen_ok, invoke]
    exact builtin_run hT hS g2 h ty _
  · rename_i f hc
    split at h
    case h_2 => cases h
    rename_i g first captured hf
    split at h
    case h_2 => cases h
    rename_i vs hvs
    obtain ⟨g1, g2⟩ := hargs hvs
    have hfv := aeval_sound hA hf
    simp only [resolve, hc, g1, hfv.1, conc, Deferred.ofValue, Sem.run_bind, Sem.run_pure, Result.andThen_ok, invoke]
    refine func_run hT hC hS (okL_append (okL_append hfv.2.1 g2) hfv.2.2) h ?_
    simp [concL_append]
  · rename_i r name hc
    split at h
    case h_2 => cases h
    rename_i t v vs hr hvs
    obtain ⟨g1, g2⟩ := hargs hvs
    have hrv := aeval_sound hA hr
    split at h
    case h_2 => cases h
    rename_i g recv hm
    split at h
    · cases h
    obtain ⟨n, hn⟩ := made_pos P
    obtain ⟨m1, m2⟩ := amethod_sound (v := v) hT hS hrv.2 hm n
    have hz : ∀ x : Value, (#[x] ++ (concL ρ vs).toArray)[0]? = some x := fun x => by simp
    have hx : ∀ x : Value, (#[x] ++ (concL ρ vs).toArray).extract 1 (#[x] ++ (concL ρ vs).toArray).size = (concL ρ vs).toArray := by
      intro x
      apply Array.toList_inj.1
      simp
    simp only [resolve, hc, g1, Sem.run_bind, Sem.run_pure, Result.andThen_ok, invoke, hz, hx, callMethod, hrv.1, conc, run_program, hn, m1]
    refine enter_run hC hS (vs := recv :: vs) ⟨m2, g2⟩ h ?_
    simp [concL]

theorem defer_run (hA : ActRel ρ a ca) {c : Call} (h : eDefer a c = some out) (ty : TypeId) :
    RunIs P M ρ w ca out ((do pure (.defer (← resolve ca.eval c ty)) : Sem Next).run P w) := by
  unfold eDefer at h
  split at h
  case h_2 => cases h
  rename_i f hc
  split at h
  case h_2 => cases h
  rename_i g first captured vs hf hvs
  cases h
  have h1 := aevalL_sound hA hvs
  have g1 : c.args.map ca.eval = (concL ρ vs).toArray := by apply Array.toList_inj.1; simp [h1.1]
  have hfv := aeval_sound hA hf
  simp only [resolve, hc, g1, hfv.1, conc, Deferred.ofValue, Sem.run_bind, Sem.run_pure, Result.andThen_ok]
  have : ({ target := .fn (.func g) (concL ρ captured).toArray, args := (concL ρ first).toArray ++ (concL ρ vs).toArray } : Deferred) = concDef ρ { fn := .func g, captured, args := first ++ vs } := by
    simp [concDef, concL_append]
  rw [this]
  exact .defer hfv.2.2 (okL_append hfv.2.1 h1.2)

theorem panic_run (hS : Sim P ρ M w) (hA : ActRel ρ a ca) {x : Operand} {ch : List APan} {N : AMem} (h : ePanic a x = some (.panic ch N)) :
    RunIs P M ρ w ca (.panic ch M) ((do pure (.value (← Instr.panic (ca.eval x))) : Sem Next).run P w) := by
  unfold ePanic at h
  split at h
  case h_2 => cases h
  rename_i t v hx
  have h1 := aeval_sound hA hx
  cases h
  rw [h1.1]
  have : ((do pure (.value (← Instr.panic (conc ρ (.iface t v)))) : Sem Next).run P w) = .halt (.panic (conc ρ (.iface t v))) w := by
    simp [conc, Instr.panic, goPanic, Sem.run]
  rw [this]
  exact .panic (Adv.refl _ ρ w) hS h1.2

theorem aeff_run {call : CallF} (hT : TabOk P T) (hC : CallOk P call) (hS : Sim P ρ M w) (hA : ActRel ρ a ca) (h : aeff P T call a M o.op = some out) :
    RunIs P M ρ w ca out ((execOp ca.eval o).run P w) := by
  unfold aeff at h
  unfold execOp
  split at h <;> rename_i ho <;> (try rw [ho]) <;> try (simp only)
  · exact store_run hT hS hA h
  · exact update_run hT hS hA h
  · exact update_run hT hS hA h
  · exact next_run hS hA h _
  · obtain ⟨v, M', val, w1, rfl, r1, r2⟩ := eRange_sound hT hS hA h
    rw [run_v r1]
    exact .of_appended r2
  · obtain ⟨v, M', w1, rfl, r1, r2, r3, r4⟩ := eMark_sound hT hS hA h
    rw [run_v r1]
    exact .val r3 r2 r4
  · exact defer_run hA h _
  · split at h
    · rename_i hp
      cases h
      exact panic_run hS hA hp
    · cases h
  · exact call_run hT hC hS hA h _
  · cases h

theorem aop_run {call : CallF} (hT : TabOk P T) (hC : CallOk P call) (hS : Sim P ρ M w) (hA : ActRel ρ a ca) (h : aop P T call a M o = some out) :
    RunIs P M ρ w ca out ((execOp ca.eval o).run P w) := by
  unfold aop at h
  split at h
  · rename_i v hv
    cases h
    obtain ⟨r1, r2⟩ := aval_sound hT hS hA hv
    rw [r1]
    exact .val (Adv.refl _ ρ w) hS r2
  · split at h
    · rename_i k f hk
      cases h
      obtain ⟨val, w1, r1, r2⟩ := aalloc_sound (ρ := ρ) (w := w) hT hA hk
      rw [r1]
      exact .of_appended (alloc_done hS r2)
    · exact aeff_run hT hC hS hA h

end Go.Tc
