/- Soundness: regions, code, calls, deferred calls, orders that are drawn; from a closed run to a contract. -/
import Derived.Test.YtmeemfdpfdcghaaGreatDoorTcL
import Derived.Scope
import Derived.Defers
import Derived.Recover
import Derived.Orders
import Derived.Below

/- Soundness: regions whose order is fixed. -/
namespace Go.Tc

variable {P : Program} {T : Tab} {ρ : Rho} {M : AMem} {w : World} {a : AAct} {ca : Act}

noncomputable def concExit (ρ : Rho) : AExit → Exit
  | .normal => .normal
  | .exit id => .exit id
  | .goto l => .goto l
  | .ret => .ret
  | .panic ch => .panic (ch.map (concPan ρ))

noncomputable def exitOk (ρ : Rho) : AExit → Prop
  | .panic ch => ∀ x ∈ ch, okv ρ x.v
  | _ => True

/-- What must hold behind a piece of code that came to r. -/
noncomputable def Post (P : Program) (M : AMem) (ρ : Rho) (w : World) (Q : Exit → Act → World → Prop) (r : AExit × AAct × AMem) : Prop :=
  ∀ ρ' w' ca', Adv M ρ w r.2.2 ρ' w' → Sim P ρ' r.2.2 w' → ActRel ρ' r.2.1 ca' → exitOk ρ' r.1 → Q (concExit ρ' r.1) ca' w'

theorem Post.adv {Q : Exit → Act → World → Prop} {r : AExit × AAct × AMem} (h : Post P M ρ w Q r) {M' : AMem} {ρ' : Rho} {w' : World} (k : Adv M ρ w M' ρ' w') : Post P M' ρ' w' Q r :=
  fun ρ₂ w₂ ca' h1 h2 h3 h4 => h ρ₂ w₂ ca' (k.trans h1) h2 h3 h4

theorem conc_bool {v : AV} {b : Bool} (h : conc ρ v = .bool b) : v = .bool b := by
  cases v <;> simp only [conc, concPtr, concSlice, concMap] at h <;> first
    | (injection h with h; rw [h])
    | (exact absurd h (by simp))
    | (split at h <;> (try split at h) <;> (try split at h) <;> simp [undef] at h)

theorem awanted_sound (hA : ActRel ρ a ca) {ops : Array Oper} {o : Oper} {b : Bool} (h : awanted ops a o = some b) : Region.wanted o (yielded ops ca.tmps) = b := by
  unfold awanted at h
  unfold Region.wanted
  split at h
  · rename_i hg
    cases h
    rw [hg]
  · rename_i j want hg
    rw [hg]
    simp only [yielded]
    split at h
    · rename_i d hd
      rw [hd]
      simp only [Option.bind_some]
      split at h
      · rename_i c hc
        cases h
        have := (hA.tmps d _ hc).1
        rw [this]
        simp [conc]
      · rename_i v hv hc
        cases h
        have h1 := (hA.tmps d _ hc).1
        rw [h1]
        cases hcv : conc ρ v <;> first
          | rfl
          | (exact absurd (conc_bool hcv) (hv _))
      · cases h
    · rename_i hd
      cases h
      rw [hd]
      rfl

theorem ActRel.defer (h : ActRel ρ a ca) {d : ADef} (h1 : okL ρ d.captured) (h2 : okL ρ d.args) :
    ActRel ρ { a with defers := d :: a.defers } { ca with defers := concDef ρ d :: ca.defers } :=
  ⟨h.size, h.tmps, by simp [h.defers], fun x hx => by
    rcases List.mem_cons.1 hx with rfl | hx
    · exact ⟨h1, h2⟩
    · exact h.defok x hx⟩

theorem ActRel.putUndef (h : ActRel ρ a ca) {dst : Option Tmp} (hf : a.fits dst = true) : ActRel ρ (a.put dst aundef) (ca.put dst undef) := by
  have := h.put hf (okv_undef ρ).1
  rw [(okv_undef ρ).2] at this
  exact this

theorem drop_cons {α : Type} {l : List α} {i : Nat} {x : α} {r : List α} (h : l.drop i = x :: r) : l[i]? = some x ∧ l.drop (i + 1) = r := by
  constructor
  · have := congrArg (·[0]?) h
    simpa using this
  · have := congrArg (List.drop 1) h
    simpa [Nat.add_comm] using this

theorem aops_sound {call : CallF} (hT : TabOk P T) (hC : CallOk P call) {ops : Array Oper} {Q : Exit → Act → World → Prop} : ∀ (l : List Oper) (i : Nat) (a : AAct) (M : AMem) (ρ : Rho) (w : World) (ca : Act)
    (r : AExit × AAct × AMem), ops.toList.drop i = l → aops P T call ops l a M = some r → Sim P ρ M w → ActRel ρ a ca → Post P M ρ w Q r → wpOps P ops Q (List.range' i l.length) ca w := by
  intro l
  induction l with
  | nil =>
    intro i a M ρ w ca r _ h hS hA hQ
    simp only [aops, Option.some.injEq] at h
    subst h
    exact hQ ρ w ca (Adv.refl _ ρ w) hS hA trivial
  | cons o l ih =>
    intro i a M ρ w ca r hd h hS hA hQ
    obtain ⟨hi, hd'⟩ := drop_cons hd
    have ho : ops[i]? = some o := by rw [← Array.getElem?_toList]; exact hi
    simp only [aops] at h
    split at h
    case isFalse => cases h
    rename_i hfit
    simp only [List.length_cons, List.range'_succ]
    rw [wpOps]
    simp only [ho]
    split at h
    · rename_i hw
      have hw' := awanted_sound hA hw
      simp only [hw', if_true]
      split at h
      · rename_i v M' hop
        refine .inl ?_
        refine RunIs.upon (aop_run hT hC hS hA hop) ?_
        intro ρ' w' h1 h2 h3
        exact ih (i + 1) _ _ ρ' w' _ r hd' h h2 ((hA.ext h1.ext).put hfit h3) (hQ.adv h1)
      · rename_i M' hop
        refine .inl ?_
        refine RunIs.upon (aop_run hT hC hS hA hop) ?_
        intro ρ' w' h1 h2
        exact ih (i + 1) _ _ ρ' w' _ r hd' h h2 ((hA.ext h1.ext).putUndef hfit) (hQ.adv h1)
      · rename_i d hop
        refine .inl ?_
        refine RunIs.upon (aop_run hT hC hS hA hop) ?_
        intro h1 h2
        exact ih (i + 1) _ _ ρ w _ r hd' h hS ((hA.defer h1 h2).putUndef hfit) hQ
      · rename_i ch M' hop
        cases h
        refine .inl ?_
        refine RunIs.upon (aop_run hT hC hS hA hop) ?_
        intro ρ' w' h1 h2 h3
        exact hQ ρ' w' ca h1 h2 (hA.ext h1.ext) h3
      · cases h
    · rename_i hw
      have hw' := awanted_sound hA hw
      simp only [hw', Bool.false_eq_true, if_false]
      exact ih (i + 1) _ _ ρ w _ r hd' h hS (hA.putUndef hfit) hQ
    · cases h

end Go.Tc

/- Soundness: code, results. (Regions of drawn order: by a hypothesis that TcX proves.) -/
namespace Go.Tc

variable {P : Program} {T : Tab} {ρ : Rho} {M : AMem} {w : World} {a : AAct} {ca : Act}

noncomputable def DrawSound (P : Program) (T : Tab) : Prop :=
  ∀ (call : CallF), CallOk P call → ∀ (ops : Array Oper) (a : AAct) (M : AMem) (r : AExit × AAct × AMem), adraw P T call ops a M = some r →
    ∀ (ρ : Rho) (w : World) (ca : Act) (Q : Exit → Act → World → Prop), Sim P ρ M w → ActRel ρ a ca → Post P M ρ w Q r → ∀ t, wpOps P ops Q (Region.schedule (P.follows .mixedOrders) ops t) ca w

/-- The inside of a loop. -/
noncomputable def wpLoop (P : Program) (c : Code) (Q : Exit → Act → World → Prop) (a : Act) (w : World) : Prop :=
  ∀ (b : Frame) (k : List Item) (cs : List Frame), ∃ e a' w', Q e a' w' ∧ Arrives P (lone (b.at a (.code c :: .inLoop c :: k)) cs w) b k cs e a' w'

theorem wpLoop_round {c : Code} {Q : Exit → Act → World → Prop} {a : Act} {w : World} (h : c.wp P (Exit.then (wpLoop P c Q) Q) a w) : wpLoop P c Q a w := by
  intro b k cs
  obtain ⟨e, a₁, w₁, hq, harr⟩ := h b (.inLoop c :: k) cs
  cases e with
  | normal =>
    obtain ⟨e₂, a₂, w₂, hq₂, harr₂⟩ := hq b k cs
    exact ⟨e₂, a₂, w₂, hq₂, .of_steps (Steps.trans harr (.one step_inLoop)) harr₂⟩
  | exit id => exact ⟨_, a₁, w₁, hq, .pass (x := .inLoop c) rfl (fun _ _ => .inl (by simp)) harr⟩
  | goto l => exact ⟨_, a₁, w₁, hq, .pass (x := .inLoop c) rfl (fun _ _ => .inl (by simp)) harr⟩
  | ret => exact ⟨_, a₁, w₁, hq, .pass (x := .inLoop c) rfl (fun _ _ => .inl (by simp)) harr⟩
  | panic ch => exact ⟨_, a₁, w₁, hq, .pass (x := .inLoop c) rfl (fun _ _ => .inl (by simp)) harr⟩
  | outgrown => exact ⟨_, a₁, w₁, hq, .pass (x := .inLoop c) rfl (fun _ _ => .inl (by simp)) harr⟩

theorem wp_of_wpLoop {c : Code} {Q : Exit → Act → World → Prop} {a : Act} {w : World} (h : wpLoop P c Q a w) : (Code.loop c).wp P Q a w :=
  fun b k cs => let ⟨e, a', w', q, r⟩ := h b k cs; ⟨e, a', w', q, .of_steps (.one step_loop) r⟩

noncomputable def CodeOk (P : Program) (code : Code → AAct → AMem → Option (AExit × AAct × AMem)) : Prop :=
  ∀ (c : Code) (a : AAct) (M : AMem) (r : AExit × AAct × AMem), code c a M = some r → ∀ (ρ : Rho) (w : World) (ca : Act) (Q : Exit → Act → World → Prop), Sim P ρ M w → ActRel ρ a ca → Post P M ρ w Q r →
    c.wp P Q ca w ∧ ∀ b, c = .loop b → wpLoop P b Q ca w

theorem Adv.drew {w : World} {n : Nat} : Adv M ρ w M ρ { w with drawn := n } := Adv.still (Nat.le_refl _) rfl rfl rfl (Nat.le_refl _) (fun _ _ _ => rfl)

theorem codeF_sound {ih : Ev} (hT : TabOk P T) (hD : DrawSound P T) (hK : CodeOk P ih.code) (hC : CallOk P ih.call) : CodeOk P (codeF P T ih) := by
  intro c
  induction c with
  | skip =>
    intro a M r h ρ w ca Q hS hA hQ
    simp only [codeF, Option.some.injEq] at h
    subst h
    exact ⟨wp_skip (hQ ρ w ca (Adv.refl _ ρ w) hS hA trivial), by simp⟩
  | label l =>
    intro a M r h ρ w ca Q hS hA hQ
    simp only [codeF, Option.some.injEq] at h
    subst h
    exact ⟨wp_label (hQ ρ w ca (Adv.refl _ ρ w) hS hA trivial), by simp⟩
  | region id ops draw =>
    intro a M r h ρ w ca Q hS hA hQ
    refine ⟨?_, by simp⟩
    simp only [codeF] at h
    cases draw with
    | true =>
      simp only [if_true] at h
      exact wp_region_draw fun t => hD _ hC ops a M r h ρ { w with drawn := w.drawn + 1 } ca Q (Sim.world hS rfl) hA (hQ.adv Adv.drew) t
    | false =>
      simp only [Bool.false_eq_true, if_false] at h
      refine wp_region ?_
      have := aops_sound hT hC ops.toList 0 a M ρ w ca r (by simp) h hS hA hQ
      rw [List.range_eq_range']
      simpa using this
  | seq x y ihx ihy =>
    intro a M r h ρ w ca Q hS hA hQ
    refine ⟨?_, by simp⟩
    simp only [codeF] at h
    split at h
    · rename_i a' M' hx
      refine wp_seq (ihx a M _ hx ρ w ca _ hS hA ?_).1
      intro ρ' w' ca' h1 h2 h3 _
      exact (ihy a' M' r h ρ' w' ca' Q h2 h3 (hQ.adv h1)).1
    · rename_i hne
      refine wp_seq (ihx a M _ h ρ w ca _ hS hA ?_).1
      intro ρ' w' ca' h1 h2 h3 h4
      have := hQ ρ' w' ca' h1 h2 h3 h4
      obtain ⟨e, a', M'⟩ := r
      cases e <;> first
        | (exact absurd h (hne _ _))
        | exact this
  | cond c x y ihx ihy =>
    intro a M r h ρ w ca Q hS hA hQ
    refine ⟨?_, by simp⟩
    simp only [codeF] at h
    split at h
    · rename_i hc
      have h1 := aeval_sound hA hc
      exact wp_cond (t := true) (by simpa [conc] using h1.1) (ihx a M r h ρ w ca Q hS hA hQ).1
    · rename_i hc
      have h1 := aeval_sound hA hc
      exact wp_cond (t := false) (by simpa [conc] using h1.1) (ihy a M r h ρ w ca Q hS hA hQ).1
    · cases h
  | block id c ihc =>
    intro a M r h ρ w ca Q hS hA hQ
    refine ⟨?_, by simp⟩
    simp only [codeF] at h
    split at h
    · rename_i j a' M' hc
      refine wp_block (ihc a M _ hc ρ w ca _ hS hA ?_).1
      intro ρ' w' ca' h1 h2 h3 h4
      split at h
      · rename_i e
        cases h
        have := hQ ρ' w' ca' h1 h2 h3 trivial
        simp only [concExit, Exit.inBlock, e, if_true] at this ⊢
        exact this
      · rename_i e
        cases h
        have := hQ ρ' w' ca' h1 h2 h3 trivial
        simp only [concExit, Exit.inBlock, e, if_false] at this ⊢
        exact this
    · rename_i hne
      refine wp_block (ihc a M _ h ρ w ca _ hS hA ?_).1
      intro ρ' w' ca' h1 h2 h3 h4
      have := hQ ρ' w' ca' h1 h2 h3 h4
      obtain ⟨e, a', M'⟩ := r
      cases e <;> first
        | (exact absurd h (hne _ _ _))
        | exact this
  | loop c ihc =>
    intro a M r h ρ w ca Q hS hA hQ
    have key : wpLoop P c Q ca w := by
      simp only [codeF] at h
      split at h
      · rename_i a' M' hc
        refine wpLoop_round (ihc a M _ hc ρ w ca _ hS hA ?_).1
        intro ρ' w' ca' h1 h2 h3 _
        exact (hK (.loop c) a' M' r h ρ' w' ca' Q h2 h3 (hQ.adv h1)).2 c rfl
      · rename_i hne
        refine wpLoop_round (ihc a M _ h ρ w ca _ hS hA ?_).1
        intro ρ' w' ca' h1 h2 h3 h4
        have := hQ ρ' w' ca' h1 h2 h3 h4
        obtain ⟨e, a', M'⟩ := r
        cases e <;> first
          | (exact absurd h (hne _ _))
          | exact this
    exact ⟨wp_of_wpLoop key, fun b e => by cases e; exact key⟩
  | exit id =>
    intro a M r h ρ w ca Q hS hA hQ
    simp only [codeF, Option.some.injEq] at h
    subst h
    exact ⟨wp_exit (hQ ρ w ca (Adv.refl _ ρ w) hS hA trivial), by simp⟩
  | ret =>
    intro a M r h ρ w ca Q hS hA hQ
    simp only [codeF, Option.some.injEq] at h
    subst h
    exact ⟨wp_ret (hQ ρ w ca (Adv.refl _ ρ w) hS hA trivial), by simp⟩
  | scope c ihc =>
    intro a M r h ρ w ca Q hS hA hQ
    refine ⟨?_, by simp⟩
    simp only [codeF] at h
    split at h
    · cases h
    · rename_i hne
      refine wp_scope_straight (ihc a M _ h ρ w ca _ hS hA ?_).1
      intro ρ' w' ca' h1 h2 h3 h4
      have := hQ ρ' w' ca' h1 h2 h3 h4
      obtain ⟨e, a', M'⟩ := r
      cases e <;> first
        | (exact absurd h (hne _ _ _))
        | exact this
  | _ =>
    intro a M r h
    simp [codeF] at h

/-! ### results -/

noncomputable def resultRun (tmps : Array Value) : ResultVar → Sem Value
  | .tmp t => pure (tmps.getD t undef)
  | .cell a t => do loadVar t (← asAddr (tmps.getD a undef))

theorem results_eq (fn : Func) (tmps : Array Value) : results fn tmps = (do
    let vs ← fn.results.mapM (resultRun tmps)
    pure (if h : vs.size = 1 then vs[0] else .tuple vs)) := rfl

theorem aresultL_sound (hT : TabOk P T) (hS : Sim P ρ M w) (hA : ActRel ρ a ca) : ∀ {l : List ResultVar} {vs : List AV}, aresultL T a M l = some vs →
    (l.mapM (resultRun ca.tmps)).run P w = .ok (concL ρ vs) w ∧ okL ρ vs := by
  intro l
  induction l with
  | nil => intro vs h; simp [aresultL] at h; subst h; exact ⟨by simp [pure, concL], trivial⟩
  | cons x r ih =>
    intro vs h
    simp only [aresultL] at h
    split at h
    · rename_i v hv
      split at h
      · rename_i l' hl
        cases h
        obtain ⟨h1, h2⟩ := ih hl
        have hx : (resultRun ca.tmps x).run P w = .ok (conc ρ v) w ∧ okv ρ v := by
          unfold aresult at hv
          split at hv
          · rename_i t
            have := hA.tmps t v hv
            exact ⟨by simp [resultRun, Array.getD_eq_getD_getElem?, this.1], this.2⟩
          · rename_i y t
            split at hv
            · rename_i b o hy
              have := hA.tmps y _ hy
              obtain ⟨p, hp⟩ := this.2
              have hl := aload_sound hT hS hv hp
              refine ⟨?_, hl.2⟩
              simp only [resultRun, Array.getD_eq_getD_getElem?, this.1, Option.getD_some, conc, concPtr, hp, asAddr, Sem.run_bind, Sem.run_pure, Result.andThen_ok, hl.1]
            · cases hv
        exact ⟨by simp [List.mapM_cons, hx.1, h1, concL], hx.2, h2⟩
      · cases h
    · cases h

theorem aresults_sound (hT : TabOk P T) (hS : Sim P ρ M w) (hA : ActRel ρ a ca) {fn : Func} {v : AV} (h : aresults T fn a M = some v) :
    (results fn ca.tmps).run P w = .ok (conc ρ v) w ∧ okv ρ v := by
  have hrun : ∀ {vs : List AV}, aresultL T a M fn.results.toList = some vs → (fn.results.mapM (resultRun ca.tmps)).run P w = .ok (concL ρ vs).toArray w ∧ okL ρ vs := by
    intro vs hv
    obtain ⟨h1, h2⟩ := aresultL_sound hT hS hA hv
    refine ⟨?_, h2⟩
    rw [← Array.toArray_toList (xs := fn.results), List.mapM_toArray, Sem.run_map, h1, Result.andThen_ok]
  unfold aresults at h
  split at h
  · rename_i v' hv
    cases h
    obtain ⟨h1, h2⟩ := hrun hv
    refine ⟨?_, h2.1⟩
    rw [results_eq]
    simp [h1, concL]
  · rename_i l hl hv
    cases h
    obtain ⟨h1, h2⟩ := hrun hv
    refine ⟨?_, h2⟩
    rw [results_eq]
    have hsz : ¬ (concL ρ l).toArray.size = 1 := by
      intro e
      simp only [List.size_toArray, concL_eq, List.length_map] at e
      obtain ⟨x, rfl⟩ := List.length_eq_one_iff.1 e
      exact hl _ rfl
    simp only [Sem.run_bind, h1, Result.andThen_ok, hsz, dif_neg, not_false_eq_true, Sem.run_pure, conc]
  · cases h

end Go.Tc

/- Soundness: calls, deferred calls, recover. -/
namespace Go.Tc

variable {P : Program} {T : Tab} {ρ : Rho} {M : AMem} {w : World} {a : AAct} {ca : Act}

theorem putArgs_get : ∀ (vs : List AV) (i : Nat) (t : Tr AV) (j : Nat), (putArgs vs i t).get j = if i ≤ j ∧ j < i + vs.length then vs[j - i]? else t.get j := by
  intro vs
  induction vs with
  | nil => intro i t j; simp only [putArgs, List.length_nil]; rw [if_neg (by omega)]
  | cons v r ih =>
    intro i t j
    simp only [putArgs, ih, Tr.get_set, List.length_cons]
    by_cases h1 : i + 1 ≤ j ∧ j < i + 1 + r.length
    · rw [if_pos h1, if_pos (by omega)]
      have : j - i = (j - (i + 1)) + 1 := by omega
      rw [this, List.getElem?_cons_succ]
    · rw [if_neg h1]
      by_cases h2 : j = i
      · subst h2
        rw [if_pos rfl, if_pos (by omega)]
        simp
      · rw [if_neg h2, if_neg (by omega)]

theorem enter_rel (fn : Func) {vs : List AV} (hvs : okL ρ vs) {args : Array Value} (ha : args = (concL ρ vs).toArray) :
    ActRel ρ (enterAct fn vs) { tmps := args ++ Array.replicate (fn.ntmps - args.size) undef, defers := [] } := by
  subst ha
  have hlen : (concL ρ vs).length = vs.length := by rw [concL_eq, List.length_map]
  refine ⟨by simp [enterAct, hlen], ?_, rfl, by simp [enterAct]⟩
  intro t v h
  simp only [enterAct, putArgs_get, Nat.zero_le, true_and, Nat.zero_add, Nat.sub_zero] at h
  split at h
  · rename_i hlt
    refine ⟨?_, (okL_iff _ _).1 hvs v (List.mem_of_getElem? h)⟩
    rw [Array.getElem?_append_left (by simpa [hlen] using hlt)]
    simp only [List.getElem?_toArray, concL_eq, List.getElem?_map, h]
    rfl
  · simp [Tr.get_leaf] at h

noncomputable def concMode (ρ : Rho) : AMode → FrameMode
  | .returning => .returning
  | .panicking ch => .panicking (ch.map (concPan ρ))

noncomputable def okMode (ρ : Rho) : AMode → Prop
  | .returning => True
  | .panicking ch => ∀ x ∈ ch, okv ρ x.v

theorem concPan_ext {ρ' : Rho} (e : Ext ρ ρ') {ch : List APan} (h : ∀ x ∈ ch, okv ρ x.v) : ch.map (concPan ρ') = ch.map (concPan ρ) ∧ ∀ x ∈ ch, okv ρ' x.v :=
  ⟨List.map_congr_left fun x hx => by simp [concPan, (conc_ext e _ (h x hx)).1], fun x hx => (conc_ext e _ (h x hx)).2⟩

theorem mode_ext {ρ' : Rho} (e : Ext ρ ρ') {u : AMode} (h : okMode ρ u) : concMode ρ' u = concMode ρ u ∧ okMode ρ' u := by
  cases u with
  | returning => exact ⟨rfl, trivial⟩
  | panicking ch => have := concPan_ext e h; exact ⟨by simp [concMode, this.1], this.2⟩

theorem dropWhile_pans (ch : List APan) : (ch.map (concPan ρ)).dropWhile (!·.goexit) = [] := by
  induction ch with
  | nil => rfl
  | cons x r ih => simp [concPan] at ih ⊢; exact ih

theorem settle_conc (u : AMode) (h : okMode ρ u) : settle (concMode ρ u) = concMode ρ (asettle u) ∧ okMode ρ (asettle u) := by
  cases u with
  | returning => exact ⟨rfl, trivial⟩
  | panicking ch =>
    cases ch with
    | nil => exact ⟨rfl, h⟩
    | cons x r =>
      obtain ⟨v, rec⟩ := x
      cases rec with
      | false => exact ⟨rfl, h⟩
      | true =>
        refine ⟨?_, trivial⟩
        have := dropWhile_pans (ρ := ρ) r
        show (match (r.map (concPan ρ)).dropWhile (!·.goexit) with
          | [] => FrameMode.returning
          | rest => .panicking rest) = FrameMode.returning
        rw [this]

theorem raised_conc (u : AMode) (h : okMode ρ u) (ch : List APan) (hch : ∀ x ∈ ch, okv ρ x.v) : raised (concMode ρ u) (ch.map (concPan ρ)) = concMode ρ (araised u ch) ∧ okMode ρ (araised u ch) := by
  cases u with
  | returning => exact ⟨rfl, hch⟩
  | panicking old =>
    refine ⟨by simp [concMode, raised, araised], ?_⟩
    intro x hx
    rcases List.mem_append.1 hx with hx | hx
    · exact hch x hx
    · exact h x hx

/-! ### a deferred function -/

noncomputable def PostS (P : Program) (M : AMem) (ρ : Rho) (w : World) (c₀ : Frame) (cs : List Frame) (Q : Exit → Act → List Frame → World → Prop) (r : AExit × AAct × AMode × AMem) : Prop :=
  ∀ ρ' w' ca', Adv M ρ w r.2.2.2 ρ' w' → Sim P ρ' r.2.2.2 w' → ActRel ρ' r.2.1 ca' → exitOk ρ' r.1 → okMode ρ' r.2.2.1 → Q (concExit ρ' r.1) ca' ({ c₀ with mode := concMode ρ' r.2.2.1 } :: cs) w'

theorem PostS.adv {c₀ : Frame} {cs : List Frame} {Q : Exit → Act → List Frame → World → Prop} {r : AExit × AAct × AMode × AMem} (h : PostS P M ρ w c₀ cs Q r) {M' : AMem} {ρ' : Rho} {w' : World} (k : Adv M ρ w M' ρ' w') :
    PostS P M' ρ' w' c₀ cs Q r :=
  fun ρ₂ w₂ ca' h1 h2 h3 h4 h5 => h ρ₂ w₂ ca' (k.trans h1) h2 h3 h4 h5

theorem recover_run {o : Oper} (h : isRecover o = true) (ev : Operand → Value) : (execOp ev o).run P w = .ok .recover w := by
  unfold isRecover at h
  split at h
  · rename_i c ho
    unfold execOp
    rw [ho]
    simp only [resolve, Sem.run_bind, Sem.run_pure, Result.andThen_ok, invoke, builtin]
  · cases h

theorem wpOpsS_nil {ops : Array Oper} {Q : Exit → Act → List Frame → World → Prop} {a : Act} {cs : List Frame} {w : World} (h : Q .normal a cs w) : wpOpsS P ops Q [] a cs w := h

theorem wpOpsS_skip {ops : Array Oper} {Q : Exit → Act → List Frame → World → Prop} {i : Nat} {l : List Nat} {o : Oper} (ho : ops[i]? = some o) {cs : List Frame}
    (hw : Region.wanted o (yielded ops ca.tmps) = false) (h : wpOpsS P ops Q l (ca.put o.dst undef) cs w) : wpOpsS P ops Q (i :: l) ca cs w := by
  rw [wpOpsS]
  simp only [ho, hw, Bool.false_eq_true, if_false]
  exact h

theorem wpOpsS_op {ops : Array Oper} {Q : Exit → Act → List Frame → World → Prop} {i : Nat} {l : List Nat} {o : Oper} (ho : ops[i]? = some o) {cs : List Frame} {out : AOut}
    (hw : Region.wanted o (yielded ops ca.tmps) = true) (hr : RunIs P M ρ w ca out ((execOp ca.eval o).run P w))
    (hk : OutOk P M ρ w ca o.dst (fun a' w' => wpOpsS P ops Q l a' cs w') (fun e a' w' => Q e a' cs w') out) : wpOpsS P ops Q (i :: l) ca cs w := by
  have key := RunIs.upon (o := o) hr hk
  rw [wpOpsS]
  simp only [ho, hw, if_true]
  generalize (execOp ca.eval o).run P w = r at hr key
  cases hr <;> exact key

theorem wpOpsS_recover {ops : Array Oper} {Q : Exit → Act → List Frame → World → Prop} {i : Nat} {l : List Nat} {o : Oper} (ho : ops[i]? = some o) {cs : List Frame}
    (hw : Region.wanted o (yielded ops ca.tmps) = true) (hr : isRecover o = true)
    (h : match recoverD cs with
      | some (v, cs') => wpOpsS P ops Q l (ca.put o.dst v) cs' w
      | none => wpOpsS P ops Q l (ca.put o.dst .nilIface) cs w) : wpOpsS P ops Q (i :: l) ca cs w := by
  rw [wpOpsS]
  simp only [ho, hw, if_true, recover_run hr]
  exact h

theorem recoverD_none {c₀ : Frame} {cs : List Frame} {u : AMode} (h : ∀ v older, u ≠ .panicking ({ v, recovered := false } :: older)) : recoverD ({ c₀ with mode := concMode ρ u } :: cs) = none := by
  cases u with
  | returning => rfl
  | panicking ch =>
    cases ch with
    | nil => rfl
    | cons x r =>
      obtain ⟨v, rec⟩ := x
      cases rec with
      | false => exact absurd rfl (h v r)
      | true => rfl

theorem dops_sound {call : CallF} (hT : TabOk P T) (hC : CallOk P call) {ops : Array Oper} {Q : Exit → Act → List Frame → World → Prop} {c₀ : Frame} {cs : List Frame} :
    ∀ (l : List Oper) (i : Nat) (a : AAct) (u : AMode) (M : AMem) (ρ : Rho) (w : World) (ca : Act)
    (r : AExit × AAct × AMode × AMem), ops.toList.drop i = l → dops P T call ops l a u M = some r → Sim P ρ M w → ActRel ρ a ca → okMode ρ u → PostS P M ρ w c₀ cs Q r →
    wpOpsS P ops Q (List.range' i l.length) ca ({ c₀ with mode := concMode ρ u } :: cs) w := by
  intro l
  induction l with
  | nil =>
    intro i a u M ρ w ca r _ h hS hA hu hQ
    simp only [dops, Option.some.injEq] at h
    subst h
    exact hQ ρ w ca (Adv.refl _ ρ w) hS hA trivial hu
  | cons o l ih =>
    intro i a u M ρ w ca r hd h hS hA hu hQ
    obtain ⟨hi, hd'⟩ := drop_cons hd
    have ho : ops[i]? = some o := by rw [← Array.getElem?_toList]; exact hi
    simp only [dops] at h
    split at h
    case isFalse => cases h
    rename_i hfit
    simp only [List.length_cons, List.range'_succ]
    split at h
    · rename_i hw
      have hw' := awanted_sound hA hw
      split at h
      · rename_i hrec
        refine wpOpsS_recover ho hw' hrec ?_
        split at h
        · rename_i v older
          have hv : okv ρ v := hu { v, recovered := false } (by simp)
          have hu' : okMode ρ (.panicking ({ v, recovered := true } :: older)) := by
            intro x hx
            rcases List.mem_cons.1 hx with rfl | hx
            · exact hv
            · exact hu x (List.mem_cons_of_mem _ hx)
          exact ih (i + 1) _ _ _ ρ w _ r hd' h hS (hA.put hfit hv) hu' hQ
        · rename_i hne
          rw [recoverD_none (fun v older e => hne v older e)]
          exact ih (i + 1) _ _ _ ρ w _ r hd' h hS (hA.put (v := .nilIface) hfit trivial) hu hQ
      · split at h
        · rename_i v M' hop
          refine wpOpsS_op ho hw' (aop_run hT hC hS hA hop) ?_
          intro ρ' w' h1 h2 h3
          have hm := mode_ext h1.ext hu
          rw [← hm.1]
          exact ih (i + 1) _ _ _ ρ' w' _ r hd' h h2 ((hA.ext h1.ext).put hfit h3) hm.2 (hQ.adv h1)
        · rename_i M' hop
          refine wpOpsS_op ho hw' (aop_run hT hC hS hA hop) ?_
          intro ρ' w' h1 h2
          have hm := mode_ext h1.ext hu
          rw [← hm.1]
          exact ih (i + 1) _ _ _ ρ' w' _ r hd' h h2 ((hA.ext h1.ext).putUndef hfit) hm.2 (hQ.adv h1)
        · rename_i ch M' hop
          cases h
          refine wpOpsS_op ho hw' (aop_run hT hC hS hA hop) ?_
          intro ρ' w' h1 h2 h3
          have hm := mode_ext h1.ext hu
          have := hQ ρ' w' ca h1 h2 (hA.ext h1.ext) h3 hm.2
          rw [hm.1] at this
          exact this
        · cases h
    · rename_i hw
      have hw' := awanted_sound hA hw
      exact wpOpsS_skip ho hw' (ih (i + 1) _ _ _ ρ w _ r hd' h hS (hA.putUndef hfit) hu hQ)
    · cases h

theorem dplain {ih : Ev} (hK : CodeOk P (codeF P T ih)) {c : Code} {a : AAct} {u : AMode} {M : AMem} {r : AExit × AAct × AMode × AMem} {c₀ : Frame} {cs : List Frame} {Q : Exit → Act → List Frame → World → Prop}
    (h : (match codeF P T ih c a M with | some (e, a', M') => some (e, a', u, M') | none => none) = some r) (hS : Sim P ρ M w) (hA : ActRel ρ a ca) (hu : okMode ρ u) (hQ : PostS P M ρ w c₀ cs Q r) :
    c.wpS P Q ca ({ c₀ with mode := concMode ρ u } :: cs) w := by
  split at h
  · rename_i e a' M' hc
    cases h
    refine wpS_of_wp (hK c a M _ hc ρ w ca _ hS hA ?_).1
    intro ρ' w' ca' h1 h2 h3 h4
    have hm := mode_ext h1.ext hu
    have := hQ ρ' w' ca' h1 h2 h3 h4 hm.2
    rw [hm.1] at this
    exact this
  · cases h

theorem dcode_sound {ih : Ev} (hT : TabOk P T) (hK : CodeOk P (codeF P T ih)) (hC : CallOk P ih.call) {c₀ : Frame} {cs : List Frame} : ∀ (c : Code) (a : AAct) (u : AMode) (M : AMem) (r : AExit × AAct × AMode × AMem),
    dcode P T ih c a u M = some r → ∀ (ρ : Rho) (w : World) (ca : Act) (Q : Exit → Act → List Frame → World → Prop), Sim P ρ M w → ActRel ρ a ca → okMode ρ u → PostS P M ρ w c₀ cs Q r →
    c.wpS P Q ca ({ c₀ with mode := concMode ρ u } :: cs) w := by
  intro c
  induction c with
  | seq x y ihx ihy =>
    intro a u M r h ρ w ca Q hS hA hu hQ
    simp only [dcode] at h
    split at h
    · rename_i a' u' M' hx
      refine wpS_seq (ihx a u M _ hx ρ w ca _ hS hA hu ?_)
      intro ρ' w' ca' h1 h2 h3 _ h5
      exact ihy a' u' M' r h ρ' w' ca' Q h2 h3 h5 (hQ.adv h1)
    · rename_i hne
      refine wpS_seq (ihx a u M _ h ρ w ca _ hS hA hu ?_)
      intro ρ' w' ca' h1 h2 h3 h4 h5
      have := hQ ρ' w' ca' h1 h2 h3 h4 h5
      obtain ⟨e, a', u', M'⟩ := r
      cases e <;> first
        | (exact absurd h (hne _ _ _))
        | exact this
  | cond c x y ihx ihy =>
    intro a u M r h ρ w ca Q hS hA hu hQ
    simp only [dcode] at h
    split at h
    · rename_i hc
      have h1 := aeval_sound hA hc
      exact wpS_cond (t := true) (by simpa [conc] using h1.1) (ihx a u M r h ρ w ca Q hS hA hu hQ)
    · rename_i hc
      have h1 := aeval_sound hA hc
      exact wpS_cond (t := false) (by simpa [conc] using h1.1) (ihy a u M r h ρ w ca Q hS hA hu hQ)
    · cases h
  | region id ops draw =>
    intro a u M r h ρ w ca Q hS hA hu hQ
    simp only [dcode] at h
    cases draw with
    | true =>
      simp only [if_true] at h
      exact dplain hK h hS hA hu hQ
    | false =>
      simp only [Bool.false_eq_true, if_false] at h
      refine wpS_region ?_
      have := dops_sound hT hC ops.toList 0 a u M ρ w ca r (by simp) h hS hA hu hQ
      rw [List.range_eq_range']
      simpa using this
  | _ =>
    intro a u M r h ρ w ca Q hS hA hu hQ
    simp only [dcode] at h
    exact dplain hK h hS hA hu hQ

/-- What a deferred call's end must be. -/
noncomputable def EndsD (P : Program) (M : AMem) (ρ : Rho) (w : World) (e : AEnd) (u : AMode) (M' : AMem) (e' : Ending) (um : FrameMode) (w' : World) : Prop :=
  ∃ ρ', Adv M ρ w M' ρ' w' ∧ Sim P ρ' M' w' ∧ EndIs ρ' e e' ∧ um = concMode ρ' u ∧ okMode ρ' u

theorem dcall_sound {ih : Ev} (hT : TabOk P T) (hK : CodeOk P (codeF P T ih)) (hC : CallOk P ih.call) {d : ADef} {u : AMode} {M : AMem} {e : AEnd} {u' : AMode} {M' : AMem}
    (h : dcall P T ih d u M = some (e, u', M')) (hS : Sim P ρ M w) (h1 : okL ρ d.captured) (h2 : okL ρ d.args) (hu : okMode ρ u) :
    ∃ g, (concDef ρ d).target = .fn (.func g) (concL ρ d.captured).toArray ∧ (invoke (concDef ρ d).target (concDef ρ d).args).run P w = .ok (.enter g (concL ρ (d.args ++ d.captured)).toArray) w ∧
      CallsD P g (concL ρ (d.args ++ d.captured)).toArray (concMode ρ u) w (EndsD P M ρ w e u' M') := by
  unfold dcall at h
  split at h
  case h_2 => cases h
  rename_i g hg
  split at h
  case h_2 => cases h
  rename_i fn hx hfn
  obtain ⟨hf, hn⟩ := hT.funcs g fn hfn
  split at h
  case h_2 => cases h
  rename_i c hb
  have hargs : okL ρ (d.args ++ d.captured) := okL_append h2 h1
  refine ⟨g, by simp [concDef, hg], ?_, ?_⟩
  · simp only [concDef, hg, invoke]
    rw [callFunc_enter _ hf hb hn]
    simp [concL_append]
  · refine callsD_of_wpS hf hb fun c₀ cs hc₀ => ?_
    have hself : c₀ = { c₀ with mode := concMode ρ u } := by rw [← hc₀]
    have hrel := enter_rel (ρ := ρ) fn hargs rfl
    have key : ∀ r, dcode P T ih c (enterAct fn (d.args ++ d.captured)) u M = some r → PostS P M ρ w c₀ cs (bodyPostS P fn c₀ cs (EndsD P M ρ w e u' M')) r →
        c.wpS P (bodyPostS P fn c₀ cs (EndsD P M ρ w e u' M')) { tmps := (concL ρ (d.args ++ d.captured)).toArray ++ Array.replicate (fn.ntmps - (concL ρ (d.args ++ d.captured)).toArray.size) undef, defers := [] } (c₀ :: cs) w := by
      intro r hr hQ
      have := dcode_sound (c₀ := c₀) (cs := cs) hT hK hC c _ u M r hr ρ w _ _ hS hrel hu hQ
      rw [← hself] at this
      exact this
    have hret : ∀ a' u₂ M₂, (match a'.defers with
          | [] => match aresults T fn a' M₂ with
            | some v => some (AEnd.returned v, u₂, M₂)
            | none => none
          | _ => none) = some (e, u', M') → ∀ ρ' w' ca', Adv M ρ w M₂ ρ' w' → Sim P ρ' M₂ w' → ActRel ρ' a' ca' → okMode ρ' u₂ →
        ca'.defers = [] ∧ ∃ um, ({ c₀ with mode := concMode ρ' u₂ } :: cs : List Frame) = { c₀ with mode := um } :: cs ∧ ∃ v, (results fn ca'.tmps).run P w' = .ok v w' ∧ EndsD P M ρ w e u' M' (.returned v) um w' := by
      intro a' u₂ M₂ hm ρ' w' ca' g1 g2 g3 g4
      split at hm
      · rename_i hde
        split at hm
        · rename_i v hv
          cases hm
          obtain ⟨r1, r2⟩ := aresults_sound hT g2 g3 hv
          exact ⟨by simp [g3.defers, hde], _, rfl, _, r1, ρ', g1, g2, ⟨rfl, r2⟩, rfl, g4⟩
        · cases hm
      · cases hm
    split at h
    · rename_i a' u₂ M₂ hr
      exact key _ hr fun ρ' w' ca' g1 g2 g3 _ g5 => hret a' u₂ M₂ h ρ' w' ca' g1 g2 g3 g5
    · rename_i a' u₂ M₂ hr
      exact key _ hr fun ρ' w' ca' g1 g2 g3 _ g5 => hret a' u₂ M₂ h ρ' w' ca' g1 g2 g3 g5
    · rename_i ch a' u₂ M₂ hr
      refine key _ hr fun ρ' w' ca' g1 g2 g3 g4 g5 => ?_
      split at h
      · rename_i hde
        cases h
        exact ⟨by simp [g3.defers, hde], _, rfl, ρ', g1, g2, ⟨rfl, g4⟩, rfl, g5⟩
      · cases h
    · cases h

/-! ### leaving a function -/

theorem concDef_ext {ρ' : Rho} (e : Ext ρ ρ') {ds : List ADef} (h : ∀ d ∈ ds, okL ρ d.captured ∧ okL ρ d.args) : ds.map (concDef ρ') = ds.map (concDef ρ) ∧ ∀ d ∈ ds, okL ρ' d.captured ∧ okL ρ' d.args :=
  ⟨List.map_congr_left fun d hd => by simp [concDef, (concL_ext e _ (h d hd).1).1, (concL_ext e _ (h d hd).2).1], fun d hd => ⟨(concL_ext e _ (h d hd).1).2, (concL_ext e _ (h d hd).2).2⟩⟩

theorem leave_sound {ih : Ev} (hT : TabOk P T) (hK : CodeOk P (codeF P T ih)) (hC : CallOk P ih.call) {fn : Func} {a : AAct} {e : AEnd} {M' : AMem} {R : Ending → World → Prop} :
    ∀ (ds : List ADef) (u : AMode) (M : AMem), leave P T ih fn a ds u M = some (e, M') → ∀ (ρ : Rho) (w : World) (ca : Act), Sim P ρ M w → ActRel ρ a ca →
    (∀ d ∈ ds, okL ρ d.captured ∧ okL ρ d.args) → okMode ρ u → (∀ e' w', Ends P M ρ w e M' e' w' → R e' w') → Leaves P fn ca.tmps R (ds.map (concDef ρ)) (concMode ρ u) w := by
  intro ds
  induction ds with
  | nil =>
    intro u M h ρ w ca hS hA hds hu hR
    cases u with
    | returning =>
      simp only [leave] at h
      split at h
      · rename_i v hv
        cases h
        obtain ⟨r1, r2⟩ := aresults_sound hT hS hA hv
        exact ⟨_, r1, hR _ _ ⟨ρ, Adv.refl _ ρ w, hS, rfl, r2⟩⟩
      · cases h
    | panicking ch =>
      simp only [leave, Option.some.injEq, Prod.mk.injEq] at h
      obtain ⟨rfl, rfl⟩ := h
      exact hR _ _ ⟨ρ, Adv.refl _ ρ w, hS, rfl, hu⟩
  | cons d ds ihd =>
    intro u M h ρ w ca hS hA hds hu hR
    have hnr : concMode ρ u ≠ .run := by cases u <;> simp [concMode]
    have hd := hds d (by simp)
    have hrest : ∀ x ∈ ds, okL ρ x.captured ∧ okL ρ x.args := fun x hx => hds x (List.mem_cons_of_mem _ hx)
    simp only [leave] at h
    split at h
    · rename_i v u' M₂ hc
      obtain ⟨g, g1, g2, g3⟩ := dcall_sound hT hK hC hc hS hd.1 hd.2 hu
      refine ⟨hnr, _, _, g, _, g1, g2, CallsD.mono g3 ?_⟩
      intro e' um w' he
      obtain ⟨ρ', k1, k2, k3, rfl, k5⟩ := he
      obtain ⟨rfl, _⟩ := k3
      have hset := settle_conc u' k5
      have hdx := concDef_ext k1.ext hrest
      simp only
      rw [hset.1, ← hdx.1]
      exact ihd (asettle u') M₂ h ρ' w' ca k2 (hA.ext k1.ext) hdx.2 hset.2 fun e₂ w₂ h₂ => by
        obtain ⟨ρ₂, l1, l2, l3⟩ := h₂
        exact hR _ _ ⟨ρ₂, k1.trans l1, l2, l3⟩
    · rename_i ch u' M₂ hc
      obtain ⟨g, g1, g2, g3⟩ := dcall_sound hT hK hC hc hS hd.1 hd.2 hu
      refine ⟨hnr, _, _, g, _, g1, g2, CallsD.mono g3 ?_⟩
      intro e' um w' he
      obtain ⟨ρ', k1, k2, k3, rfl, k5⟩ := he
      obtain ⟨rfl, hch⟩ := k3
      have hset := raised_conc u' k5 ch hch
      have hdx := concDef_ext k1.ext hrest
      simp only
      rw [hset.1, ← hdx.1]
      exact ihd (araised u' ch) M₂ h ρ' w' ca k2 (hA.ext k1.ext) hdx.2 hset.2 fun e₂ w₂ h₂ => by
        obtain ⟨ρ₂, l1, l2, l3⟩ := h₂
        exact hR _ _ ⟨ρ₂, k1.trans l1, l2, l3⟩
    · cases h

theorem callF_sound {ih : Ev} (hT : TabOk P T) (hK : CodeOk P (codeF P T ih)) (hC : CallOk P ih.call) : CallOk P (callF P T ih) := by
  constructor
  · intro f vs M r h
    unfold callF at h
    split at h
    · rename_i fn hfn
      split at h
      · rename_i c hb
        obtain ⟨hf, hn⟩ := hT.funcs f fn hfn
        exact ⟨fn, c, hf, hb, hn⟩
      · cases h
    · cases h
  · intro f vs M e M' h ρ w hvs hS
    unfold callF at h
    split at h
    case h_2 => cases h
    rename_i fn hfn
    split at h
    case h_2 => cases h
    rename_i c hb
    obtain ⟨hf, hn⟩ := hT.funcs f fn hfn
    refine calls_of_wp_defers hf hb ?_
    have hrel := enter_rel (ρ := ρ) fn hvs rfl
    split at h
    · rename_i a M₂ hr
      refine (hK c _ M _ hr ρ w _ _ hS hrel ?_).1
      intro ρ' w' ca' g1 g2 g3 _
      have := leave_sound (R := Ends P M ρ w e M') hT hK hC a.defers .returning M₂ h ρ' w' ca' g2 g3 g3.defok trivial fun e₂ w₂ h₂ => by
        obtain ⟨ρ₂, l1, l2, l3⟩ := h₂
        exact ⟨ρ₂, g1.trans l1, l2, l3⟩
      rw [← g3.defers] at this
      exact this
    · rename_i a M₂ hr
      refine (hK c _ M _ hr ρ w _ _ hS hrel ?_).1
      intro ρ' w' ca' g1 g2 g3 _
      have := leave_sound (R := Ends P M ρ w e M') hT hK hC a.defers .returning M₂ h ρ' w' ca' g2 g3 g3.defok trivial fun e₂ w₂ h₂ => by
        obtain ⟨ρ₂, l1, l2, l3⟩ := h₂
        exact ⟨ρ₂, g1.trans l1, l2, l3⟩
      rw [← g3.defers] at this
      exact this
    · rename_i ch a M₂ hr
      refine (hK c _ M _ hr ρ w _ _ hS hrel ?_).1
      intro ρ' w' ca' g1 g2 g3 g4
      have := leave_sound (R := Ends P M ρ w e M') hT hK hC a.defers (.panicking ch) M₂ h ρ' w' ca' g2 g3 g3.defok g4 fun e₂ w₂ h₂ => by
        obtain ⟨ρ₂, l1, l2, l3⟩ := h₂
        exact ⟨ρ₂, g1.trans l1, l2, l3⟩
      rw [← g3.defers] at this
      exact this
    · cases h

theorem ev_sound (hT : TabOk P T) (hD : DrawSound P T) : ∀ n, CodeOk P (ev P T n).code ∧ CallOk P (ev P T n).call := by
  intro n
  induction n with
  | zero =>
    refine ⟨?_, ?_⟩
    · intro c a M r h
      exact absurd h (by simp [ev])
    · constructor
      · intro f vs M r h
        exact absurd h (by simp [ev])
      · intro f vs M e M' h
        exact absurd h (by simp [ev])
  | succ n ih =>
    have hK := codeF_sound hT hD ih.1 ih.2
    exact ⟨hK, callF_sound hT hK ih.2⟩

end Go.Tc

/- Soundness: regions whose order is drawn: what the run in one order shows. -/
namespace Go.Tc

mutual
theorem beqAV_eq : ∀ (a b : AV), beqAV a b = true → a = b
  | .bool a, b, h => by cases b <;> simp [beqAV] at h; rw [h]
  | .int k n, b, h => by cases b <;> simp [beqAV] at h; rw [h.1, h.2]
  | .float k n, b, h => by cases b <;> simp [beqAV] at h; rw [h.1, h.2]
  | .string s, b, h => by cases b <;> simp [beqAV] at h; rw [h]
  | .nilPtr, b, h => by cases b <;> simp [beqAV] at h; rfl
  | .ptr x y, b, h => by cases b <;> simp [beqAV] at h; rw [h.1, h.2]
  | .nilSlice, b, h => by cases b <;> simp [beqAV] at h; rfl
  | .slice x y z u v, b, h => by cases b <;> simp [beqAV] at h; simp [h]
  | .nilMap, b, h => by cases b <;> simp [beqAV] at h; rfl
  | .map x, b, h => by cases b <;> simp [beqAV] at h; rw [h]
  | .func f x y, b, h => by
    cases b <;> simp [beqAV] at h
    rename_i g z u
    rw [h.1.1, beqL_eq x z h.1.2, beqL_eq y u h.2]
  | .nilFunc, b, h => by cases b <;> simp [beqAV] at h; rfl
  | .iface t v, b, h => by
    cases b <;> simp [beqAV] at h
    rename_i u z
    rw [h.1, beqAV_eq v z h.2]
  | .nilIface, b, h => by cases b <;> simp [beqAV] at h; rfl
  | .agg x, b, h => by
    cases b <;> simp [beqAV] at h
    rename_i z
    rw [beqL_eq x z h]
  | .tuple x, b, h => by
    cases b <;> simp [beqAV] at h
    rename_i z
    rw [beqL_eq x z h]
theorem beqL_eq : ∀ (a b : List AV), beqL a b = true → a = b
  | [], b, h => by cases b <;> simp [beqL] at h; rfl
  | x :: r, b, h => by
    cases b <;> simp [beqL] at h
    rename_i y s
    rw [beqAV_eq x y h.1, beqL_eq r s h.2]
end

theorem beqEnts_eq : ∀ (a b : List AEnt), beqEnts a b = true → a = b
  | [], b, h => by cases b <;> simp [beqEnts] at h; rfl
  | x :: r, b, h => by
    cases b <;> simp [beqEnts] at h
    rename_i y s
    obtain ⟨⟨⟨h1, h2⟩, h3⟩, h4⟩ := h
    have e : x = y := by
      cases x; cases y
      simp only at h1 h2 h3
      rw [beqAV_eq _ _ h1, beqAV_eq _ _ h2, h3]
    rw [e, beqEnts_eq r s h4]

theorem beqBlk_eq {a b : ABlk} (h : beqBlk a b = true) : a = b := by
  cases a <;> cases b <;> simp [beqBlk] at h
  · obtain ⟨⟨⟨⟨h1, h2⟩, h3⟩, h4⟩, h5⟩ := h
    rw [beqL_eq _ _ h1, h2, h3, h4, h5]
  · rw [beqEnts_eq _ _ h.1, h.2]
  · rw [h.1, h.2]

theorem beqO_eq {a : Option AV} {b : AV} (h : beqO a b = true) : a = some b := by
  cases a with
  | none => simp [beqO] at h
  | some x => rw [beqAV_eq x b h]

theorem pickT_get (t : Tr AV) (x : Tmp) (v : AV) : ∀ r : List Tmp, (pickT t r).get x = some v → x ∈ r ∧ t.get x = some v := by
  intro r
  induction r with
  | nil => intro h; simp [pickT, Tr.get_leaf] at h
  | cons y r ih =>
    intro h
    simp only [pickT] at h
    split at h
    · rename_i u hu
      rw [Tr.get_set] at h
      split at h
      · rename_i e
        cases h
        exact ⟨by rw [e]; simp, by rw [e]; exact hu⟩
      · exact ⟨List.mem_cons_of_mem _ (ih h).1, (ih h).2⟩
    · exact ⟨List.mem_cons_of_mem _ (ih h).1, (ih h).2⟩

section
variable (P : Program) (T : Tab) (call : CallF) (ops : Array Oper) (B : Nat → Nat) (ch : List Nat)

/-- What one operation of the run did. -/
inductive StepIs (ds : List Did) (i : Nat) (o : Oper) (a : AAct) : Bool → AMem → List AMem → AV → Option (ABlk × Nat) → AMem → List AMem → Prop
  | skip {M Ms} : isChain T o = false → StepIs ds i o a false M Ms aundef none M Ms
  | skipC {M Ms} : isChain T o = true → ch[Ms.length]? = some i → (∀ (p : Oper) (j : Nat), ops[j]? = some p → isChain T p = false → lowOf B ch j ≤ Ms.length → ∃ d ∈ ds, d.i = j) →
      StepIs ds i o a false M Ms aundef none M (M :: Ms)
  | val {M Ms v} : isVal T o = true → aval P T a M o.type o.op = some v → StepIs ds i o a true M Ms v none M Ms
  | alloc {M Ms k f} : isVal T o = false → isAlloc T o = true → aalloc T a o.op = some (k, f) → StepIs ds i o a true M Ms (f M.next) (some (k, M.next)) (M.push k) Ms
  | chain {M Ms v M'} : isChain T o = true → ch[Ms.length]? = some i → (∀ (p : Oper) (j : Nat), ops[j]? = some p → isChain T p = false → lowOf B ch j ≤ Ms.length → ∃ d ∈ ds, d.i = j) →
      M.next ≤ M'.next → (aeff P T call a M o.op = some (.val v M') ∨ (aeff P T call a M o.op = some (.skip M') ∧ v = aundef)) → StepIs ds i o a true M Ms v none M' (M :: Ms)

/-- States of the run. -/
inductive Reach (a0 : AAct) (M0 : AMem) : AAct → AMem → List Did → List AMem → Prop
  | start : Reach a0 M0 a0 M0 [] []
  | step {a M ds Ms i o w res blk M' Ms'} : Reach a0 M0 a M ds Ms → ops[i]? = some o → a.fits o.dst = true → (∀ j, (B i).testBit j = true → ∃ d ∈ ds, d.i = j) → (∀ d ∈ ds, d.i ≠ i) →
      awanted ops (pick a (readsOf ops o)) o = some w → StepIs P T call ops B ch ds i o (pick a (readsOf ops o)) w M Ms res blk M' Ms' →
      Reach a0 M0 (a.put o.dst res) M' ({ i, a := pick a (readsOf ops o), wanted := w, res, blk } :: ds) Ms'
end

variable {P : Program} {T : Tab} {call : CallF} {ops : Array Oper} {B : Nat → Nat} {ch : List Nat} {a0 : AAct} {M0 : AMem}

/-- A run that ends in a panic. -/
structure Panics (P : Program) (T : Tab) (call : CallF) (ops : Array Oper) (B : Nat → Nat) (ch : List Nat) (a0 : AAct) (M0 : AMem) (chain : List APan) (a' : AAct) (M' : AMem) (ds : List Did) (Ms : List AMem) (i : Nat) (o : Oper) (a : AAct) (M : AMem) : Prop where
  reach : Reach P T call ops B ch a0 M0 a M ds Ms
  act : a' = clearDsts ops.toList a
  op : ops[i]? = some o
  chained : isChain T o = true
  at_ : ch[Ms.length]? = some i
  pre : ∀ j, (B i).testBit j = true → ∃ d ∈ ds, d.i = j
  new : ∀ d ∈ ds, d.i ≠ i
  asap : ∀ (p : Oper) (j : Nat), ops[j]? = some p → isChain T p = false → lowOf B ch j ≤ Ms.length → ∃ d ∈ ds, d.i = j
  wanted : awanted ops (pick a (readsOf ops o)) o = some true
  eff : aeff P T call (pick a (readsOf ops o)) M o.op = some (.panic chain M')

theorem mask_pre {E : Nat} {ds : List Did} (hE : ∀ j, E.testBit j = true ↔ ∃ d ∈ ds, d.i = j) {i : Nat} (h : (B i &&& E == B i) = true) : ∀ j, (B i).testBit j = true → ∃ d ∈ ds, d.i = j := by
  intro j hj
  have h' : B i &&& E = B i := by simpa using h
  have : (B i &&& E).testBit j = true := by rw [h']; exact hj
  rw [Nat.testBit_and, Bool.and_eq_true] at this
  exact (hE j).1 this.2

theorem mask_set {E : Nat} {ds : List Did} (hE : ∀ j, E.testBit j = true ↔ ∃ d ∈ ds, d.i = j) {i : Nat} {d : Did} (hd : d.i = i) : ∀ j, (E ||| 2 ^ i).testBit j = true ↔ ∃ x ∈ d :: ds, x.i = j := by
  intro j
  subst hd
  rw [Nat.testBit_or, Bool.or_eq_true, hE, Nat.testBit_two_pow]
  simp only [List.mem_cons, exists_eq_or_imp, decide_eq_true_eq]
  exact Or.comm

theorem asap_of {E k : Nat} {ds : List Did} (hE : ∀ j, E.testBit j = true ↔ ∃ d ∈ ds, d.i = j) (h : (ops.toList.zipIdx.all fun (p, j) => isChain T p || decide (k < lowOf B ch j) || E.testBit j) = true) :
    ∀ (p : Oper) (j : Nat), ops[j]? = some p → isChain T p = false → lowOf B ch j ≤ k → ∃ d ∈ ds, d.i = j := by
  intro p j hp hc hl
  have hm : (p, j) ∈ ops.toList.zipIdx := by
    rw [List.mem_zipIdx_iff_getElem?]
    simpa using hp
  have := List.all_eq_true.1 h _ hm
  simp only [hc, Bool.false_or, Bool.or_eq_true, decide_eq_true_eq] at this
  rcases this with h | h
  · omega
  · exact (hE j).1 h

theorem runL_reach : ∀ (L : List Nat) (E : Nat) (a : AAct) (M : AMem) (ds : List Did) (Ms : List AMem) (e : AExit) (a' : AAct) (M' : AMem) (ds' : List Did) (Ms' : List AMem),
    orderOk T ops B ch L E Ms.length = true → (∀ j, E.testBit j = true ↔ ∃ d ∈ ds, d.i = j) → runL P T call ops L a M ds Ms = some (e, a', M', ds', Ms') → Reach P T call ops B ch a0 M0 a M ds Ms →
    (e = .normal ∧ ∃ Ms₂, Ms' = M' :: Ms₂ ∧ Reach P T call ops B ch a0 M0 a' M' ds' Ms₂ ∧ ∀ j, j < ops.size → ∃ d ∈ ds', d.i = j) ∨
    (∃ chain i o a₂ M₂ Ms₂, e = .panic chain ∧ Ms' = M₂ :: Ms₂ ∧ Panics P T call ops B ch a0 M0 chain a' M' ds' Ms₂ i o a₂ M₂) := by
  intro L
  induction L with
  | nil =>
    intro E a M ds Ms e a' M' ds' Ms' hok hE h hR
    simp only [runL, Option.some.injEq, Prod.mk.injEq] at h
    obtain ⟨rfl, rfl, rfl, rfl, rfl⟩ := h
    refine .inl ⟨rfl, _, rfl, hR, ?_⟩
    intro j hj
    simp only [orderOk, List.all_eq_true, List.mem_range] at hok
    exact (hE j).1 (hok j hj)
  | cons i L ih =>
    intro E a M ds Ms e a' M' ds' Ms' hok hE h hR
    simp only [orderOk, Bool.and_eq_true] at hok
    obtain ⟨⟨h1, h2⟩, h3⟩ := hok
    have hpre := mask_pre hE h2
    have hnew : ∀ d ∈ ds, d.i ≠ i := by
      intro d hd e
      have := (hE i).2 ⟨d, hd, e⟩
      rw [this] at h1
      cases h1
    simp only [runL] at h
    cases ho : ops[i]? with
    | none => simp [ho] at h
    | some o =>
      simp only [ho] at h h3
      split at h
      case isFalse => cases h
      rename_i hfit
      split at h
      · cases h
      · rename_i hw
        have hE' := @mask_set E ds hE i { i, a := pick a (readsOf ops o), wanted := false, res := aundef, blk := none } rfl
        cases hc : isChain T o with
        | true =>
          simp only [hc, if_true, Bool.and_eq_true, beq_iff_eq] at h h3
          exact ih _ _ _ _ (M :: Ms) _ _ _ _ _ h3.2 hE' h (.step hR ho hfit hpre hnew hw (.skipC hc h3.1.1 (asap_of hE h3.1.2)))
        | false =>
          simp only [hc, Bool.false_eq_true, if_false] at h h3
          exact ih _ _ _ _ Ms _ _ _ _ _ h3 hE' h (.step hR ho hfit hpre hnew hw (.skip hc))
      · rename_i hw
        split at h
        · rename_i hv
          have hc : isChain T o = false := by simp [isChain, hv]
          simp only [hc, Bool.false_eq_true, if_false] at h3
          split at h
          · rename_i v hav
            exact ih _ _ _ _ Ms _ _ _ _ _ h3 (mask_set hE rfl) h (.step hR ho hfit hpre hnew hw (.val hv hav))
          · cases h
        · rename_i hv
          have hv' : isVal T o = false := by simpa using hv
          split at h
          · rename_i hal
            have hc : isChain T o = false := by simp [isChain, hal]
            simp only [hc, Bool.false_eq_true, if_false] at h3
            split at h
            · rename_i k f hk
              exact ih _ _ _ _ Ms _ _ _ _ _ h3 (mask_set hE rfl) h (.step hR ho hfit hpre hnew hw (.alloc hv' hal hk))
            · cases h
          · rename_i hal
            have hal' : isAlloc T o = false := by simpa using hal
            have hc : isChain T o = true := by simp [isChain, hv', hal']
            simp only [hc, if_true, Bool.and_eq_true, beq_iff_eq] at h3
            have hasap := asap_of hE h3.1.2
            split at h
            · rename_i v M₁ hef
              split at h
              case isFalse => cases h
              rename_i hmono
              exact ih _ _ _ _ (M :: Ms) _ _ _ _ _ h3.2 (mask_set hE rfl) h (.step hR ho hfit hpre hnew hw (.chain hc h3.1.1 hasap hmono (.inl hef)))
            · rename_i M₁ hef
              split at h
              case isFalse => cases h
              rename_i hmono
              exact ih _ _ _ _ (M :: Ms) _ _ _ _ _ h3.2 (mask_set hE rfl) h (.step hR ho hfit hpre hnew hw (.chain hc h3.1.1 hasap hmono (.inr ⟨hef, rfl⟩)))
            · rename_i chain M₁ hef
              simp only [Option.some.injEq, Prod.mk.injEq] at h
              obtain ⟨rfl, rfl, rfl, rfl, rfl⟩ := h
              exact .inr ⟨_, _, _, _, _, _, rfl, rfl, hR, rfl, ho, hc, h3.1.1, hpre, hnew, hasap, hw, hef⟩
            · cases h

end Go.Tc

/- Soundness: regions whose order is drawn: facts of the run. -/
namespace Go.Tc

variable {P : Program} {T : Tab} {call : CallF} {ops : Array Oper} {B : Nat → Nat} {ch : List Nat} {a0 : AAct} {M0 : AMem} {a : AAct} {M : AMem} {ds : List Did} {Ms : List AMem}

theorem reach_ids (h : Reach P T call ops B ch a0 M0 a M ds Ms) : ∀ d ∈ ds, ∀ d' ∈ ds, d.i = d'.i → d = d' := by
  induction h with
  | start => intro d hd; simp at hd
  | step _ _ _ _ hnew _ _ ih =>
    intro d hd d' hd' e
    rcases List.mem_cons.1 hd with rfl | hd <;> rcases List.mem_cons.1 hd' with rfl | hd'
    · rfl
    · exact absurd e.symm (hnew d' hd')
    · exact absurd e (hnew d hd)
    · exact ih d hd d' hd' e

/-- What is known of one operation that the run came to. -/
structure RecIs (P : Program) (T : Tab) (call : CallF) (ops : Array Oper) (B : Nat → Nat) (ch : List Nat) (a0 : AAct) (M0 : AMem) (ds : List Did) (d : Did) (A : AAct) (r : List Did) (Mr : AMem) (Msr : List AMem) (o : Oper)
    (M' : AMem) (Ms' : List AMem) : Prop where
  reach : Reach P T call ops B ch a0 M0 A Mr r Msr
  op : ops[d.i]? = some o
  fits : A.fits o.dst = true
  act : d.a = pick A (readsOf ops o)
  sub : ∀ x ∈ r, x ∈ ds
  pre : ∀ j, (B d.i).testBit j = true → ∃ x ∈ r, x.i = j
  new : ∀ x ∈ r, x.i ≠ d.i
  wanted : awanted ops d.a o = some d.wanted
  step : StepIs P T call ops B ch r d.i o d.a d.wanted Mr Msr d.res d.blk M' Ms'

theorem reach_rec (h : Reach P T call ops B ch a0 M0 a M ds Ms) : ∀ d ∈ ds, ∃ A r Mr Msr o M' Ms', RecIs P T call ops B ch a0 M0 ds d A r Mr Msr o M' Ms' := by
  induction h with
  | start => intro d hd; simp at hd
  | step hR ho hfit hpre hnew hw hst ih =>
    intro d hd
    rcases List.mem_cons.1 hd with rfl | hd
    · exact ⟨_, _, _, _, _, _, _, hR, ho, hfit, rfl, fun x hx => List.mem_cons_of_mem _ hx, hpre, hnew, hw, hst⟩
    · obtain ⟨A, r, Mr, Msr, o, M', Ms', k⟩ := ih d hd
      exact ⟨A, r, Mr, Msr, o, M', Ms', k.reach, k.op, k.fits, k.act, fun x hx => List.mem_cons_of_mem _ (k.sub x hx), k.pre, k.new, k.wanted, k.step⟩

theorem reach_act (h : Reach P T call ops B ch a0 M0 a M ds Ms) : a.n = a0.n ∧ a.defers = a0.defers ∧
    ∀ t, (∃ d ∈ ds, ∃ o, ops[d.i]? = some o ∧ o.dst = some t ∧ a.t.get t = some d.res) ∨ ((∀ d ∈ ds, ∀ o, ops[d.i]? = some o → o.dst ≠ some t) ∧ a.t.get t = a0.t.get t) := by
  induction h with
  | start => exact ⟨rfl, rfl, fun t => .inr ⟨by simp, rfl⟩⟩
  | @step a M ds Ms i o w res blk M' Ms' hR ho hfit hpre hnew hw hst ih =>
    obtain ⟨h1, h2, h3⟩ := ih
    cases hd : o.dst with
    | none =>
      refine ⟨by simpa [AAct.put_none, AAct.put_some] using h1, by simpa [AAct.put_none, AAct.put_some] using h2, fun t => ?_⟩
      simp only [AAct.put_none]
      rcases h3 t with ⟨d, hd', o', e1, e2, e3⟩ | ⟨e1, e2⟩
      · exact .inl ⟨d, List.mem_cons_of_mem _ hd', o', e1, e2, e3⟩
      · refine .inr ⟨fun d hd' o' ho' => ?_, e2⟩
        rcases List.mem_cons.1 hd' with rfl | hd'
        · rw [ho] at ho'; cases ho'; rw [hd]; simp
        · exact e1 d hd' o' ho'
    | some x =>
      refine ⟨by simpa [AAct.put_none, AAct.put_some] using h1, by simpa [AAct.put_none, AAct.put_some] using h2, fun t => ?_⟩
      simp only [AAct.put_some, Tr.get_set]
      by_cases e : t = x
      · subst e
        refine .inl ⟨_, List.mem_cons_self .., o, ho, hd, ?_⟩
        simp
      · rw [if_neg e]
        rcases h3 t with ⟨d, hd', o', e1, e2, e3⟩ | ⟨e1, e2⟩
        · exact .inl ⟨d, List.mem_cons_of_mem _ hd', o', e1, e2, e3⟩
        · refine .inr ⟨fun d hd' o' ho' => ?_, e2⟩
          rcases List.mem_cons.1 hd' with rfl | hd'
          · rw [ho] at ho'; cases ho'; rw [hd]; simp; exact fun h => e h.symm
          · exact e1 d hd' o' ho'

end Go.Tc

/- Soundness: regions whose order is drawn: the memories of the run. -/
namespace Go.Tc

variable {P : Program} {T : Tab} {call : CallF} {ops : Array Oper} {B : Nat → Nat} {ch : List Nat} {a0 : AAct} {M0 : AMem} {a : AAct} {M : AMem} {ds : List Did} {Ms : List AMem}

/-- From one memory to another by new blocks alone. -/
inductive Grown : AMem → AMem → Prop
  | refl (M : AMem) : Grown M M
  | push {M N : AMem} (k : ABlk) : Grown M N → Grown M (N.push k)

theorem Grown.next {M N : AMem} (h : Grown M N) : M.next ≤ N.next := by
  induction h with
  | refl => exact Nat.le_refl _
  | push k _ ih => simp only [AMem.next_push]; omega

theorem Sim.grown {ρ : Rho} {w : World} {M N : AMem} (h : Grown M N) (hS : Sim P ρ M w) : Sim P ρ N w := by
  induction h with
  | refl => exact hS
  | push k _ ih => exact Sim.push ih k

/-- The chain's step over memory. -/
noncomputable def ChainStep (P : Program) (T : Tab) (call : CallF) (o : Oper) (d : Did) (N M' : AMem) : Prop :=
  (d.wanted = false ∧ M' = N ∧ d.res = aundef) ∨ (d.wanted = true ∧ (aeff P T call d.a N o.op = some (.val d.res M') ∨ (aeff P T call d.a N o.op = some (.skip M') ∧ d.res = aundef)))

structure MemOk (P : Program) (T : Tab) (call : CallF) (ops : Array Oper) (ch : List Nat) (M0 M : AMem) (ds : List Did) (Ns : List AMem) : Prop where
  base : ∃ N, Ns[0]? = some N ∧ Grown M0 N
  last : ∃ n, Ns.length = n + 1 ∧ Ns[n]? = some M
  mono : M0.next ≤ M.next
  upper : ∀ (m : Nat) (N : AMem), Ns[m]? = some N → N.next ≤ M.next
  link : ∀ m, m + 1 < Ns.length → ∃ N N' i o d M', Ns[m]? = some N ∧ Ns[m + 1]? = some N' ∧ ch[m]? = some i ∧ d ∈ ds ∧ d.i = i ∧ ops[i]? = some o ∧ isChain T o = true ∧ ChainStep P T call o d N M' ∧ Grown M' N' ∧
    M0.next ≤ N.next ∧ N.next ≤ M'.next ∧ ∀ x ∈ ds, ∀ k n, x.blk = some (k, n) → n < N.next ∨ M'.next ≤ n
  ids : ∀ x ∈ ds, ∀ k n, x.blk = some (k, n) → M0.next ≤ n ∧ n < M.next
  sole : ∀ x ∈ ds, ∀ y ∈ ds, ∀ k n k', x.blk = some (k, n) → y.blk = some (k', n) → x = y

theorem memok_same {Ns : List AMem} (h : MemOk P T call ops ch M0 M ds Ns) {d : Did} (hd : d.blk = none) : MemOk P T call ops ch M0 M (d :: ds) Ns := by
  refine ⟨h.base, h.last, h.mono, h.upper, ?_, ?_, ?_⟩
  · intro m hm
    obtain ⟨N, N', i, o, d', M', e1, e2, e3, e4, e5⟩ := h.link m hm
    obtain ⟨f1, f2, f3, f4, f5, f6, f7, f8⟩ := e5
    refine ⟨N, N', i, o, d', M', e1, e2, e3, List.mem_cons_of_mem _ e4, f1, f2, f3, f4, f5, f6, f7, fun x hx k n hb => ?_⟩
    rcases List.mem_cons.1 hx with rfl | hx
    · rw [hd] at hb; cases hb
    · exact f8 x hx k n hb
  · intro x hx k n hb
    rcases List.mem_cons.1 hx with rfl | hx
    · rw [hd] at hb; cases hb
    · exact h.ids x hx k n hb
  · intro x hx y hy k n k' hb hb'
    rcases List.mem_cons.1 hx with rfl | hx
    · rw [hd] at hb; cases hb
    · rcases List.mem_cons.1 hy with rfl | hy
      · rw [hd] at hb'; cases hb'
      · exact h.sole x hx y hy k n k' hb hb'

theorem memok_chain {L : List AMem} (h : MemOk P T call ops ch M0 M ds (L ++ [M])) {d : Did} (hd : d.blk = none) {o : Oper} {M' : AMem} (ho : ops[d.i]? = some o) (hc : isChain T o = true)
    (hat : ch[L.length]? = some d.i) (hst : ChainStep P T call o d M M') (hmono : M.next ≤ M'.next) : MemOk P T call ops ch M0 M' (d :: ds) (L ++ [M] ++ [M']) := by
  have h' := memok_same h hd
  refine ⟨?_, ⟨L.length + 1, by simp, by simp⟩, Nat.le_trans h.mono hmono, ?_, ?_, ?_, h'.sole⟩
  · obtain ⟨N, e, g⟩ := h.base
    exact ⟨N, by rw [List.getElem?_append_left (by simp)]; exact e, g⟩
  · intro m N hN
    rw [List.getElem?_append] at hN
    split at hN
    · exact Nat.le_trans (h.upper m N hN) hmono
    · have := List.mem_of_getElem? hN
      simp at this
      subst this
      exact Nat.le_refl _
  · intro m hm
    by_cases hlt : m + 1 < (L ++ [M]).length
    · obtain ⟨N, N', i, o', d', M₁, e1, e2, rest⟩ := h'.link m hlt
      exact ⟨N, N', i, o', d', M₁, by rw [List.getElem?_append_left (by omega)]; exact e1, by rw [List.getElem?_append_left hlt]; exact e2, rest⟩
    · have hm' : m = L.length := by simp at hm hlt; omega
      subst hm'
      refine ⟨M, M', d.i, o, d, M', by simp, by simp, hat, List.mem_cons_self .., rfl, ho, hc, hst, .refl _, h.mono, hmono, ?_⟩
      intro x hx k n hb
      rcases List.mem_cons.1 hx with rfl | hx
      · rw [hd] at hb; cases hb
      · exact .inl (h.ids x hx k n hb).2
  · intro x hx k n hb
    rcases List.mem_cons.1 hx with rfl | hx
    · rw [hd] at hb; cases hb
    · have := h.ids x hx k n hb
      exact ⟨this.1, by omega⟩

theorem memok_alloc {L : List AMem} (h : MemOk P T call ops ch M0 M ds (L ++ [M])) {d : Did} {k : ABlk} (hd : d.blk = some (k, M.next)) : MemOk P T call ops ch M0 (M.push k) (d :: ds) (L ++ [M.push k]) := by
  refine ⟨?_, ⟨L.length, by simp, by simp⟩, by simp only [AMem.next_push]; have := h.mono; omega, ?_, ?_, ?_, ?_⟩
  · obtain ⟨N, e, g⟩ := h.base
    cases L with
    | nil => simp at e; subst e; exact ⟨_, by simp, .push k g⟩
    | cons x r => exact ⟨N, by simpa using e, g⟩
  · intro m N hN
    simp only [AMem.next_push]
    rw [List.getElem?_append] at hN
    split at hN
    · rename_i hlt
      have := h.upper m N (by rw [List.getElem?_append_left hlt]; exact hN)
      omega
    · have := List.mem_of_getElem? hN
      simp at this
      subst this
      simp only [AMem.next_push]
      omega
  · intro m hm
    have hm0 : m + 1 < (L ++ [M]).length := by simpa using hm
    obtain ⟨N, N', i, o', d', M₁, e1, e2, e3, e4, f1, f2, f3, f4, f5, f6, f7, f8⟩ := h.link m hm0
    have hml : m < L.length := by simp at hm; omega
    have hNm : (L ++ [M.push k])[m]? = some N := by
      rw [List.getElem?_append_left hml] at e1 ⊢
      exact e1
    have hle : M₁.next ≤ M.next ∧ ∃ N₂, (L ++ [M.push k])[m + 1]? = some N₂ ∧ Grown M₁ N₂ := by
      by_cases hlt : m + 1 < L.length
      · have hu := h.upper (m + 1) N' e2
        have hg := f5.next
        refine ⟨by omega, N', ?_, f5⟩
        rw [List.getElem?_append_left hlt] at e2 ⊢
        exact e2
      · have : m + 1 = L.length := by omega
        rw [this] at e2 ⊢
        simp at e2
        subst e2
        exact ⟨f5.next, M.push k, by simp, .push k f5⟩
    obtain ⟨g1, N₂, g2, g3⟩ := hle
    refine ⟨N, N₂, i, o', d', M₁, hNm, g2, e3, List.mem_cons_of_mem _ e4, f1, f2, f3, f4, g3, f6, f7, fun x hx k' n hb => ?_⟩
    rcases List.mem_cons.1 hx with rfl | hx
    · rw [hd] at hb; cases hb; exact .inr g1
    · exact f8 x hx k' n hb
  · intro x hx k' n hb
    simp only [AMem.next_push]
    rcases List.mem_cons.1 hx with rfl | hx
    · rw [hd] at hb; cases hb; exact ⟨h.mono, by omega⟩
    · have := h.ids x hx k' n hb; exact ⟨this.1, by omega⟩
  · intro x hx y hy k1 n k2 hb hb'
    rcases List.mem_cons.1 hx with hx | hx <;> rcases List.mem_cons.1 hy with hy | hy
    · rw [hx, hy]
    · rw [hx, hd] at hb; cases hb; have := (h.ids y hy _ _ hb').2; omega
    · rw [hy, hd] at hb'; cases hb'; have := (h.ids x hx _ _ hb).2; omega
    · exact h.sole x hx y hy _ _ _ hb hb'

theorem reach_mem (h : Reach P T call ops B ch a0 M0 a M ds Ms) : MemOk P T call ops ch M0 M ds (Ms.reverse ++ [M]) := by
  induction h with
  | start =>
    refine ⟨⟨M0, by simp, .refl _⟩, ⟨0, by simp, by simp⟩, Nat.le_refl _, by intro m N hN; have := List.mem_of_getElem? hN; simp at this; subst this; exact Nat.le_refl _, ?_, by simp, by simp⟩
    intro m hm
    simp at hm
  | @step a M ds Ms i o w res blk M' Ms' hR ho hfit hpre hnew hw hst ih =>
    generalize hpk : pick a (readsOf ops o) = pa at *
    cases hst with
    | skip hc => exact memok_same ih rfl
    | val hv ha => exact memok_same ih rfl
    | skipC hc hat has => simpa using memok_chain ih rfl ho hc (by simpa using hat) (.inl ⟨rfl, rfl, rfl⟩) (Nat.le_refl _)
    | alloc hv hal hk => exact memok_alloc ih rfl
    | chain hc hat has hmono hef => simpa using memok_chain ih rfl ho hc (by simpa using hat) (.inr ⟨rfl, hef⟩) hmono

end Go.Tc

/- Soundness: regions whose order is drawn: static facts, and more facts of the run. -/
namespace Go.Tc

variable {P : Program} {T : Tab} {call : CallF} {ops : Array Oper} {B : Nat → Nat} {ch : List Nat} {a0 : AAct} {M0 : AMem} {a : AAct} {M : AMem} {ds : List Did} {Ms : List AMem}

/-! ### static facts -/

theorem mem_zipIdx_ops {ops : Array Oper} {o : Oper} {i : Nat} : (o, i) ∈ ops.toList.zipIdx ↔ ops[i]? = some o := by
  rw [List.mem_zipIdx_iff_getElem?]
  simp

structure Stat (T : Tab) (ops : Array Oper) (B : Nat → Nat) (ch : List Nat) : Prop where
  mask : ∀ (i : Nat) (o : Oper), ops[i]? = some o → B i = maskOf B o
  dsts : ∀ (i : Nat) (o : Oper) (j : Nat) (p : Oper), ops[i]? = some o → ops[j]? = some p → i ≠ j → ∀ d, p.dst = some d → o.dst ≠ some d
  apart : ∀ (i : Nat) (o : Oper) (j : Nat) (p : Oper), ops[i]? = some o → ops[j]? = some p → i ≠ j → ∀ d, p.dst = some d → d ∈ readsOf ops o → (B i).testBit j = true ∨ (B j).testBit i = true
  linked : ∀ (m m' c d : Nat), m < m' → ch[m]? = some c → ch[m']? = some d → (B d).testBit c = true
  ofch : ∀ (i : Nat), i ∈ ch → ∃ o, ops[i]? = some o ∧ isChain T o = true
  inch : ∀ (i : Nat) (o : Oper), ops[i]? = some o → isChain T o = true → i ∈ ch

theorem linked_spec {B : Nat → Nat} : ∀ {ch : List Nat}, linked B ch = true → ∀ (m m' c d : Nat), m < m' → ch[m]? = some c → ch[m']? = some d → (B d).testBit c = true := by
  intro ch
  induction ch with
  | nil => intro _ m m' c d _ h; simp at h
  | cons x r ih =>
    intro h m m' c d hlt hc hd
    simp only [linked, Bool.and_eq_true, List.all_eq_true] at h
    cases m' with
    | zero => omega
    | succ m' =>
      simp only [List.getElem?_cons_succ] at hd
      cases m with
      | zero =>
        simp at hc
        subst hc
        exact h.1 d (List.mem_of_getElem? hd)
      | succ m =>
        simp only [List.getElem?_cons_succ] at hc
        exact ih h.2 m m' c d (by omega) hc hd

theorem readsFit_spec {W : Tr Nat} {i : Nat} : ∀ {l : List Tmp}, readsFit W B i l = true → ∀ d ∈ l, ∀ j, W.get d = some j → j = i ∨ (B i).testBit j = true ∨ (B j).testBit i = true := by
  intro l
  induction l with
  | nil => intro _ d hd; simp at hd
  | cons x r ih =>
    intro h d hd j hj
    simp only [readsFit, Bool.and_eq_true] at h
    rcases List.mem_cons.1 hd with rfl | hd
    · rw [hj] at h
      have := h.1
      simp only [Bool.or_eq_true, beq_iff_eq] at this
      rcases this with (h | h) | h
      · exact .inl h
      · exact .inr (.inl h)
      · exact .inr (.inr h)
    · exact ih h.2 d hd j hj

theorem drawOkGo_spec {W : Tr Nat} : ∀ {l : List Oper} {s : Nat}, drawOkGo ops B W l s = true → ∀ (k : Nat) (o : Oper), l[k]? = some o →
    B (s + k) = maskOf B o ∧ writesOnce W o (s + k) = true ∧ readsFit W B (s + k) (readsOf ops o) = true := by
  intro l
  induction l with
  | nil => intro s _ k o hk; simp at hk
  | cons x r ih =>
    intro s h k o hk
    simp only [drawOkGo, Bool.and_eq_true, beq_iff_eq] at h
    obtain ⟨⟨⟨h1, h2⟩, h3⟩, h4⟩ := h
    cases k with
    | zero => simp at hk; subst hk; exact ⟨h1, h2, h3⟩
    | succ k =>
      have := ih h4 k o (by simpa using hk)
      rw [show s + 1 + k = s + (k + 1) from by omega] at this
      exact this

theorem stat_of (h : drawOk ops B (chainList T ops) = true) : Stat T ops B (chainList T ops) := by
  simp only [drawOk, Bool.and_eq_true] at h
  obtain ⟨h1, h3⟩ := h
  have hat : ∀ (i : Nat) (o : Oper), ops[i]? = some o → B i = maskOf B o ∧ writesOnce (writersGo ops.toList 0 .leaf) o i = true ∧ readsFit (writersGo ops.toList 0 .leaf) B i (readsOf ops o) = true := by
    intro i o hi
    have := drawOkGo_spec h1 i o (by rw [Array.getElem?_toList]; exact hi)
    rw [Nat.zero_add] at this
    exact this
  have hwr : ∀ (j : Nat) (p : Oper), ops[j]? = some p → ∀ d, p.dst = some d → (writersGo ops.toList 0 .leaf).get d = some j := by
    intro j p hj d hd
    have := (hat j p hj).2.1
    simp only [writesOnce, hd] at this
    split at this
    · rename_i k hk
      rw [hk, beq_iff_eq.1 this]
    · cases this
  refine ⟨fun i o hi => (hat i o hi).1, ?_, ?_, linked_spec h3, ?_, ?_⟩
  · intro i o j p hi hj hne d hd hod
    have g1 := hwr i o hi d hod
    have g2 := hwr j p hj d hd
    rw [g1] at g2
    cases g2
    exact hne rfl
  · intro i o j p hi hj hne d hd hr
    rcases readsFit_spec (hat i o hi).2.2 d hr j (hwr j p hj d hd) with e | e
    · exact absurd e.symm hne
    · exact e
  · intro i hi
    simp only [chainList, List.mem_map, List.mem_filter] at hi
    obtain ⟨⟨o, j⟩, ⟨hm, hc⟩, rfl⟩ := hi
    exact ⟨o, mem_zipIdx_ops.1 hm, hc⟩
  · intro i o hi hc
    simp only [chainList, List.mem_map, List.mem_filter]
    exact ⟨(o, i), ⟨mem_zipIdx_ops.2 hi, hc⟩, rfl⟩

theorem maskOf_fold (B : Nat → Nat) (j : Nat) : ∀ (l : List Edge) (s : Nat),
    (l.foldl (fun s e => if Region.binds .any e then s ||| (2 ^ e.on ||| B e.on) else s) s).testBit j = true ↔
      s.testBit j = true ∨ ∃ e ∈ l, Region.binds .any e = true ∧ (e.on = j ∨ (B e.on).testBit j = true) := by
  intro l
  induction l with
  | nil => intro s; simp
  | cons e r ih =>
    intro s
    rw [List.foldl_cons, ih]
    by_cases hb : Region.binds .any e = true
    · simp only [hb, if_true, Nat.testBit_or, Bool.or_eq_true, Nat.testBit_two_pow, decide_eq_true_eq, List.mem_cons, exists_eq_or_imp, true_and]
      constructor
      · rintro ((h | h) | h)
        · exact .inl h
        · exact .inr (.inl h)
        · exact .inr (.inr h)
      · rintro (h | h | h)
        · exact .inl (.inl h)
        · exact .inl (.inr h)
        · exact .inr h
    · simp only [hb, Bool.false_eq_true, if_false, List.mem_cons, exists_eq_or_imp, false_and, false_or]

theorem maskOf_spec (B : Nat → Nat) (o : Oper) (j : Nat) : (maskOf B o).testBit j = true ↔ ∃ e ∈ o.after, Region.binds .any e = true ∧ (e.on = j ∨ (B e.on).testBit j = true) := by
  unfold maskOf
  rw [maskOf_fold]
  simp

theorem chain_of_val {o : Oper} (h : isVal T o = true) : isChain T o = false := by simp [isChain, h]
theorem chain_of_alloc {o : Oper} (h : isAlloc T o = true) : isChain T o = false := by simp [isChain, h]

/-! ### the run -/

theorem step_len {i : Nat} {o : Oper} {w : Bool} {aa : AAct} {M' : AMem} {Ms' : List AMem} {res : AV} {blk : Option (ABlk × Nat)} (h : StepIs P T call ops B ch ds i o aa w M Ms res blk M' Ms') :
    (isChain T o = false ∧ Ms' = Ms) ∨ (isChain T o = true ∧ ch[Ms.length]? = some i ∧ Ms' = M :: Ms) := by
  cases h with
  | skip h => exact .inl ⟨h, rfl⟩
  | skipC h k _ => exact .inr ⟨h, k, rfl⟩
  | val h _ => exact .inl ⟨chain_of_val h, rfl⟩
  | alloc _ h _ => exact .inl ⟨chain_of_alloc h, rfl⟩
  | chain h k _ _ _ => exact .inr ⟨h, k, rfl⟩

theorem reach_chain (h : Reach P T call ops B ch a0 M0 a M ds Ms) : Ms.length ≤ ch.length ∧ ∀ d ∈ ds, ∀ o, ops[d.i]? = some o → isChain T o = true → ∃ m, m < Ms.length ∧ ch[m]? = some d.i := by
  induction h with
  | start => exact ⟨Nat.zero_le _, by simp⟩
  | @step a M ds Ms i o w res blk M' Ms' hR ho hfit hpre hnew hw hst ih =>
    rcases step_len hst with ⟨hc, rfl⟩ | ⟨hc, hat, rfl⟩
    · refine ⟨ih.1, fun d hd o' ho' hc' => ?_⟩
      rcases List.mem_cons.1 hd with rfl | hd
      · rw [ho] at ho'; cases ho'; rw [hc] at hc'; cases hc'
      · exact ih.2 d hd o' ho' hc'
    · have hlt := (List.getElem?_eq_some_iff.1 hat).1
      refine ⟨by simp only [List.length_cons]; omega, fun d hd o' ho' hc' => ?_⟩
      rcases List.mem_cons.1 hd with rfl | hd
      · exact ⟨Ms.length, by simp, hat⟩
      · obtain ⟨m, hm, e⟩ := ih.2 d hd o' ho' hc'
        exact ⟨m, by simp only [List.length_cons]; omega, e⟩

/-- Some operation of the run comes next, whatever was listed. -/
theorem reach_next (h : Reach P T call ops B ch a0 M0 a M ds Ms) (L : Nat → Prop) : (∀ d ∈ ds, L d.i) ∨ ∃ d ∈ ds, ¬ L d.i ∧ ∀ j, (B d.i).testBit j = true → L j := by
  induction h with
  | start => exact .inl (by simp)
  | @step a M ds Ms i o w res blk M' Ms' hR ho hfit hpre hnew hw hst ih =>
    rcases ih with ih | ⟨d, hd, h1, h2⟩
    · by_cases hi : L i
      · refine .inl fun d hd => ?_
        rcases List.mem_cons.1 hd with rfl | hd
        · exact hi
        · exact ih d hd
      · refine .inr ⟨_, List.mem_cons_self .., hi, fun j hj => ?_⟩
        obtain ⟨x, hx, rfl⟩ := hpre j hj
        exact ih x hx
    · exact .inr ⟨d, List.mem_cons_of_mem _ hd, h1, h2⟩

theorem reach_ops (h : Reach P T call ops B ch a0 M0 a M ds Ms) : ∀ d ∈ ds, ∃ o, ops[d.i]? = some o := by
  induction h with
  | start => simp
  | step hR ho _ _ _ _ _ ih =>
    intro d hd
    rcases List.mem_cons.1 hd with rfl | hd
    · exact ⟨_, ho⟩
    · exact ih d hd

theorem clearDsts_get : ∀ (l : List Oper) (a : AAct), (clearDsts l a).n = a.n ∧ (clearDsts l a).defers = a.defers ∧ ∀ t v, (clearDsts l a).t.get t = some v → (∀ o ∈ l, o.dst ≠ some t) ∧ a.t.get t = some v := by
  intro l
  induction l with
  | nil => intro a; exact ⟨rfl, rfl, fun t v h => ⟨by simp, h⟩⟩
  | cons o r ih =>
    intro a
    simp only [clearDsts, List.foldl_cons]
    cases hd : o.dst with
    | none =>
      obtain ⟨h1, h2, h3⟩ := ih a
      refine ⟨h1, h2, fun t v h => ?_⟩
      have := h3 t v h
      exact ⟨fun x hx => by
        rcases List.mem_cons.1 hx with rfl | hx
        · rw [hd]; simp
        · exact this.1 x hx, this.2⟩
    | some d =>
      obtain ⟨h1, h2, h3⟩ := ih { a with t := a.t.set d none }
      refine ⟨h1, h2, fun t v h => ?_⟩
      have := h3 t v h
      rw [Tr.get_set] at this
      by_cases e : t = d
      · rw [if_pos e] at this
        exact absurd this.2 (by simp)
      · rw [if_neg e] at this
        exact ⟨fun x hx => by
          rcases List.mem_cons.1 hx with rfl | hx
          · rw [hd]; simp; exact fun h => e h.symm
          · exact this.1 x hx, this.2⟩

theorem low_le {i k : Nat} (h : ∀ (m c : Nat), ch[m]? = some c → (B i).testBit c = true → m < k) : lowOf B ch i ≤ k := by
  unfold lowOf
  have hsplit : ch = ch.take k ++ ch.drop k := (List.take_append_drop k ch).symm
  have hdrop : (ch.drop k).filter (fun c => (B i).testBit c) = [] := by
    rw [List.filter_eq_nil_iff]
    intro c hc hb
    obtain ⟨m, hm⟩ := List.getElem?_of_mem hc
    rw [List.getElem?_drop] at hm
    have := h _ c hm hb
    omega
  calc (ch.filter fun c => (B i).testBit c).length = ((ch.take k).filter fun c => (B i).testBit c).length := by
        conv => lhs; rw [hsplit, List.filter_append, hdrop, List.append_nil]
    _ ≤ (ch.take k).length := List.length_filter_le _ _
    _ ≤ k := by rw [List.length_take]; omega

theorem le_high {i k : Nat} (hk : k ≤ ch.length) (h : ∀ (m c : Nat), ch[m]? = some c → m < k → (B c).testBit i = false) : k ≤ highOf B ch i := by
  unfold highOf
  have hsplit : ch = ch.take k ++ ch.drop k := (List.take_append_drop k ch).symm
  have htake : (ch.take k).filter (fun c => !(B c).testBit i) = ch.take k := by
    rw [List.filter_eq_self]
    intro c hc
    obtain ⟨m, hm⟩ := List.getElem?_of_mem hc
    rw [List.getElem?_take] at hm
    split at hm
    · rename_i hlt
      rw [h m c hm hlt]; rfl
    · cases hm
  conv => rhs; rw [hsplit, List.filter_append, htake, List.length_append]
  rw [List.length_take]
  omega

end Go.Tc

/- Soundness: regions whose order is drawn: every order comes to the same. -/
namespace Go.Tc

variable {P : Program} {T : Tab} {call : CallF} {ops : Array Oper} {B : Nat → Nat} {ch : List Nat} {a0 : AAct} {M0 : AMem} {a : AAct} {M : AMem} {ds : List Did} {Ms Ns : List AMem}
  {ρ0 ρ : Rho} {w0 w : World} {listed : Array Bool} {ca : Act} {k : Nat}

/-- What holds of the model's state where some operations are listed. -/
structure Inv (P : Program) (ops : Array Oper) (B : Nat → Nat) (ch : List Nat) (a0 : AAct) (M0 : AMem) (ρ0 : Rho) (w0 : World) (ds : List Did) (Ns : List AMem)
    (listed : Array Bool) (ca : Act) (w : World) (k : Nat) (ρ : Rho) : Prop where
  size : listed.size = ops.size
  closed : ∀ (i : Nat), listed.getD i false = true → ∀ j, (B i).testBit j = true → listed.getD j false = true
  inds : ∀ (i : Nat), listed.getD i false = true → ∃ d ∈ ds, d.i = i
  chain : ∀ (m i : Nat), ch[m]? = some i → (listed.getD i false = true ↔ m < k)
  kle : k ≤ ch.length
  mem : ∃ N, Ns[k]? = some N ∧ Sim P ρ N w ∧ Adv M0 ρ0 w0 N ρ w
  tsize : ca.tmps.size = a0.n
  defers : ca.defers = a0.defers.map (concDef ρ)
  defok : ∀ d ∈ a0.defers, okL ρ d.captured ∧ okL ρ d.args
  got : ∀ d ∈ ds, listed.getD d.i false = true → ∀ (o : Oper) (t : Tmp), ops[d.i]? = some o → o.dst = some t → ca.tmps[t]? = some (conc ρ d.res) ∧ okv ρ d.res
  old : ∀ (t : Tmp) (v : AV), a0.t.get t = some v → okv ρ v ∧ ((∀ (i : Nat) (o : Oper), listed.getD i false = true → ops[i]? = some o → o.dst ≠ some t) → ca.tmps[t]? = some (conc ρ v))
  fresh : ∀ d ∈ ds, ∀ kb n, d.blk = some (kb, n) → listed.getD d.i false = false → ρ n = none

theorem listed_set {i j : Nat} (hi : i < listed.size) : (listed.setIfInBounds i true).getD j false = true ↔ j = i ∨ listed.getD j false = true := by
  by_cases e : j = i
  · subst e; simp [hi]
  · rw [getD_set_ne false (Ne.symm e)]; simp [e]

theorem ready_lt {i : Nat} (hr : i ∈ Region.ready .any ops listed) : i < listed.size ∧ listed.getD i false = false := by
  have h := (mem_ready.1 hr).1
  have hlt : i < listed.size := by
    rcases Nat.lt_or_ge i listed.size with h' | h'
    · exact h'
    · simp [Array.getElem?_eq_none h'] at h
  refine ⟨hlt, ?_⟩
  simpa [hlt] using h

theorem ready_closed (hst : Stat T ops B ch) (hcl : ∀ (i : Nat), listed.getD i false = true → ∀ j, (B i).testBit j = true → listed.getD j false = true) {i : Nat}
    (hr : i ∈ Region.ready .any ops listed) : ∀ j, (B i).testBit j = true → listed.getD j false = true := by
  intro j hj
  obtain ⟨_, o, ho, hall⟩ := mem_ready.1 hr
  rw [hst.mask i o ho, maskOf_spec] at hj
  obtain ⟨e, he, hb, h | h⟩ := hj
  · rw [← h]; exact hall e he hb
  · exact hcl _ (hall e he hb) j h

theorem ready_of (hst : Stat T ops B ch) {i : Nat} {o : Oper} (ho : ops[i]? = some o) (hs : listed.size = ops.size) (hi : ¬ listed.getD i false = true)
    (hB : ∀ j, (B i).testBit j = true → listed.getD j false = true) : i ∈ Region.ready .any ops listed := by
  have hlt : i < listed.size := by rw [hs]; exact (Array.getElem?_eq_some_iff.1 ho).1
  refine mem_ready.2 ⟨?_, o, ho, fun e he hb => hB _ ?_⟩
  · simpa [hlt] using hi
  · rw [hst.mask i o ho, maskOf_spec]
    exact ⟨e, he, hb, .inl rfl⟩

/-- The place in the chain of what is ready. -/
theorem ready_at (hst : Stat T ops B ch) (hI : Inv P ops B ch a0 M0 ρ0 w0 ds Ns listed ca w k ρ) {i m : Nat} (hr : i ∈ Region.ready .any ops listed) (hm : ch[m]? = some i) : m = k := by
  have h1 := (ready_lt hr).2
  have h2 := hI.chain m i hm
  have h3 : ¬ m < k := fun h => by rw [h2.2 h] at h1; cases h1
  rcases Nat.lt_or_ge k m with hlt | hge
  · have hml := (List.getElem?_eq_some_iff.1 hm).1
    have hk : k < ch.length := by omega
    have hb := hst.linked k m ch[k] i hlt (List.getElem?_eq_getElem hk) hm
    have := (hI.chain k ch[k] (List.getElem?_eq_getElem hk)).1 (ready_closed hst hI.closed hr _ hb)
    omega
  · omega

theorem Inv.low (hst : Stat T ops B ch) (hI : Inv P ops B ch a0 M0 ρ0 w0 ds Ns listed ca w k ρ) {i : Nat} (hr : i ∈ Region.ready .any ops listed) : lowOf B ch i ≤ k :=
  low_le fun m c hc hb => (hI.chain m c hc).1 (ready_closed hst hI.closed hr c hb)

theorem Inv.high (hI : Inv P ops B ch a0 M0 ρ0 w0 ds Ns listed ca w k ρ) {i : Nat} (hr : i ∈ Region.ready .any ops listed) : k ≤ highOf B ch i :=
  le_high hI.kle fun m c hc hm => by
    rw [Bool.eq_false_iff]
    intro hb
    have := hI.closed c ((hI.chain m c hc).2 hm) i hb
    rw [(ready_lt hr).2] at this
    cases this

theorem act_at (hst : Stat T ops B ch) (hI : Inv P ops B ch a0 M0 ρ0 w0 ds Ns listed ca w k ρ) {A : AAct} {Mr : AMem} {r : List Did} {Msr : List AMem} (hR : Reach P T call ops B ch a0 M0 A Mr r Msr)
    (hsub : ∀ x ∈ r, x ∈ ds) {i : Nat} {o : Oper} (ho : ops[i]? = some o) (hpre : ∀ j, (B i).testBit j = true → ∃ x ∈ r, x.i = j) (hnew : ∀ x ∈ r, x.i ≠ i)
    (hr : i ∈ Region.ready .any ops listed) : ActRel ρ (pick A (readsOf ops o)) ca := by
  obtain ⟨h1, h2, h3⟩ := reach_act hR
  refine ⟨by rw [hI.tsize]; exact h1.symm, ?_, by simp only [pick, h2]; exact hI.defers, by simp only [pick, h2]; exact hI.defok⟩
  intro t v ht
  obtain ⟨hrd, hv⟩ := pickT_get A.t t v _ ht
  rcases h3 t with ⟨x, hx, p, hp, hdst, hxr⟩ | ⟨hno, heq⟩
  · rw [hv] at hxr
    cases hxr
    have hne : i ≠ x.i := fun e => hnew x hx e.symm
    have hB : (B i).testBit x.i = true := by
      rcases hst.apart i o x.i p ho hp hne t hdst hrd with h | h
      · exact h
      · obtain ⟨A', r', Mr', Msr', o', M'', Ms'', k'⟩ := reach_rec hR x hx
        obtain ⟨y, hy, e⟩ := k'.pre i h
        exact absurd e (hnew y (k'.sub y hy))
    exact hI.got x (hsub x hx) (ready_closed hst hI.closed hr _ hB) p t hp hdst
  · rw [heq] at hv
    obtain ⟨k1, k2⟩ := hI.old t v hv
    refine ⟨k2 ?_, k1⟩
    intro j p hj hp hdst
    have hne : i ≠ j := by
      rintro rfl
      rw [(ready_lt hr).2] at hj
      cases hj
    rcases hst.apart i o j p ho hp hne t hdst hrd with h | h
    · obtain ⟨x, hx, e⟩ := hpre j h
      exact hno x hx p (by rw [e]; exact hp) hdst
    · have := hI.closed j hj i h
      rw [(ready_lt hr).2] at this
      cases this

theorem Inv.next (hst : Stat T ops B ch) (hids : ∀ d ∈ ds, ∀ d' ∈ ds, d.i = d'.i → d = d') (hI : Inv P ops B ch a0 M0 ρ0 w0 ds Ns listed ca w k ρ) {d : Did} (hd : d ∈ ds) {o : Oper} (ho : ops[d.i]? = some o)
    (hr : d.i ∈ Region.ready .any ops listed) (hfit : ∀ t, o.dst = some t → t < a0.n) {ρ' : Rho} {w' : World} {k' : Nat} {N' : AMem} (hext : Ext ρ ρ') (hN : Ns[k']? = some N') (hS : Sim P ρ' N' w')
    (hadv : Adv M0 ρ0 w0 N' ρ' w') (hok : okv ρ' d.res) (hk' : (isChain T o = false ∧ k' = k) ∨ (k' = k + 1 ∧ ch[k]? = some d.i))
    (hfresh : ∀ x ∈ ds, ∀ kb n, x.blk = some (kb, n) → x.i ≠ d.i → listed.getD x.i false = false → ρ' n = none) :
    Inv P ops B ch a0 M0 ρ0 w0 ds Ns (listed.setIfInBounds d.i true) (ca.put o.dst (conc ρ' d.res)) w' k' ρ' := by
  obtain ⟨hlt, hun⟩ := ready_lt hr
  have hset : ∀ j, (listed.setIfInBounds d.i true).getD j false = true ↔ j = d.i ∨ listed.getD j false = true := fun j => listed_set hlt
  have hcl := ready_closed hst hI.closed hr
  have hput : ∀ t, o.dst ≠ some t → (ca.put o.dst (conc ρ' d.res)).tmps[t]? = ca.tmps[t]? := by
    intro t ht
    cases hdst : o.dst with
    | none => rfl
    | some x =>
      have : x ≠ t := fun e => ht (by rw [hdst, e])
      simp [Act.put, Array.getElem?_setIfInBounds_ne this]
  refine ⟨by simpa using hI.size, ?_, ?_, ?_, ?_, ⟨N', hN, hS, hadv⟩, ?_, ?_, ?_, ?_, ?_, ?_⟩
  · intro i hi j hj
    rw [hset]
    rcases (hset i).1 hi with rfl | hi
    · exact .inr (hcl j hj)
    · exact .inr (hI.closed i hi j hj)
  · intro i hi
    rcases (hset i).1 hi with rfl | hi
    · exact ⟨d, hd, rfl⟩
    · exact hI.inds i hi
  · intro m c hc
    rw [hset]
    have hold := hI.chain m c hc
    rcases hk' with ⟨hnc, rfl⟩ | ⟨rfl, hat⟩
    · have hne : c ≠ d.i := by
        rintro rfl
        obtain ⟨o', ho', hc'⟩ := hst.ofch _ (List.mem_of_getElem? hc)
        rw [ho] at ho'; cases ho'; rw [hnc] at hc'; cases hc'
      exact ⟨fun h => hold.1 (h.resolve_left hne), fun h => .inr (hold.2 h)⟩
    · rw [hold]
      constructor
      · rintro (rfl | h)
        · have := ready_at hst hI hr hc; omega
        · omega
      · intro h
        by_cases e : m = k
        · subst e
          rw [hat] at hc
          cases hc
          exact .inl rfl
        · exact .inr (by omega)
  · rcases hk' with ⟨_, rfl⟩ | ⟨rfl, hat⟩
    · exact hI.kle
    · exact (List.getElem?_eq_some_iff.1 hat).1
  · cases o.dst <;> simp [Act.put, hI.tsize]
  · have : (ca.put o.dst (conc ρ' d.res)).defers = ca.defers := by cases o.dst <;> rfl
    rw [this, hI.defers]
    refine List.map_congr_left fun x hx => ?_
    have := hI.defok x hx
    simp [concDef, (concL_ext hext _ this.1).1, (concL_ext hext _ this.2).1]
  · intro x hx
    have := hI.defok x hx
    exact ⟨(concL_ext hext _ this.1).2, (concL_ext hext _ this.2).2⟩
  · intro x hx hl p t hp hdst
    by_cases e : x.i = d.i
    · have := hids x hx d hd e
      subst this
      rw [ho] at hp
      cases hp
      have hlt' : t < ca.tmps.size := by rw [hI.tsize]; exact hfit t hdst
      exact ⟨by simp [hdst, Act.put, hlt'], hok⟩
    · have hl' : listed.getD x.i false = true := by
        rcases (hset x.i).1 hl with h | h
        · exact absurd h e
        · exact h
      obtain ⟨g1, g2⟩ := hI.got x hx hl' p t hp hdst
      have := conc_ext hext _ g2
      refine ⟨?_, this.2⟩
      rw [hput t (hst.dsts d.i o x.i p ho hp (Ne.symm e) t hdst), g1, this.1]
  · intro t v hv
    obtain ⟨g1, g2⟩ := hI.old t v hv
    have := conc_ext hext _ g1
    refine ⟨this.2, fun h => ?_⟩
    rw [hput t (h d.i o ((hset _).2 (.inl rfl)) ho), g2 (fun i p hi hp => h i p ((hset _).2 (.inr hi)) hp), this.1]
  · intro x hx kb n hb hl
    have hne : x.i ≠ d.i := by
      intro e
      rw [(hset x.i).2 (.inl e)] at hl
      cases hl
    refine hfresh x hx kb n hb hne ?_
    rw [Bool.eq_false_iff]
    intro h
    rw [(hset x.i).2 (.inr h)] at hl
    cases hl

theorem Adv.lower {M₁ : AMem} {w₁ : World} (h : Adv M0 ρ0 w0 M₁ ρ w₁) : Adv M0 ρ0 w0 M0 ρ w₁ := { h with mono := Nat.le_refl _ }

theorem Adv.grown {N N' : AMem} (h : Grown N N') : Adv N ρ w N' ρ w := Adv.still h.next rfl rfl rfl (Nat.le_refl _) (fun _ _ _ => rfl)

end Go.Tc

/- Soundness: regions whose order is drawn: one operation, all operations. -/
namespace Go.Tc

variable {P : Program} {T : Tab} {call : CallF} {ops : Array Oper} {B : Nat → Nat} {ch : List Nat} {a0 : AAct} {M0 : AMem} {A : AAct} {M : AMem} {ds : List Did} {Ms Ns : List AMem}
  {ρ0 ρ : Rho} {w0 w : World} {listed : Array Bool} {ca : Act} {k : Nat} {Q : Exit → Act → World → Prop}

/-- What no part of the chain did is the same at every stage where it may be done. -/
noncomputable def StableAt (P : Program) (T : Tab) (ops : Array Oper) (B : Nat → Nat) (ch : List Nat) (ds : List Did) (Ns : List AMem) : Prop :=
  ∀ d ∈ ds, ∀ o, ops[d.i]? = some o → isChain T o = false → ∀ (s : Nat) (N : AMem), Ns[s]? = some N → lowOf B ch d.i ≤ s → s ≤ highOf B ch d.i → stable P T ops N d = true

theorem stableAt_of (h : stableAll P T ops B ch Ns ds = true) : StableAt P T ops B ch ds Ns := by
  intro d hd o ho hc s N hN h1 h2
  have := List.all_eq_true.1 h d hd
  simp only [ho, hc, Bool.false_or, List.all_eq_true] at this
  have h3 := this (N, s) (by rw [List.mem_zipIdx_iff_getElem?]; simpa using hN)
  simp only [Bool.or_eq_true, decide_eq_true_eq] at h3
  rcases h3 with (h | h) | h
  · omega
  · omega
  · exact h

theorem wpOp_skip {i : Nat} {o : Oper} {K : Act → World → Prop} (ho : ops[i]? = some o) (hw : Region.wanted o (yielded ops ca.tmps) = false) (h : K (ca.put o.dst undef) w) : wpOp P ops Q i K ca w := by
  simp only [wpOp, ho, hw, Bool.false_eq_true, if_false]
  exact h

theorem wpOp_run {i : Nat} {o : Oper} {K : Act → World → Prop} {N : AMem} {out : AOut} (ho : ops[i]? = some o) (hw : Region.wanted o (yielded ops ca.tmps) = true)
    (hr : RunIs P N ρ w ca out ((execOp ca.eval o).run P w)) (h : OutOk P N ρ w ca o.dst K Q out) : wpOp P ops Q i K ca w := by
  simp only [wpOp, ho, hw, if_true]
  exact .inl (RunIs.upon hr h)

theorem wpOp_value {i : Nat} {o : Oper} {K : Act → World → Prop} {v : Value} {w1 : World} (ho : ops[i]? = some o) (hw : Region.wanted o (yielded ops ca.tmps) = true)
    (hr : (execOp ca.eval o).run P w = .ok (.value v) w1) (h : K (ca.put o.dst v) w1) : wpOp P ops Q i K ca w := by
  simp only [wpOp, ho, hw, if_true, Oper.wp, hr, Oper.upon]
  exact .inl h

theorem draw_step (hT : TabOk P T) (hC : CallOk P call) (hst : Stat T ops B ch) (hR : Reach P T call ops B ch a0 M0 A M ds Ms) (hNs : Ns = Ms.reverse ++ [M]) (hstab : StableAt P T ops B ch ds Ns)
    (hI : Inv P ops B ch a0 M0 ρ0 w0 ds Ns listed ca w k ρ) {d : Did} (hd : d ∈ ds) (hr : d.i ∈ Region.ready .any ops listed) {K : Act → World → Prop}
    (hK : ∀ ca' w' k' ρ', Inv P ops B ch a0 M0 ρ0 w0 ds Ns (listed.setIfInBounds d.i true) ca' w' k' ρ' → K ca' w') : wpOp P ops Q d.i K ca w := by
  have hids := reach_ids hR
  have hmem := reach_mem hR
  rw [← hNs] at hmem
  have hlen : Ns.length = Ms.length + 1 := by rw [hNs]; simp
  obtain ⟨Ad, r, Mr, Msr, o, M', Ms', hrec⟩ := reach_rec hR d hd
  have ho := hrec.op
  have hA : ActRel ρ d.a ca := by
    rw [hrec.act]
    exact act_at hst hI hrec.reach hrec.sub ho hrec.pre hrec.new hr
  have hw := awanted_sound hA hrec.wanted
  have hfit : ∀ t, o.dst = some t → t < a0.n := by
    intro t ht
    have := hrec.fits
    simp only [ht, AAct.fits, decide_eq_true_eq] at this
    rw [(reach_act hrec.reach).1] at this
    exact this
  obtain ⟨N, hN, hS, hadv⟩ := hI.mem
  have hfr : ∀ x ∈ ds, ∀ kb n, x.blk = some (kb, n) → x.i ≠ d.i → listed.getD x.i false = false → ρ n = none := fun x hx kb n hb _ hl => hI.fresh x hx kb n hb hl
  by_cases hc : isChain T o = true
  · obtain ⟨m, hm, hat⟩ := (reach_chain hR).2 d hd o ho hc
    have := ready_at hst hI hr hat
    subst this
    obtain ⟨N1, N', i, o', d', M1, e1, e2, e3, e4, e5, e6, e7, e8, e9, e10, e11, e12⟩ := hmem.link m (by omega)
    rw [hN] at e1
    cases e1
    rw [hat] at e3
    cases e3
    have := hids d' e4 d hd e5
    subst this
    rw [ho] at e6
    cases e6
    have hfresh' : ∀ ρ' w', Adv N ρ w M1 ρ' w' → Sim P ρ' M1 w' → ∀ x ∈ ds, ∀ kb n, x.blk = some (kb, n) → x.i ≠ d'.i → listed.getD x.i false = false → ρ' n = none := by
      intro ρ' w' g1 g2 x hx kb n hb hne hl
      have hn := hI.fresh x hx kb n hb hl
      cases hp : ρ' n with
      | none => rfl
      | some p =>
        have := g1.fresh n p hp hn
        have := (g2.dom n p hp).1
        have := e12 x hx kb n hb
        omega
    have hgo : ∀ ρ' w', Adv N ρ w M1 ρ' w' → Sim P ρ' M1 w' → okv ρ' d'.res → K (ca.put o.dst (conc ρ' d'.res)) w' := fun ρ' w' g1 g2 g3 =>
      hK _ _ _ _ (hI.next hst hids hd ho hr hfit g1.ext e2 (g2.grown e9) ((hadv.trans g1).trans (Adv.grown e9)) g3 (.inr ⟨rfl, hat⟩) (hfresh' ρ' w' g1 g2))
    rcases e8 with ⟨f1, f2, f3⟩ | ⟨f1, f2⟩
    · subst f2
      refine wpOp_skip ho (by rw [hw, f1]) ?_
      have := hgo ρ w (Adv.refl _ ρ w) hS (by rw [f3]; exact (okv_undef ρ).1)
      rw [f3, (okv_undef ρ).2] at this
      exact this
    · rcases f2 with f2 | ⟨f2, f3⟩
      · exact wpOp_run ho (by rw [hw, f1]) (aeff_run hT hC hS hA f2) fun ρ' w' g1 g2 g3 => hgo ρ' w' g1 g2 g3
      · refine wpOp_run ho (by rw [hw, f1]) (aeff_run hT hC hS hA f2) fun ρ' w' g1 g2 => ?_
        have := hgo ρ' w' g1 g2 (by rw [f3]; exact (okv_undef ρ').1)
        rw [f3, (okv_undef ρ').2] at this
        exact this
  · have hc' : isChain T o = false := by simpa using hc
    have hs := hstab d hd o ho hc' k N hN (hI.low hst hr) (hI.high hr)
    have hstep := hrec.step
    clear hrec
    obtain ⟨i, da, dw, dres, dblk⟩ := d
    simp only at *
    cases hstep with
    | skip _ =>
      refine wpOp_skip ho hw ?_
      have := hK _ _ _ _ (hI.next hst hids hd ho hr hfit (Ext.refl ρ) hN hS hadv (okv_undef ρ).1 (.inl ⟨hc', rfl⟩) hfr)
      simp only [(okv_undef ρ).2] at this
      exact this
    | skipC h _ _ => exact absurd h hc
    | chain h _ _ _ _ => exact absurd h hc
    | val hv _ =>
      simp only [stable, if_true, ho] at hs
      have := beqO_eq hs
      obtain ⟨r1, r2⟩ := aval_sound (w := w) hT hS hA this
      exact wpOp_value ho hw r1 (hK _ _ _ _ (hI.next hst hids hd ho hr hfit (Ext.refl ρ) hN hS hadv r2 (.inl ⟨hc', rfl⟩) hfr))
    | @alloc _ _ kb f hv hal hk =>
      simp only [stable, if_true] at hs
      have hget : N.get Mr.next = some kb := by
        split at hs
        · rename_i k' hk'
          rw [hk', beqBlk_eq hs]
        · cases hs
      have hn := hI.fresh _ hd kb Mr.next rfl (ready_lt hr).2
      obtain ⟨val, w1, r1, o', S, es, g1, g2, g3, g4, g5⟩ := aalloc_sound (w := w) hT hA hk
      obtain ⟨g6, g7, g8⟩ := g5 (upd ρ Mr.next ⟨w.heap.size, 0, S, es⟩) Mr.next (upd_ext hn) (upd_self _ _ _)
      have hge := (hmem.ids _ hd kb Mr.next rfl).1
      refine wpOp_value ho hw r1 ?_
      rw [g6]
      refine hK _ _ _ _ (hI.next hst hids hd ho hr hfit (upd_ext hn) hN (hS.born hget hn g1 rfl g8) (hadv.lower.trans (Adv.born hadv.mono hge hn g1 g2 g3 g4 rfl)) g7 (.inl ⟨hc', rfl⟩) ?_)
      intro x hx kb' n hb hne hl
      have h1 := hI.fresh x hx kb' n hb hl
      have hnn : n ≠ Mr.next := by
        rintro rfl
        exact hne (congrArg Did.i (hmem.sole x hx _ hd _ _ _ hb rfl))
      simp [upd, hnn, h1]

/-- How many are not listed. -/
noncomputable def left (ops : Array Oper) (listed : Array Bool) : Nat := ((List.range ops.size).filter fun i => !listed.getD i false).length

theorem left_set {i : Nat} (hr : i ∈ Region.ready .any ops listed) : left ops (listed.setIfInBounds i true) < left ops listed := by
  obtain ⟨hlt, hun⟩ := ready_lt hr
  obtain ⟨_, o, ho, _⟩ := mem_ready.1 hr
  have hi : i < ops.size := (Array.getElem?_eq_some_iff.1 ho).1
  unfold left
  have hsub : ((List.range ops.size).filter fun j => !(listed.setIfInBounds i true).getD j false) = ((List.range ops.size).filter fun j => !listed.getD j false).filter (fun j => j != i) := by
    rw [List.filter_filter]
    refine List.filter_congr fun j _ => ?_
    by_cases e : j = i
    · subst e
      have := (listed_set (j := j) hlt).2 (.inl rfl)
      simp [this]
    · rw [getD_set_ne false (Ne.symm e)]
      simp [e]
  rw [hsub]
  have hm : i ∈ (List.range ops.size).filter fun j => !listed.getD j false := by
    rw [List.mem_filter]
    exact ⟨List.mem_range.2 hi, by rw [hun]; rfl⟩
  exact List.length_filter_lt_length_iff_exists.2 ⟨i, hm, by simp⟩

/-- All orders, where each step is good. -/
theorem draw_any (hgo : ∀ listed ca w k ρ, Inv P ops B ch a0 M0 ρ0 w0 ds Ns listed ca w k ρ → ∀ i ∈ Region.ready .any ops listed, ∀ K : Act → World → Prop,
      (∀ ca' w' k' ρ', Inv P ops B ch a0 M0 ρ0 w0 ds Ns (listed.setIfInBounds i true) ca' w' k' ρ' → K ca' w') → wpOp P ops Q i K ca w)
    (hend : ∀ listed ca w k ρ, Inv P ops B ch a0 M0 ρ0 w0 ds Ns listed ca w k ρ → Region.ready .any ops listed = [] → Q .normal ca w) :
    ∀ fuel listed ca w k ρ, Inv P ops B ch a0 M0 ρ0 w0 ds Ns listed ca w k ρ → left ops listed ≤ fuel → wpAny P .any ops Q fuel listed ca w := by
  intro fuel
  induction fuel with
  | zero =>
    intro listed ca w k ρ hI hle
    have hnil : Region.ready .any ops listed = [] := by
      cases hr : Region.ready .any ops listed with
      | nil => rfl
      | cons i r =>
        have := left_set (ops := ops) (listed := listed) (i := i) (by rw [hr]; simp)
        omega
    exact ⟨hnil, hend _ _ _ _ _ hI hnil⟩
  | succ fuel ih =>
    intro listed ca w k ρ hI hle
    refine ⟨fun hnil => hend _ _ _ _ _ hI hnil, fun i hi => hgo _ _ _ _ _ hI i hi _ fun ca' w' k' ρ' hI' => ih _ _ _ _ _ hI' ?_⟩
    have := left_set (ops := ops) (listed := listed) hi
    omega

end Go.Tc

/- Soundness: regions whose order is drawn: done. -/
namespace Go.Tc

variable {P : Program} {T : Tab} {call : CallF} {ops : Array Oper} {B : Nat → Nat} {ch : List Nat} {a0 : AAct} {M0 : AMem} {A : AAct} {M : AMem} {ds : List Did} {Ms Ns : List AMem}
  {ρ0 ρ : Rho} {w0 w : World} {listed : Array Bool} {ca ca0 : Act} {k : Nat} {Q : Exit → Act → World → Prop}

theorem inv_start (hS : Sim P ρ0 M0 w0) (hA : ActRel ρ0 a0 ca0) (hmem : MemOk P T call ops ch M0 M ds Ns) :
    Inv P ops B ch a0 M0 ρ0 w0 ds Ns (Array.replicate ops.size false) ca0 w0 0 ρ0 := by
  have hno : ∀ i, (Array.replicate ops.size false).getD i false = false := by
    intro i
    by_cases h : i < ops.size <;> simp [h]
  obtain ⟨N, hN, hg⟩ := hmem.base
  refine ⟨by simp, ?_, ?_, ?_, Nat.zero_le _, ⟨N, hN, hS.grown hg, Adv.grown hg⟩, hA.size, hA.defers, hA.defok, ?_, ?_, ?_⟩
  · intro i hi; rw [hno] at hi; cases hi
  · intro i hi; rw [hno] at hi; cases hi
  · intro m i _; rw [hno]; simp
  · intro d _ hl; rw [hno] at hl; cases hl
  · intro t v hv; exact ⟨(hA.tmps t v hv).2, fun _ => (hA.tmps t v hv).1⟩
  · intro d hd kb n hb _
    have := (hmem.ids d hd kb n hb).1
    cases hp : ρ0 n with
    | none => rfl
    | some p => have := (hS.dom n p hp).1; omega

theorem left_le : left ops listed ≤ ops.size := by
  unfold left
  exact Nat.le_trans (List.length_filter_le _ _) (by simp)

theorem Inv.kms (hI : Inv P ops B ch a0 M0 ρ0 w0 ds Ns listed ca w k ρ) (hNs : Ns = Ms.reverse ++ [M]) : k ≤ Ms.length := by
  obtain ⟨N, hN, _⟩ := hI.mem
  have := (List.getElem?_eq_some_iff.1 hN).1
  rw [hNs] at this
  simp at this
  omega

theorem drawSound (hT : TabOk P T) : DrawSound P T := by
  intro call hC ops a M r h ρ w ca Q hS hA hQ t
  unfold adraw at h
  simp only at h
  split at h
  case isFalse => cases h
  rename_i hok
  revert h hok
  generalize masks ops = B
  intro hok h
  simp only [Bool.and_eq_true] at hok
  obtain ⟨hdraw, hord⟩ := hok
  have hst := stat_of hdraw
  generalize chainList T ops = ch at *
  have hsch : Region.schedule (P.follows .mixedOrders) ops t = Region.linearise.go .any ops ops.size t (Array.replicate ops.size false) [] := by
    rw [hT.mixed]
    simp [Region.schedule, Region.linearise]
  rw [hsch]
  refine wpAny_sound ops.size t _ ca w ?_
  split at h
  case h_2 => cases h
  rename_i e a' M' ds Ms hrun
  split at h
  case isFalse => cases h
  rename_i hstab
  cases h
  rcases runL_reach _ 0 a M [] [] e a' M' ds Ms hord (by simp) hrun .start with ⟨rfl, Ms2, rfl, hR, hall⟩ | ⟨chain, i, o, a2, M2, Ms2, rfl, rfl, hp⟩
  · have hNs : (M' :: Ms2).reverse = Ms2.reverse ++ [M'] := by simp
    rw [hNs] at hstab
    have hmem := reach_mem hR
    refine draw_any (Q := Q) (ds := ds) (Ns := Ms2.reverse ++ [M']) (M0 := M) (a0 := a) (ρ0 := ρ) (w0 := w) (ch := ch) (B := B) ?_ ?_ ops.size _ ca w 0 ρ (inv_start hS hA hmem) left_le
    · intro listed ca w k ρ hI i hi K hK
      obtain ⟨_, o, ho, _⟩ := mem_ready.1 hi
      obtain ⟨d, hd, rfl⟩ := hall i (Array.getElem?_eq_some_iff.1 ho).1
      exact draw_step hT hC hst hR rfl (stableAt_of hstab) hI hd hi hK
    · intro listed ca w' k ρ' hI hnil
      have hlisted : ∀ d ∈ ds, listed.getD d.i false = true := by
        rcases reach_next hR (fun i => listed.getD i false = true) with h | ⟨d, hd, h1, h2⟩
        · exact h
        · obtain ⟨o, ho⟩ := reach_ops hR d hd
          have := ready_of hst ho hI.size h1 h2
          rw [hnil] at this
          cases this
      have hk : k = Ms2.length := by
        have h1 := hI.kms rfl
        have h2 := (reach_chain hR).1
        rcases Nat.lt_or_ge k ch.length with hlt | hge
        · obtain ⟨o, ho, _⟩ := hst.ofch ch[k] (List.getElem_mem hlt)
          obtain ⟨d, hd, e⟩ := hall ch[k] (Array.getElem?_eq_some_iff.1 ho).1
          have := (hI.chain k ch[k] (List.getElem?_eq_getElem hlt)).1 (by rw [← e]; exact hlisted d hd)
          omega
        · omega
      obtain ⟨N, hN, g1, g2⟩ := hI.mem
      have hNM : N = M' := by
        rw [hk] at hN
        simp at hN
        exact hN.symm
      subst hNM
      obtain ⟨h1, h2, h3⟩ := reach_act hR
      refine hQ ρ' w' ca g2 g1 ⟨by rw [h1]; exact hI.tsize, ?_, by simp only [h2]; exact hI.defers, by simp only [h2]; exact hI.defok⟩ trivial
      intro t v hv
      rcases h3 t with ⟨d, hd, o, ho, hdst, hres⟩ | ⟨hno, heq⟩
      · simp only [hres, Option.some.injEq] at hv
        subst hv
        exact hI.got d hd (hlisted d hd) o t ho hdst
      · simp only [heq] at hv
        obtain ⟨g3, g4⟩ := hI.old t v hv
        refine ⟨g4 ?_, g3⟩
        intro i o hi ho
        obtain ⟨d, hd, rfl⟩ := hI.inds i hi
        exact hno d hd o ho
  · have hNs : (M2 :: Ms2).reverse = Ms2.reverse ++ [M2] := by simp
    rw [hNs] at hstab
    have hmem := reach_mem hp.reach
    have hlen : (Ms2.reverse ++ [M2]).length = Ms2.length + 1 := by simp
    refine draw_any (Q := Q) (ds := ds) (Ns := Ms2.reverse ++ [M2]) (M0 := M) (a0 := a) (ρ0 := ρ) (w0 := w) (ch := ch) (B := B) ?_ ?_ ops.size _ ca w 0 ρ (inv_start hS hA hmem) left_le
    · intro listed ca w' k ρ' hI j hj K hK
      obtain ⟨_, oj, hoj, _⟩ := mem_ready.1 hj
      by_cases hin : ∃ d ∈ ds, d.i = j
      · obtain ⟨d, hd, rfl⟩ := hin
        exact draw_step hT hC hst hp.reach rfl (stableAt_of hstab) hI hd hj hK
      · have hkm := hI.kms (Ms := Ms2) rfl
        have hji : j = i ∧ k = Ms2.length := by
          by_cases hc : isChain T oj = true
          · obtain ⟨m, hm⟩ := List.getElem?_of_mem (hst.inch j oj hoj hc)
            have := ready_at hst hI hj hm
            subst this
            rcases Nat.lt_or_ge m Ms2.length with hlt | hge
            · obtain ⟨N1, N', i1, o1, d1, M1, _, _, e3, e4, e5, _⟩ := hmem.link m (by omega)
              rw [hm] at e3
              cases e3
              exact absurd ⟨d1, e4, e5⟩ hin
            · have : m = Ms2.length := by omega
              subst this
              have := hp.at_
              rw [hm] at this
              cases this
              exact ⟨rfl, rfl⟩
          · exact absurd (hp.asap oj j hoj (by simpa using hc) (Nat.le_trans (hI.low hst hj) hkm)) hin
        obtain ⟨rfl, rfl⟩ := hji
        have := hp.op
        rw [hoj] at this
        cases this
        have hA2 := act_at hst hI hp.reach (fun x hx => hx) hoj hp.pre hp.new hj
        have hw2 := awanted_sound hA2 hp.wanted
        obtain ⟨N, hN, g1, g2⟩ := hI.mem
        have hNM : N = M2 := by
          simp at hN
          exact hN.symm
        subst hNM
        refine wpOp_run hoj hw2 (aeff_run hT hC g1 hA2 hp.eff) fun ρ2 w2 k1 k2 k3 => ?_
        refine hQ ρ2 w2 ca (g2.trans k1) k2 ?_ k3
        rw [hp.act]
        obtain ⟨h1, h2, h3⟩ := reach_act hp.reach
        obtain ⟨c1, c2, c3⟩ := clearDsts_get ops.toList a2
        have hA0 : ActRel ρ' (clearDsts ops.toList a2) ca := by
          refine ⟨by rw [c1, h1]; exact hI.tsize, ?_, by rw [c2, h2]; exact hI.defers, by rw [c2, h2]; exact hI.defok⟩
          intro t v hv
          obtain ⟨c4, c5⟩ := c3 t v hv
          have hnone : ∀ (i : Nat) (o : Oper), ops[i]? = some o → o.dst ≠ some t := fun i o ho => c4 o (by
            rw [← Array.getElem?_toList] at ho
            exact List.mem_of_getElem? ho)
          rcases h3 t with ⟨d, hd, o, ho, hdst, hres⟩ | ⟨hno, heq⟩
          · exact absurd hdst (hnone _ _ ho)
          · rw [heq] at c5
            obtain ⟨g3, g4⟩ := hI.old t v c5
            exact ⟨g4 (fun i o _ ho => hnone i o ho), g3⟩
        exact hA0.ext k1.ext
    · intro listed ca w' k ρ' hI hnil
      exfalso
      rcases reach_next hp.reach (fun i => listed.getD i false = true) with h | ⟨d, hd, h1, h2⟩
      · have := ready_of hst hp.op hI.size (i := i) (by
          intro hl
          obtain ⟨d, hd, e⟩ := hI.inds i hl
          exact hp.new d hd e) (fun j hj => by
          obtain ⟨d, hd, rfl⟩ := hp.pre j hj
          exact h d hd)
        rw [hnil] at this
        cases this
      · obtain ⟨o, ho⟩ := reach_ops hp.reach d hd
        have := ready_of hst ho hI.size h1 h2
        rw [hnil] at this
        cases this

/-- Whatever the evaluator answers, the model's code does. -/
theorem ev_ok (hT : TabOk P T) (n : Nat) : CallOk P (ev P T n).call := (ev_sound hT (drawSound hT) n).2

end Go.Tc

/- From the evaluator to a contract: a closed run that answers true. -/
namespace Go.Tc
open Go.RowKit

noncomputable def saysTrue : Option (AEnd × AMem) → Bool
  | some (.returned (.bool true), _) => true
  | _ => false

noncomputable def emptyMem : AMem := { next := 0, t := .leaf }

theorem sim_empty (P : Program) (w : World) : Sim P rho0 emptyMem w :=
  ⟨fun _ _ _ _ h => by simp [rho0] at h, fun _ _ _ _ _ _ _ _ h => by simp [rho0] at h, fun _ _ h => by simp [rho0] at h, fun b k h => by simp [emptyMem, AMem.get, Tr.get_leaf] at h⟩

theorem below_of_adv {w w' : World} {M M' : AMem} {ρ' : Rho} (h : Adv M rho0 w M' ρ' w') : Below w.heap.size w w' := by
  exact ⟨h.os, h.tape, h.output, h.size, fun k hk => h.keep k hk (fun b p hb => by simp [rho0] at hb)⟩

theorem calls_true {P : Program} {T : Tab} (hT : TabOk P T) (n : Nat) (f : FuncId) (h : saysTrue ((evK P T n).call f [] emptyMem) = true) (w : World) :
    Calls P f #[] w fun e w' => e = .returned (.bool true) ∧ Below w.heap.size w w' := by
  rw [evK_eq] at h
  cases hc : (ev P T n).call f [] emptyMem with
  | none => rw [hc] at h; cases h
  | some r =>
    rw [hc] at h
    obtain ⟨e, M'⟩ := r
    cases e with
    | panicked c => cases h
    | returned v =>
      cases v <;> try (cases h; done)
      rename_i b
      cases b with
      | false => cases h
      | true =>
        refine Calls.mono ((ev_ok hT n).calls f [] emptyMem _ M' hc rho0 w trivial (sim_empty P w)) fun e' w' he => ?_
        obtain ⟨ρ', h1, h2, h3, h4⟩ := he
        exact ⟨h3, below_of_adv h1⟩

end Go.Tc
