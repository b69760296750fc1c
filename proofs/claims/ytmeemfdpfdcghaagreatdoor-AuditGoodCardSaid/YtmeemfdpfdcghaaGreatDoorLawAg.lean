/- AuditGood: sums are good just if none that is not Shadow is beyond its limit: for every list of sums the law answers true, and its argument reads as before. Conditions: the row's own, that utf8's two tables read as the program's text lays them (the card ties them). -/
import Derived.Test.YtmeemfdpfdcghaaGreatDoorTie
import Derived.Test.YtmeemfdpfdcghaaGreatDoorCards
import Derived.Test.YtmeemfdpfdcghaaGreatDoorPureAg
import Derived.Test.YtmeemfdpfdcghaaGreatDoorFactAg
import Derived.Test.YtmeemfdpfdcghaaGreatDoorOpen
import Derived.WalkKit
import Derived.ProofKit
import Derived.OpenShut
import Derived.ShutString
import Derived.ChangeOld
import Derived.Below
import Derived.SizedLaws
import Derived.Deep.Strs
import Derived.LaidMore
import Derived.Lay
import Derived.SevenTiedAt
import Derived.Stop.Joined
namespace Go.Proofs.YtmeemfdpfdcghaaGreatDoor.auditGood
open Go.ChangeShapes Go.WideShapes Go.ChangeAt Go.RowKit Go.Deep
open Go.Proofs.YtmeemfdpfdcghaaGreatDoor.PAuditGood Go.Proofs.YtmeemfdpfdcghaaGreatDoor.Opens Go.Proofs.YtmeemfdpfdcghaaGreatDoorW.PrintWords

theorem own : ownKnob Tryz.prog.godebug = none := by kernel_rfl
theorem laidOut : laidOutB Tryz.prog = true := by kernel_rfl

set_option maxRecDepth 100000 in
theorem opens_sum {H : Type} {enc : TypeId × Value → H} {w : World} {base : Nat} {spare : Nat → Bool} {held : Bool} : Opens enc Tryz.prog w base spare held k105 105 := by
  intro fuel cs y h hl
  obtain ⟨xs, n, _, _, _, hlen, hf⟩ := DataW.trod_struct Tryz.underlying105 h
  have hl5 : cs.length = 5 := hl
  match cs, hl5, xs, hlen with
  | [c0, c1, c2, c3, c4], _, [y0, y1, y2, y3, y4], _ =>
    have e3 : Tryz.prog.cellsOf 3 = 1 := by kernel_rfl
    have e9 : Tryz.prog.cellsOf 9 = 1 := by kernel_rfl
    have e4 : Tryz.prog.cellsOf 4 = 1 := by kernel_rfl
    have h0 := hf 0 _ rfl
    have h1 := hf 1 _ rfl
    have h2 := hf 2 _ rfl
    have h3 := hf 3 _ rfl
    have h4 := hf 4 _ rfl
    simp only [e3, e9, e4, List.drop_zero, List.drop_succ_cons, List.take_succ_cons, List.take_zero, List.getElem?_cons_zero, List.getElem?_cons_succ] at h0 h1 h2 h3 h4
    obtain ⟨z0, a0, _⟩ := DataW.trod_int Tryz.underlying3 h0
    obtain ⟨s1, a1, _⟩ := DataW.trod_string Tryz.underlying9 h1
    obtain ⟨z2, a2, _⟩ := DataW.trod_int Tryz.underlying3 h2
    obtain ⟨z3, a3, _⟩ := DataW.trod_int Tryz.underlying3 h3
    obtain ⟨b4, a4, _⟩ := DataW.trod_bool Tryz.underlying4 h4
    cases a0
    cases a1
    cases a2
    cases a3
    cases a4
    exact ⟨⟨z0, s1, z2, z3, b4⟩, k105_mk w ⟨z0, s1, z2, z3, b4⟩⟩

set_option maxRecDepth 100000 in
theorem lifted (os : Os) (started : os.Started) (H : Type) (enc : TypeId × Value → H) :
    ReturnsInHanded {} Tryz.checked os 6 .any (fun w args => (Rows.auditGoodSpec.pre enc Tryz.prog Tryz.f6 Rows.auditGoodRow.domain false w args ∧ laidMetH Tryz.prog Rows.auditGoodRow.laid w) ∧ sizedMet enc Tryz.prog Tryz.f6 (OpenSpec.ofChange Rows.auditGoodSpec) false w args)
      (Rows.auditGoodSpec.post enc Tryz.prog Tryz.f6 false true false false) := by
  refine returnsInHanded_of_change_and (C := Tryz.checked) (X := fun w _ => laidMetH Tryz.prog Rows.auditGoodRow.laid w) (fun _ _ _ hh h => h.of_heap hh) own started (by kernel_rfl) Tryz.func6
    (ChangeSpec.witness_shaped (enc := enc) (C := Tryz.checked) (os := os) (X := fun w _ => laidMetH Tryz.prog Rows.auditGoodRow.laid w) false (World.laidAll Tryz.prog os Rows.auditGoodRow.laid) #[.slice none 0 0] 8 (World.laidAll_os _ _ _)
      (World.shaped_of_ZipB (by kernel_rfl) (by kernel_rfl)) (by kernel_rfl) (by kernel_rfl) (by kernel_rfl)
      (by rw [MakeChecks.laidMetH_plain _ _ _ (by kernel_rfl)]; exact laidMet_laidAll _ (by kernel_rfl) (by kernel_rfl))) ?_
  intro W base args ds gs before hval0 hW _ _ _ _
  have hval : ∀ (j : Nat) t v, Tryz.f6.params[j]? = some t → args[j]? = some v → Value.okWide Tryz.prog W .any base t v := hval0
  have hW' := hW
  obtain ⟨p, q, hA0, hV, rfl, hfz, hnd⟩ := hW
  have hA : DataW.TrodAll enc Tryz.prog W 0 (fun _ => true) true Tryz.f6.params.toList args.toList ds p := hA0
  rw [Tryz.params6] at hA hval
  obtain ⟨v0, vs0, d0, ds0, p0, q0, hargs, rfl, rfl, h0, r0⟩ := trodAll_cons hA
  obtain ⟨rfl, rfl, rfl⟩ := trodAll_nil r0
  obtain rfl : args = #[v0] := by cases args; simp_all
  obtain ⟨rfl, rfl⟩ := trodVars_none hV
  obtain ⟨a0, len0, cap0, rfl⟩ := okWide_slice Tryz.underlying57 (hval 0 57 v0 rfl rfl)
  have k0 := h0
  have lt0 : ∀ x ∈ p0, x.block < W.heap.size := by obtain ⟨m, hm⟩ := k0; exact DataW.trod_lt m _ _ _ hm
  obtain ⟨l, hlen, hcap, hC⟩ : ∃ l : List S105, l.length = len0 ∧ l.length ≤ cap0 ∧ k105.C W a0 l.length l := by
    obtain ⟨fuel, hf⟩ := h0
    obtain ⟨A, c, x, e, h1, _, h3⟩ := Go.Proofs.YtmeemfdpfdcghaaGreatDoor.Opens.open_row (k := k105) Tryz.underlying57 (by kernel_rfl) opens_sum hf
    simp [Value.cells] at e
    obtain ⟨rfl, rfl, rfl⟩ := e
    exact ⟨x, rfl, h1, h3⟩
  subst hlen
  clear hA0 hval0
  obtain ⟨k, hk⟩ := PureAg.pure_law l hC.2.1
  refine (turncocklaw35_AuditGood.calls k a0 cap0 l true W hC hcap hk).mono fun e W' ⟨he, bel⟩ => ?_
  subst he
  exact ⟨_, rfl, _, _, _, [], _, [], hW', trodAll_mk1 (shut_bool Tryz.underlying4 _), (trodAll_cons_mk (Below.trod laidOut (by kernel_rfl) (of_decide_eq_true (by kernel_rfl)) k0 bel lt0) trodAll_mk0), rfl, bel.frame _, fun h => by cases h⟩

set_option maxHeartbeats 40000000 in
set_option maxRecDepth 100000 in
theorem row_holds : Rows.AuditGoodSaid :=
  OpenClaim.holds_of_wide 6 Tryz.f6 rfl rfl rfl rfl rfl rfl rfl ⟨rfl, rfl, rfl, rfl, rfl⟩ rfl rfl rfl rfl rfl (by as_aux_lemma => kernel_rfl) Tryz.func6 factsAg.closed
    (of_decide_eq_true (by as_aux_lemma => kernel_rfl)) (by unfold Func.isWrapper; first | (rw [if_pos (by decide +kernel)]; kernel_rfl) | (rw [if_neg (by decide +kernel)]; exact ⟨rfl, rfl⟩))
    (fun os started H enc _ => lifted os started H enc)

set_option maxHeartbeats 40000000 in
set_option maxRecDepth 100000 in
theorem card_holds : Rows.AuditGoodCardSaid :=
  Claim7.holds_tied_plain_at .later [] [.data, .pinned] true (true, "8a7633c37ccc4fbe6c0a1bc3ac2511d098aef5e2aec57e69803edce7a9e7b5c6") true row_holds (fun _ h => by cases h) (by as_aux_lemma => kernel_rfl) (fun _ h => by cases h) auditGood_row_tie rfl ⟨rfl, rfl⟩ (by as_aux_lemma => kernel_rfl) rfl
    (fun f fn hf hfn => by
      obtain rfl : f = 6 := Option.some.inj ((show Tryz.prog.funcNamed "turncock/turncocklaw35.AuditGood" = some 6 by as_aux_lemma => kernel_rfl).symm.trans hf) |>.symm
      obtain rfl : fn = Tryz.f6 := (Option.some.inj (Tryz.func6.symm.trans hfn)).symm
      exact ⟨by as_aux_lemma => kernel_rfl, fun j t ht => by
        rw [Tryz.params6] at ht
        have hm : t ∈ [57] := by simpa using Array.mem_of_getElem? ht
        have hall : ([57].all fun u => !Tryz.prog.wantsStandIn u) = true := by kernel_rfl
        exact (show Tryz.prog.wantsStandIn t = false by simpa using List.all_eq_true.1 hall t hm)⟩)
    (by as_aux_lemma => kernel_rfl)

end Go.Proofs.YtmeemfdpfdcghaaGreatDoor.auditGood
namespace Go.Proofs.YtmeemfdpfdcghaaGreatDoor
/-- The card, under a short name, for the claim. -/
theorem auditGood_holds : Rows.AuditGoodCardSaid := auditGood.card_holds
end Go.Proofs.YtmeemfdpfdcghaaGreatDoor
