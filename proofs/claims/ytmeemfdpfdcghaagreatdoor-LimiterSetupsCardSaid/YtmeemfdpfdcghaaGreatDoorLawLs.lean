/- LimiterSetups: a limiter is made just of a setup that may be: for every setup the law answers true, and its argument reads as before. Conditions: the row's own, that utf8's two tables read as the program's text lays them (the card ties them). -/
import Derived.Test.YtmeemfdpfdcghaaGreatDoorTie
import Derived.Test.YtmeemfdpfdcghaaGreatDoorCards
import Derived.Test.YtmeemfdpfdcghaaGreatDoorSetW
import Derived.Test.YtmeemfdpfdcghaaGreatDoorFactLs
import Derived.WalkKit
import Derived.ProofKit
import Derived.OpenShut
import Derived.ShutString
import Derived.ChangeOld
import Derived.Below
import Derived.SizedLaws
import Derived.Deep.Strs
import Derived.LaidMore
import Derived.Lay
import Derived.SevenTiedAt
import Derived.Stop.Joined
namespace Go.Proofs.YtmeemfdpfdcghaaGreatDoor.limiterSetups
open Go.ChangeShapes Go.WideShapes Go.ChangeAt Go.RowKit Go.Deep
open Go.Proofs.YtmeemfdpfdcghaaGreatDoor.NewW

theorem own : ownKnob Tryz.prog.godebug = none := by kernel_rfl
theorem laidOut : laidOutB Tryz.prog = true := by kernel_rfl

set_option maxRecDepth 100000 in
theorem open_setup {H : Type} {enc : TypeId × Value → H} {w : World} {r : Reach} {b0 base : Nat} {spare : Nat → Bool} {held : Bool} {v : Value} {x : DataW H} {ps : List MemPlace}
    (hv : Value.okWide Tryz.prog w r b0 48 v) (h : DataW.Trod enc Tryz.prog w base spare held 48 v x ps) :
    ∃ (f c k m s : Int) (d : Bool), v = .agg #[.int .i64 f, .int .i64 c, .int .i64 k, .int .i64 m, .int .i64 s, .bool d] := by
  obtain ⟨cs, rfl, hsz⟩ := okWide_struct Tryz.underlying48 hv
  obtain ⟨l⟩ := cs
  have e48 : Tryz.prog.cellsOf 48 = 6 := by kernel_rfl
  have hl6 : l.length = 6 := hsz.trans e48
  obtain ⟨fuel, hf0⟩ := h
  obtain ⟨xs, n, _, _, _, hlen, hf⟩ := DataW.trod_struct Tryz.underlying48 hf0
  match l, hl6, xs, hlen with
  | [c0, c1, c2, c3, c4, c5], _, [y0, y1, y2, y3, y4, y5], _ =>
    have h0 := hf 0 _ rfl
    have h1 := hf 1 _ rfl
    have h2 := hf 2 _ rfl
    have h3 := hf 3 _ rfl
    have h4 := hf 4 _ rfl
    have h5 := hf 5 _ rfl
    simp only [Value.cells, List.getElem?_cons_zero, List.getElem?_cons_succ] at h0 h1 h2 h3 h4 h5
    obtain ⟨z0, a0, _⟩ := DataW.trod_int Tryz.underlying3 h0
    obtain ⟨z1, a1, _⟩ := DataW.trod_int Tryz.underlying3 h1
    obtain ⟨z2, a2, _⟩ := DataW.trod_int Tryz.underlying3 h2
    obtain ⟨z3, a3, _⟩ := DataW.trod_int Tryz.underlying3 h3
    obtain ⟨z4, a4, _⟩ := DataW.trod_int Tryz.underlying3 h4
    obtain ⟨b5, a5, _⟩ := DataW.trod_bool Tryz.underlying4 h5
    cases a0
    cases a1
    cases a2
    cases a3
    cases a4
    cases a5
    exact ⟨z0, z1, z2, z3, z4, b5, rfl⟩

set_option maxRecDepth 100000 in
theorem lifted (os : Os) (started : os.Started) (H : Type) (enc : TypeId × Value → H) :
    ReturnsInHanded {} Tryz.checked os 4 .any (fun w args => (Rows.limiterSetupsSpec.pre enc Tryz.prog Tryz.f4 Rows.limiterSetupsRow.domain false w args ∧ laidMetH Tryz.prog Rows.limiterSetupsRow.laid w) ∧ sizedMet enc Tryz.prog Tryz.f4 (OpenSpec.ofChange Rows.limiterSetupsSpec) false w args)
      (Rows.limiterSetupsSpec.post enc Tryz.prog Tryz.f4 false true false false) := by
  refine returnsInHanded_of_change_and (C := Tryz.checked) (X := fun w _ => laidMetH Tryz.prog Rows.limiterSetupsRow.laid w) (fun _ _ _ hh h => h.of_heap hh) own started (by kernel_rfl) Tryz.func4
    (ChangeSpec.witness_shaped (enc := enc) (C := Tryz.checked) (os := os) (X := fun w _ => laidMetH Tryz.prog Rows.limiterSetupsRow.laid w) false (World.laidAll Tryz.prog os Rows.limiterSetupsRow.laid) #[.agg #[.int .i64 0, .int .i64 0, .int .i64 0, .int .i64 0, .int .i64 0, .bool false]] 8 (World.laidAll_os _ _ _)
      (World.shaped_of_ZipB (by kernel_rfl) (by kernel_rfl)) (by kernel_rfl) (by kernel_rfl) (by kernel_rfl)
      (by rw [MakeChecks.laidMetH_plain _ _ _ (by kernel_rfl)]; exact laidMet_laidAll _ (by kernel_rfl) (by kernel_rfl))) ?_
  intro W base args ds gs before hval0 hW _ _ _ _
  have hval : ∀ (j : Nat) t v, Tryz.f4.params[j]? = some t → args[j]? = some v → Value.okWide Tryz.prog W .any base t v := hval0
  have hW' := hW
  obtain ⟨p, q, hA0, hV, rfl, hfz, hnd⟩ := hW
  have hA : DataW.TrodAll enc Tryz.prog W 0 (fun _ => true) true Tryz.f4.params.toList args.toList ds p := hA0
  rw [Tryz.params4] at hA hval
  obtain ⟨v0, vs0, d0, ds0, p0, q0, hargs, rfl, rfl, h0, r0⟩ := trodAll_cons hA
  obtain ⟨rfl, rfl, rfl⟩ := trodAll_nil r0
  obtain rfl : args = #[v0] := by cases args; simp_all
  obtain ⟨rfl, rfl⟩ := trodVars_none hV
  obtain ⟨f, c, k, m, s, d, rfl⟩ := open_setup (hval 0 48 v0 rfl rfl) h0
  have k0 := h0
  have lt0 : ∀ x ∈ p0, x.block < W.heap.size := by obtain ⟨m, hm⟩ := k0; exact DataW.trod_lt m _ _ _ hm
  clear hA0 hval0
  refine (law_walk f c k m s d W).mono fun e W' ⟨he, bel⟩ => ?_
  subst he
  exact ⟨_, rfl, _, _, _, [], _, [], hW', trodAll_mk1 (shut_bool Tryz.underlying4 _), (trodAll_cons_mk (Below.trod laidOut (by kernel_rfl) (of_decide_eq_true (by kernel_rfl)) k0 bel lt0) trodAll_mk0), rfl, bel.frame _, fun h => by cases h⟩

set_option maxHeartbeats 40000000 in
set_option maxRecDepth 100000 in
theorem row_holds : Rows.LimiterSetupsSaid :=
  OpenClaim.holds_of_wide 4 Tryz.f4 rfl rfl rfl rfl rfl rfl rfl ⟨rfl, rfl, rfl, rfl, rfl⟩ rfl rfl rfl rfl rfl (by as_aux_lemma => kernel_rfl) Tryz.func4 factsLs.closed
    (of_decide_eq_true (by as_aux_lemma => kernel_rfl)) (by unfold Func.isWrapper; first | (rw [if_pos (by decide +kernel)]; kernel_rfl) | (rw [if_neg (by decide +kernel)]; exact ⟨rfl, rfl⟩))
    (fun os started H enc _ => lifted os started H enc)

set_option maxHeartbeats 40000000 in
set_option maxRecDepth 100000 in
theorem card_holds : Rows.LimiterSetupsCardSaid :=
  Claim7.holds_tied_plain_at .later [] [.data, .pinned] true (true, "8a7633c37ccc4fbe6c0a1bc3ac2511d098aef5e2aec57e69803edce7a9e7b5c6") true row_holds (fun _ h => by cases h) (by as_aux_lemma => kernel_rfl) (fun _ h => by cases h) limiterSetups_row_tie rfl ⟨rfl, rfl⟩ (by as_aux_lemma => kernel_rfl) rfl
    (fun f fn hf hfn => by
      obtain rfl : f = 4 := Option.some.inj ((show Tryz.prog.funcNamed "turncock/turncocklaw30.LimiterSetups" = some 4 by as_aux_lemma => kernel_rfl).symm.trans hf) |>.symm
      obtain rfl : fn = Tryz.f4 := (Option.some.inj (Tryz.func4.symm.trans hfn)).symm
      exact ⟨by as_aux_lemma => kernel_rfl, fun j t ht => by
        rw [Tryz.params4] at ht
        have hm : t ∈ [48] := by simpa using Array.mem_of_getElem? ht
        have hall : ([48].all fun u => !Tryz.prog.wantsStandIn u) = true := by kernel_rfl
        exact (show Tryz.prog.wantsStandIn t = false by simpa using List.all_eq_true.1 hall t hm)⟩)
    (by as_aux_lemma => kernel_rfl)

end Go.Proofs.YtmeemfdpfdcghaaGreatDoor.limiterSetups
namespace Go.Proofs.YtmeemfdpfdcghaaGreatDoor
/-- The card, under a short name, for the claim. -/
theorem limiterSetups_holds : Rows.LimiterSetupsCardSaid := limiterSetups.card_holds
end Go.Proofs.YtmeemfdpfdcghaaGreatDoor
