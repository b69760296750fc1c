/- ScriptStreams: what went out on a connection is all of it, in its order, and of no other: for every list of outs and every connection the law answers true, and its arguments read as before. Conditions: the row's own, that utf8's two tables read as the program's text lays them (the card ties them). -/
import Derived.Test.YtbnnikpgopjieaaGreatDoorTie
import Derived.Test.YtbnnikpgopjieaaGreatDoorCards
import Derived.Test.YtbnnikpgopjieaaGreatDoorPureSs
import Derived.Test.YtbnnikpgopjieaaGreatDoorFactSs
import Derived.Test.YtbnnikpgopjieaaGreatDoorOpen
import Derived.WalkKit
import Derived.ProofKit
import Derived.OpenShut
import Derived.ShutString
import Derived.ChangeOld
import Derived.Below
import Derived.SizedLaws
import Derived.Deep.Strs
import Derived.LaidMore
import Derived.Lay
import Derived.SevenTiedAt
import Derived.Stop.Joined
namespace Go.Proofs.YtbnnikpgopjieaaGreatDoor.scriptStreams
open Go.ChangeShapes Go.WideShapes Go.ChangeAt Go.RowKit Go.Deep
open Go.Proofs.YtbnnikpgopjieaaGreatDoor.PScriptStreams Go.Proofs.YtbnnikpgopjieaaGreatDoor.Opens Go.Proofs.YtbnnikpgopjieaaGreatDoorW.PrintWords

theorem own : ownKnob Tryz.prog.godebug = none := by kernel_rfl
theorem laidOut : laidOutB Tryz.prog = true := by kernel_rfl

set_option maxRecDepth 100000 in
theorem opens_out {H : Type} {enc : TypeId × Value → H} {w : World} {base : Nat} {spare : Nat → Bool} {held : Bool} : Opens enc Tryz.prog w base spare held k25 25 := by
  intro fuel cs y h hl
  obtain ⟨y0, y1, y2, n, _, _, h0, h1, h2⟩ := trod_struct3 Tryz.underlying25 h
  have hl3 : cs.length = 3 := hl
  match cs, hl3 with
  | [c0, c1, c2], _ =>
    have e3 : Tryz.prog.cellsOf 3 = 1 := by kernel_rfl
    have e23 : Tryz.prog.cellsOf 23 = 1 := by kernel_rfl
    have e4 : Tryz.prog.cellsOf 4 = 1 := by kernel_rfl
    have e5 : Tryz.prog.cellsOf 5 = 1 := by kernel_rfl
    simp only [e3, e23, e4, List.drop_zero, List.drop_succ_cons, List.take_succ_cons, List.take_zero] at h0 h1 h2
    obtain ⟨z, e, _⟩ := DataW.trod_int Tryz.underlying3 h0
    obtain ⟨A, c, x, e', hle, _, hC⟩ := Go.Proofs.YtbnnikpgopjieaaGreatDoor.Opens.open_row (k := Kd.int .u8) Tryz.underlying23 e5 (opens_int Tryz.underlying5) h1
    obtain ⟨b, e'', _⟩ := DataW.trod_bool Tryz.underlying4 h2
    cases e
    cases e'
    cases e''
    exact ⟨⟨z, x, b⟩, k25_mk w ⟨z, x, b⟩ hle hC⟩

set_option maxRecDepth 100000 in
theorem lifted (os : Os) (started : os.Started) (H : Type) (enc : TypeId × Value → H) :
    ReturnsInHanded {} Tryz.checked os 3 .any (fun w args => (Rows.scriptStreamsSpec.pre enc Tryz.prog Tryz.f3 Rows.scriptStreamsRow.domain false w args ∧ laidMetH Tryz.prog Rows.scriptStreamsRow.laid w) ∧ sizedMet enc Tryz.prog Tryz.f3 (OpenSpec.ofChange Rows.scriptStreamsSpec) false w args)
      (Rows.scriptStreamsSpec.post enc Tryz.prog Tryz.f3 false true false false) := by
  refine returnsInHanded_of_change_and (C := Tryz.checked) (X := fun w _ => laidMetH Tryz.prog Rows.scriptStreamsRow.laid w) (fun _ _ _ hh h => h.of_heap hh) own started (by kernel_rfl) Tryz.func3
    (ChangeSpec.witness_shaped (enc := enc) (C := Tryz.checked) (os := os) (X := fun w _ => laidMetH Tryz.prog Rows.scriptStreamsRow.laid w) false (World.laidAll Tryz.prog os Rows.scriptStreamsRow.laid) #[.slice none 0 0, .int .i64 0] 8 (World.laidAll_os _ _ _)
      (World.shaped_of_ZipB (by kernel_rfl) (by kernel_rfl)) (by kernel_rfl) (by kernel_rfl) (by kernel_rfl)
      (by rw [MakeChecks.laidMetH_plain _ _ _ (by kernel_rfl)]; exact laidMet_laidAll _ (by kernel_rfl) (by kernel_rfl))) ?_
  intro W base args ds gs before hval0 hW _ _ _ _
  have hval : ∀ (j : Nat) t v, Tryz.f3.params[j]? = some t → args[j]? = some v → Value.okWide Tryz.prog W .any base t v := hval0
  have hW' := hW
  obtain ⟨p, q, hA0, hV, rfl, hfz, hnd⟩ := hW
  have hA : DataW.TrodAll enc Tryz.prog W 0 (fun _ => true) true Tryz.f3.params.toList args.toList ds p := hA0
  rw [Tryz.params3] at hA hval
  obtain ⟨v0, vs0, d0, ds0, p0, q0, hargs, rfl, rfl, h0, r0⟩ := trodAll_cons hA
  obtain ⟨v1, vs1, d1, ds1, p1, q1, rfl, rfl, rfl, h1, r1⟩ := trodAll_cons r0
  obtain ⟨rfl, rfl, rfl⟩ := trodAll_nil r1
  obtain rfl : args = #[v0, v1] := by cases args; simp_all
  obtain ⟨rfl, rfl⟩ := trodVars_none hV
  obtain ⟨a0, len0, cap0, rfl⟩ := okWide_slice Tryz.underlying22 (hval 0 22 v0 rfl rfl)
  have k0 := h0
  have lt0 : ∀ x ∈ p0, x.block < W.heap.size := by obtain ⟨m, hm⟩ := k0; exact DataW.trod_lt m _ _ _ hm
  obtain ⟨l, hlen, hcap, hC⟩ : ∃ l : List S25, l.length = len0 ∧ l.length ≤ cap0 ∧ k25.C W a0 l.length l := by
    obtain ⟨fuel, hf⟩ := h0
    obtain ⟨A, c, x, e, h1, _, h3⟩ := Go.Proofs.YtbnnikpgopjieaaGreatDoor.Opens.open_row (k := k25) Tryz.underlying22 (by kernel_rfl) opens_out hf
    simp [Value.cells] at e
    obtain ⟨rfl, rfl, rfl⟩ := e
    exact ⟨x, rfl, h1, h3⟩
  subst hlen
  obtain ⟨a1, rfl, rfl, rfl, w1⟩ := open_int Tryz.underlying3 (hval 1 3 v1 rfl rfl) h1
  clear hA0 hval0
  obtain ⟨k, hk⟩ := PureSs.pure_law l a1 hC.2.1
  refine (turncocklaw34_ScriptStreams.calls k a0 cap0 l a1 true W hC hcap hk).mono fun e W' ⟨he, bel⟩ => ?_
  subst he
  exact ⟨_, rfl, _, _, _, [], _, [], hW', trodAll_mk1 (shut_bool Tryz.underlying4 _), (trodAll_cons_mk (Below.trod laidOut (by kernel_rfl) (of_decide_eq_true (by kernel_rfl)) k0 bel lt0) (trodAll_cons_mk (shut_int Tryz.underlying3 w1) trodAll_mk0)), rfl, bel.frame _, fun h => by cases h⟩

set_option maxHeartbeats 40000000 in
set_option maxRecDepth 100000 in
theorem row_holds : Rows.ScriptStreamsSaid :=
  OpenClaim.holds_of_wide 3 Tryz.f3 rfl rfl rfl rfl rfl rfl rfl ⟨rfl, rfl, rfl, rfl, rfl⟩ rfl rfl rfl rfl rfl (by as_aux_lemma => kernel_rfl) Tryz.func3 factsSs.closed
    (of_decide_eq_true (by as_aux_lemma => kernel_rfl)) (by unfold Func.isWrapper; first | (rw [if_pos (by decide +kernel)]; kernel_rfl) | (rw [if_neg (by decide +kernel)]; exact ⟨rfl, rfl⟩))
    (fun os started H enc _ => lifted os started H enc)

set_option maxHeartbeats 40000000 in
set_option maxRecDepth 100000 in
theorem card_holds : Rows.ScriptStreamsCardSaid :=
  Claim7.holds_tied_plain_at .later [] [.data, .pinned] true (true, "d70a6293e449c61a5e0d7db3ca4fd76f4578175fdc3d80b93e408bc626387643") true row_holds (fun _ h => by cases h) (by as_aux_lemma => kernel_rfl) (fun _ h => by cases h) scriptStreams_row_tie rfl ⟨rfl, rfl⟩ (by as_aux_lemma => kernel_rfl) rfl
    (fun f fn hf hfn => by
      obtain rfl : f = 3 := Option.some.inj ((show Tryz.prog.funcNamed "turncock/turncocklaw34.ScriptStreams" = some 3 by as_aux_lemma => kernel_rfl).symm.trans hf) |>.symm
      obtain rfl : fn = Tryz.f3 := (Option.some.inj (Tryz.func3.symm.trans hfn)).symm
      exact ⟨by as_aux_lemma => kernel_rfl, fun j t ht => by
        rw [Tryz.params3] at ht
        have hm : t ∈ [22, 3] := by simpa using Array.mem_of_getElem? ht
        have hall : ([22, 3].all fun u => !Tryz.prog.wantsStandIn u) = true := by kernel_rfl
        exact (show Tryz.prog.wantsStandIn t = false by simpa using List.all_eq_true.1 hall t hm)⟩)
    (by as_aux_lemma => kernel_rfl)

end Go.Proofs.YtbnnikpgopjieaaGreatDoor.scriptStreams
namespace Go.Proofs.YtbnnikpgopjieaaGreatDoor
/-- The card, under a short name, for the claim. -/
theorem scriptStreams_holds : Rows.ScriptStreamsCardSaid := scriptStreams.card_holds
end Go.Proofs.YtbnnikpgopjieaaGreatDoor
