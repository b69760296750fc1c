/- LimiterSetups: the walk. -/
import Derived.Test.YtmeemfdpfdcghaaGreatDoorNewX
import Derived.Test.YtmeemfdpfdcghaaGreatDoorPCsx1
import Derived.Test.YtmeemfdpfdcghaaGreatDoorAw30
namespace Go.Proofs.YtmeemfdpfdcghaaGreatDoor.NewW
open Go.RowKit Go.Proofs.YtmeemfdpfdcghaaGreatDoorW.PrintWords Go.Proofs.YtmeemfdpfdcghaaGreatDoorW.PrintLast

abbrev setup (f c k m s : Int) (d : Bool) : Value := .agg #[.int .i64 f, .int .i64 c, .int .i64 k, .int .i64 m, .int .i64 s, .bool d]

def okAll (f c k m s : Int) : Bool := inB f 1 65536 && inB c 1 64 && inB k 1 4096 && inB m 0 1024 && inB s 0 256

theorem check_f (f c k m s : Int) (d : Bool) : PCs.turncockref26_CheckSetup.f f c k m s d = some (okAll f c k m s) := by
  unfold PCs.turncockref26_CheckSetup.f okAll inB
  repeat' split
  all_goals (simp only [Option.some.injEq]; first
    | (symm; simp only [Bool.and_eq_false_iff, decide_eq_false_iff_not]; omega)
    | (rw [Bool.eq_iff_iff]; simp only [Bool.and_eq_true, decide_eq_true_eq]; omega))

set_option maxRecDepth 100000 in
set_option maxHeartbeats 8000000 in
theorem law_walk_bad (f c k m s : Int) (d : Bool) (w : World) (hk : okAll f c k m s = false)
    (hn : ∀ w, Calls Tryz.prog 13 #[.agg #[.int .i64 f, .int .i64 c, .int .i64 k, .int .i64 m, .int .i64 s, .bool d]] w fun e w' => e = .returned (.tuple #[.pointer none, .int .i64 1]) ∧ Below w.heap.size w w') :
    Calls Tryz.prog 4 #[.agg #[.int .i64 f, .int .i64 c, .int .i64 k, .int .i64 m, .int .i64 s, .bool d]] w fun e w' => e = .returned (.bool true) ∧ Below w.heap.size w w' := by
  have HN := Aside0.mk hn
  have HC := Aside0.mk (check_f f c k m s d)
  rw [hk] at HC
  clear hn hk
  have HB := Aside0.mk (Below.refl w.heap.size w)
  go_enter Tryz.func4, Tryz.ntmps4
  go_wp2_with (first | (go_at_call 13; refine (HN.out _).mono ?_; rintro e w1 ⟨rfl, hb⟩; have c0 : w1.cell? ⟨w.heap.size, 0, none⟩ = some (.int .i64 f) := cell_after hb (by simp); have c1 : w1.cell? ⟨w.heap.size, 1, none⟩ = some (.int .i64 c) := cell_after hb (by simp); have c2 : w1.cell? ⟨w.heap.size, 2, none⟩ = some (.int .i64 k) := cell_after hb (by simp); have c3 : w1.cell? ⟨w.heap.size, 3, none⟩ = some (.int .i64 m) := cell_after hb (by simp); have c4 : w1.cell? ⟨w.heap.size, 4, none⟩ = some (.int .i64 s) := cell_after hb (by simp); have c5 : w1.cell? ⟨w.heap.size, 5, none⟩ = some (.bool d) := cell_after hb (by simp); have hq := below_step (below_alloc HB.out _) hb; clear HB hb; have HB := Aside0.mk hq; clear hq) | (go_at_call 14; refine (PCs.turncockref26_CheckSetup.calls _ _ _ _ _ _ _ _ HC.out).mono ?_; rintro e w1 ⟨rfl, hb⟩; have hq := below_step HB.out hb; clear HB hb; have HB := Aside0.mk hq; clear hq) | (go_at_call 15; refine (Aw.awake_calls30 _).mono ?_; rintro e w1 ⟨rfl, hb⟩; have hq := below_step HB.out hb; clear HB hb; have HB := Aside0.mk hq; clear hq))
  go_ret
  exact ⟨rfl, HB.out⟩

set_option maxRecDepth 100000 in
set_option maxHeartbeats 8000000 in
theorem law_walk_ok (f c k m s : Int) (d : Bool) (w : World) (hk : okAll f c k m s = true)
    (hn : ∀ w, Calls Tryz.prog 13 #[.agg #[.int .i64 f, .int .i64 c, .int .i64 k, .int .i64 m, .int .i64 s, .bool d]] w (Made w)) :
    Calls Tryz.prog 4 #[.agg #[.int .i64 f, .int .i64 c, .int .i64 k, .int .i64 m, .int .i64 s, .bool d]] w fun e w' => e = .returned (.bool true) ∧ Below w.heap.size w w' := by
  have HN := Aside0.mk hn
  have HC := Aside0.mk (check_f f c k m s d)
  rw [hk] at HC
  clear hn hk
  have HB := Aside0.mk (Below.refl w.heap.size w)
  go_enter Tryz.func4, Tryz.ntmps4
  go_wp2_with (first | (go_at_call 13; refine (HN.out _).mono ?_; rintro e w1 ⟨⟨a, rfl⟩, hb⟩; have c0 : w1.cell? ⟨w.heap.size, 0, none⟩ = some (.int .i64 f) := cell_after hb (by simp); have c1 : w1.cell? ⟨w.heap.size, 1, none⟩ = some (.int .i64 c) := cell_after hb (by simp); have c2 : w1.cell? ⟨w.heap.size, 2, none⟩ = some (.int .i64 k) := cell_after hb (by simp); have c3 : w1.cell? ⟨w.heap.size, 3, none⟩ = some (.int .i64 m) := cell_after hb (by simp); have c4 : w1.cell? ⟨w.heap.size, 4, none⟩ = some (.int .i64 s) := cell_after hb (by simp); have c5 : w1.cell? ⟨w.heap.size, 5, none⟩ = some (.bool d) := cell_after hb (by simp); have hq := below_step (below_alloc HB.out _) hb; clear HB hb; have HB := Aside0.mk hq; clear hq) | (go_at_call 14; refine (PCs.turncockref26_CheckSetup.calls _ _ _ _ _ _ _ _ HC.out).mono ?_; rintro e w1 ⟨rfl, hb⟩; have hq := below_step HB.out hb; clear HB hb; have HB := Aside0.mk hq; clear hq) | (go_at_call 15; refine (Aw.awake_calls30 _).mono ?_; rintro e w1 ⟨rfl, hb⟩; have hq := below_step HB.out hb; clear HB hb; have HB := Aside0.mk hq; clear hq))
  go_ret
  exact ⟨rfl, HB.out⟩

theorem law_walk (f c k m s : Int) (d : Bool) (w : World) :
    Calls Tryz.prog 4 #[.agg #[.int .i64 f, .int .i64 c, .int .i64 k, .int .i64 m, .int .i64 s, .bool d]] w fun e w' => e = .returned (.bool true) ∧ Below w.heap.size w w' := by
  by_cases hall : okAll f c k m s = true
  · have hall' := hall
    unfold okAll at hall'
    simp only [Bool.and_eq_true] at hall'
    obtain ⟨⟨⟨⟨h1, h2⟩, h3⟩, h4⟩, h5⟩ := hall'
    have hk := h3
    unfold inB at hk
    simp only [Bool.and_eq_true, decide_eq_true_eq] at hk
    obtain ⟨n, rfl⟩ : ∃ n : Nat, k = (n : Int) := ⟨k.toNat, by omega⟩
    refine law_walk_ok f c (n : Int) m s d w hall fun w2 => new_ok f c m s n d w2 ?_ (by omega) (by omega)
    simp only [Bool.and_eq_true]
    exact ⟨⟨⟨h1, h2⟩, h4⟩, h5⟩
  · have hf : okAll f c k m s = false := by simpa using hall
    refine law_walk_bad f c k m s d w hf fun w2 => ?_
    by_cases h : (inB f 1 65536 && inB c 1 64 && inB m 0 1024 && inB s 0 256) = true
    · refine new_keys f c k m s d w2 h ?_
      have hk : inB k 1 4096 = false := by
        revert hf h
        unfold okAll
        generalize inB f 1 65536 = b1
        generalize inB c 1 64 = b2
        generalize inB k 1 4096 = b3
        generalize inB m 0 1024 = b4
        generalize inB s 0 256 = b5
        revert b1 b2 b3 b4 b5
        decide
      unfold inB at hk
      simp only [Bool.and_eq_false_iff, decide_eq_false_iff_not] at hk
      omega
    · exact new_early f c k m s d w2 (by simpa using h)

end Go.Proofs.YtmeemfdpfdcghaaGreatDoor.NewW
