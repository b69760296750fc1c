/- limiter.New: contracts. -/
import Derived.Test.YtmeemfdpfdcghaaGreatDoorNewW
namespace Go.Proofs.YtmeemfdpfdcghaaGreatDoor.NewW
open Go.RowKit Go.Proofs.YtmeemfdpfdcghaaGreatDoorW.PrintWords Go.Proofs.YtmeemfdpfdcghaaGreatDoorW.PrintLast

def okB (f c k m s : Int) : Bool := decide (1 ≤ f) && decide (f ≤ 65536) && decide (1 ≤ c) && decide (c ≤ 64) && decide (1 ≤ k) && decide (k ≤ 4096) && decide (0 ≤ m) && decide (m ≤ 1024) && decide (0 ≤ s) && decide (s ≤ 256)

set_option maxRecDepth 100000 in
set_option maxHeartbeats 4000000 in
theorem within_any (n l m : Int) (w : World) : Calls Tryz.prog 38 #[.int .i64 n, .int .i64 l, .int .i64 m] w fun e w' => e = .returned (.bool (decide (l ≤ n) && decide (n ≤ m))) ∧ w = w' := by
  by_cases h : l ≤ n
  · have hb : decide (l ≤ n) = true := decide_eq_true h
    rw [hb, Bool.true_and]
    clear hb
    go_enter Tryz.func38, Tryz.ntmps38
    go_wp2
    go_ret
    exact ⟨rfl, rfl⟩
  · have hb : decide (l ≤ n) = false := decide_eq_false h
    rw [hb, Bool.false_and]
    clear hb
    go_enter Tryz.func38, Tryz.ntmps38
    go_wp2
    go_ret
    exact ⟨rfl, rfl⟩

theorem cell_after {W w9 : World} {p : Addr} {v : Value} (hb : Below W.heap.size W w9) (h : W.cell? p = some v) : w9.cell? p = some v := (hb.cell (World.block_lt_of_cell? W _ h)).trans h

/-- What was there is as it was; the first block behind it is there. -/
def Holds (w w' : World) : Prop := w.heap.size ≤ w'.heap.size ∧ Below w.heap.size w w'
theorem hold_refl (w : World) : Holds w w := ⟨Nat.le_refl _, Below.refl _ _⟩
theorem hold_alloc {w W : World} (h : Holds w W) (o : Obj) : Holds w (W.alloc o) := ⟨(below_alloc h.2 o).size, below_alloc h.2 o⟩
theorem hold_drew {w W : World} (h : Holds w W) : Holds w W.drew := ⟨h.1, h.2.drew⟩
theorem hold_below {w W w9 : World} (h : Holds w W) (hb : Below W.heap.size W w9) : Holds w w9 := ⟨(h.2.trans (hb.mono h.1)).size, h.2.trans (hb.mono h.1)⟩

theorem keep_below {w W w9 : World} {f c k m s : Int} {d : Bool} (h : W.cell? ⟨w.heap.size, 0, none⟩ = some (.int .i64 f) ∧ W.cell? ⟨w.heap.size, 1, none⟩ = some (.int .i64 c) ∧ W.cell? ⟨w.heap.size, 2, none⟩ = some (.int .i64 k) ∧ W.cell? ⟨w.heap.size, 3, none⟩ = some (.int .i64 m) ∧ W.cell? ⟨w.heap.size, 4, none⟩ = some (.int .i64 s) ∧ W.cell? ⟨w.heap.size, 5, none⟩ = some (.bool d) ∧ Holds w W) (hb : Below W.heap.size W w9) : w9.cell? ⟨w.heap.size, 0, none⟩ = some (.int .i64 f) ∧ w9.cell? ⟨w.heap.size, 1, none⟩ = some (.int .i64 c) ∧ w9.cell? ⟨w.heap.size, 2, none⟩ = some (.int .i64 k) ∧ w9.cell? ⟨w.heap.size, 3, none⟩ = some (.int .i64 m) ∧ w9.cell? ⟨w.heap.size, 4, none⟩ = some (.int .i64 s) ∧ w9.cell? ⟨w.heap.size, 5, none⟩ = some (.bool d) ∧ Holds w w9 :=
  ⟨cell_after hb h.1, cell_after hb h.2.1, cell_after hb h.2.2.1, cell_after hb h.2.2.2.1, cell_after hb h.2.2.2.2.1, cell_after hb h.2.2.2.2.2.1, hold_below h.2.2.2.2.2.2 hb⟩
theorem keep_alloc {w W : World} {f c k m s : Int} {d : Bool} (h : W.cell? ⟨w.heap.size, 0, none⟩ = some (.int .i64 f) ∧ W.cell? ⟨w.heap.size, 1, none⟩ = some (.int .i64 c) ∧ W.cell? ⟨w.heap.size, 2, none⟩ = some (.int .i64 k) ∧ W.cell? ⟨w.heap.size, 3, none⟩ = some (.int .i64 m) ∧ W.cell? ⟨w.heap.size, 4, none⟩ = some (.int .i64 s) ∧ W.cell? ⟨w.heap.size, 5, none⟩ = some (.bool d) ∧ Holds w W) (o : Obj) : (W.alloc o).cell? ⟨w.heap.size, 0, none⟩ = some (.int .i64 f) ∧ (W.alloc o).cell? ⟨w.heap.size, 1, none⟩ = some (.int .i64 c) ∧ (W.alloc o).cell? ⟨w.heap.size, 2, none⟩ = some (.int .i64 k) ∧ (W.alloc o).cell? ⟨w.heap.size, 3, none⟩ = some (.int .i64 m) ∧ (W.alloc o).cell? ⟨w.heap.size, 4, none⟩ = some (.int .i64 s) ∧ (W.alloc o).cell? ⟨w.heap.size, 5, none⟩ = some (.bool d) ∧ Holds w (W.alloc o) :=
  keep_below h (below_alloc (Below.refl _ _) o)
theorem keep_holds {w W : World} {f c k m s : Int} {d : Bool} (h : W.cell? ⟨w.heap.size, 0, none⟩ = some (.int .i64 f) ∧ W.cell? ⟨w.heap.size, 1, none⟩ = some (.int .i64 c) ∧ W.cell? ⟨w.heap.size, 2, none⟩ = some (.int .i64 k) ∧ W.cell? ⟨w.heap.size, 3, none⟩ = some (.int .i64 m) ∧ W.cell? ⟨w.heap.size, 4, none⟩ = some (.int .i64 s) ∧ W.cell? ⟨w.heap.size, 5, none⟩ = some (.bool d) ∧ Holds w W) : Below w.heap.size w W := h.2.2.2.2.2.2.2
theorem keep_drew {w W : World} {f c k m s : Int} {d : Bool} (h : W.cell? ⟨w.heap.size, 0, none⟩ = some (.int .i64 f) ∧ W.cell? ⟨w.heap.size, 1, none⟩ = some (.int .i64 c) ∧ W.cell? ⟨w.heap.size, 2, none⟩ = some (.int .i64 k) ∧ W.cell? ⟨w.heap.size, 3, none⟩ = some (.int .i64 m) ∧ W.cell? ⟨w.heap.size, 4, none⟩ = some (.int .i64 s) ∧ W.cell? ⟨w.heap.size, 5, none⟩ = some (.bool d) ∧ Holds w W) : W.drew.cell? ⟨w.heap.size, 0, none⟩ = some (.int .i64 f) ∧ W.drew.cell? ⟨w.heap.size, 1, none⟩ = some (.int .i64 c) ∧ W.drew.cell? ⟨w.heap.size, 2, none⟩ = some (.int .i64 k) ∧ W.drew.cell? ⟨w.heap.size, 3, none⟩ = some (.int .i64 m) ∧ W.drew.cell? ⟨w.heap.size, 4, none⟩ = some (.int .i64 s) ∧ W.drew.cell? ⟨w.heap.size, 5, none⟩ = some (.bool d) ∧ Holds w W.drew :=
  keep_below h (Below.refl _ _).drew

def inB (n l m : Int) : Bool := decide (l ≤ n) && decide (n ≤ m)

set_option maxRecDepth 100000 in
set_option maxHeartbeats 8000000 in
theorem new_early (f c k m s : Int) (d : Bool) (w : World) (h : (inB f 1 65536 && inB c 1 64 && inB m 0 1024 && inB s 0 256) = false) :
    Calls Tryz.prog 13 #[.agg #[.int .i64 f, .int .i64 c, .int .i64 k, .int .i64 m, .int .i64 s, .bool d]] w fun e w' => e = .returned (.tuple #[.pointer none, .int .i64 1]) ∧ Below w.heap.size w w' := by
  have hw : ∀ (n l m : Int) (w : World), Calls Tryz.prog 38 #[.int .i64 n, .int .i64 l, .int .i64 m] w fun e w' => e = .returned (.bool (inB n l m)) ∧ w = w' := within_any
  have HW := Aside0.mk hw
  clear hw
  generalize hb1 : inB f 1 65536 = b1 at h
  generalize hb2 : inB c 1 64 = b2 at h
  generalize hb3 : inB m 0 1024 = b3 at h
  generalize hb4 : inB s 0 256 = b4 at h
  have B1 := Aside0.mk hb1
  have B2 := Aside0.mk hb2
  have B3 := Aside0.mk hb3
  have B4 := Aside0.mk hb4
  clear hb1 hb2 hb3 hb4
  have H := Aside0.mk h
  clear h
  go_enter Tryz.func13, Tryz.ntmps13
  go_wp2_with (go_at_call 38; refine (HW.out _ _ _ _).mono ?_; rintro e w1 ⟨rfl, rfl⟩; (first | rw [B1.out] | rw [B2.out] | rw [B3.out] | rw [B4.out]))
  all_goals first
    | (go_ret2; exact ⟨rfl, by repeat (first | exact Below.refl _ _ | apply below_alloc)⟩)
    | (exfalso; have := H.out; simp_all)

set_option maxRecDepth 100000 in
set_option maxHeartbeats 8000000 in
theorem new_keys (f c k m s : Int) (d : Bool) (w : World) (h : (inB f 1 65536 && inB c 1 64 && inB m 0 1024 && inB s 0 256) = true) (hk : k < 1 ∨ 4096 < k) :
    Calls Tryz.prog 13 #[.agg #[.int .i64 f, .int .i64 c, .int .i64 k, .int .i64 m, .int .i64 s, .bool d]] w fun e w' => e = .returned (.tuple #[.pointer none, .int .i64 1]) ∧ Below w.heap.size w w' := by
  have hw : ∀ (n l m : Int) (w : World), Calls Tryz.prog 38 #[.int .i64 n, .int .i64 l, .int .i64 m] w fun e w' => e = .returned (.bool (inB n l m)) ∧ w = w' := within_any
  have HW := Aside0.mk hw
  clear hw
  simp only [Bool.and_eq_true] at h
  obtain ⟨⟨⟨h1, h2⟩, h3⟩, h4⟩ := h
  have B1 := Aside0.mk h1
  have B2 := Aside0.mk h2
  have B3 := Aside0.mk h3
  have B4 := Aside0.mk h4
  have HK := Aside0.mk hk
  clear h1 h2 h3 h4 hk
  go_enter Tryz.func13, Tryz.ntmps13
  go_wp2_with (first | (go_at_call 38; refine (HW.out _ _ _ _).mono ?_; rintro e w1 ⟨rfl, rfl⟩; (first | rw [B1.out] | rw [B2.out] | rw [B3.out] | rw [B4.out])) | (go_at_call 39; refine (cache_bad _ _ HK.out).mono ?_; rintro e w1 ⟨rfl, hb⟩; have HB := Aside0.mk hb; clear hb))
  go_ret2
  exact ⟨rfl, below_step (below_alloc (Below.refl _ _) _) HB.out⟩

set_option maxRecDepth 100000 in
set_option maxHeartbeats 8000000 in
theorem new_ok (f c m s : Int) (k : Nat) (d : Bool) (w : World) (h : (inB f 1 65536 && inB c 1 64 && inB m 0 1024 && inB s 0 256) = true) (hk1 : 1 ≤ k) (hk2 : k ≤ 4096) :
    Calls Tryz.prog 13 #[.agg #[.int .i64 f, .int .i64 c, .int .i64 (k : Int), .int .i64 m, .int .i64 s, .bool d]] w (Made w) := by
  have hw : ∀ (n l m : Int) (w : World), Calls Tryz.prog 38 #[.int .i64 n, .int .i64 l, .int .i64 m] w fun e w' => e = .returned (.bool (inB n l m)) ∧ w = w' := within_any
  have HW := Aside0.mk hw
  clear hw
  simp only [Bool.and_eq_true] at h
  obtain ⟨⟨⟨h1, h2⟩, h3⟩, h4⟩ := h
  have B1 := Aside0.mk h1
  have B2 := Aside0.mk h2
  have B3 := Aside0.mk h3
  have B4 := Aside0.mk h4
  have H1 := Aside0.mk hk1
  have H2 := Aside0.mk hk2
  clear h1 h2 h3 h4 hk1 hk2
  go_enter Tryz.func13, Tryz.ntmps13
  go_wp2_with (first | (go_at_call 38; refine (HW.out _ _ _ _).mono ?_; rintro e w1 ⟨rfl, rfl⟩; (first | rw [B1.out] | rw [B2.out] | rw [B3.out] | rw [B4.out])) | (go_at_call 39; refine (cache_ok k _ H1.out H2.out).mono ?_; rintro e w1 ⟨⟨a, rfl⟩, hb⟩; have HB := Aside0.mk hb; clear hb))
  have c0 : w1.cell? ⟨w.heap.size, 0, none⟩ = some (.int .i64 f) := cell_after HB.out (by simp)
  have c1 : w1.cell? ⟨w.heap.size, 1, none⟩ = some (.int .i64 c) := cell_after HB.out (by simp)
  have c2 : w1.cell? ⟨w.heap.size, 2, none⟩ = some (.int .i64 (k : Int)) := cell_after HB.out (by simp)
  have c3 : w1.cell? ⟨w.heap.size, 3, none⟩ = some (.int .i64 m) := cell_after HB.out (by simp)
  have c4 : w1.cell? ⟨w.heap.size, 4, none⟩ = some (.int .i64 s) := cell_after HB.out (by simp)
  have c5 : w1.cell? ⟨w.heap.size, 5, none⟩ = some (.bool d) := cell_after HB.out (by simp)
  have ch : Holds w w1 := hold_below (hold_alloc (hold_refl w) _) HB.out
  have hS : w1.cell? ⟨w.heap.size, 0, none⟩ = some (.int .i64 f) ∧ w1.cell? ⟨w.heap.size, 1, none⟩ = some (.int .i64 c) ∧ w1.cell? ⟨w.heap.size, 2, none⟩ = some (.int .i64 (k : Int)) ∧ w1.cell? ⟨w.heap.size, 3, none⟩ = some (.int .i64 m) ∧ w1.cell? ⟨w.heap.size, 4, none⟩ = some (.int .i64 s) ∧ w1.cell? ⟨w.heap.size, 5, none⟩ = some (.bool d) ∧ Holds w w1 := ⟨c0, c1, c2, c3, c4, c5, ch⟩
  clear HB c0 c1 c2 c3 c4 c5 ch
  go_region_held3 (fun w' => w'.cell? ⟨w.heap.size, 0, none⟩ = some (.int .i64 f) ∧ w'.cell? ⟨w.heap.size, 1, none⟩ = some (.int .i64 c) ∧ w'.cell? ⟨w.heap.size, 2, none⟩ = some (.int .i64 (k : Int)) ∧ w'.cell? ⟨w.heap.size, 3, none⟩ = some (.int .i64 m) ∧ w'.cell? ⟨w.heap.size, 4, none⟩ = some (.int .i64 s) ∧ w'.cell? ⟨w.heap.size, 5, none⟩ = some (.bool d) ∧ Holds w w') (first | assumption | exact keep_drew (by assumption) | exact keep_alloc (by assumption) _ | exact keep_alloc (keep_drew (by assumption)) _) (first | (go_at_call 28; refine (stat_new _).mono ?_; rintro e w9 ⟨⟨b, rfl⟩, hb⟩; have qS := keep_below (by assumption) hb; clear hb) | (go_at_call 40; refine (marks_new _ _).mono ?_; rintro e w9 ⟨⟨b, rfl⟩, hb⟩; have qS := keep_below (by assumption) hb; clear hb))
  go_wp2
  go_ret2
  exact ⟨⟨_, rfl⟩, by first | exact keep_holds (by assumption) | exact below_alloc (keep_holds (by assumption)) _⟩

end Go.Proofs.YtmeemfdpfdcghaaGreatDoor.NewW
