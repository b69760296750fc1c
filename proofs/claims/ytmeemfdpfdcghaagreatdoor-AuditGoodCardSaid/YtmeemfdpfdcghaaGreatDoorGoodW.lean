/- audit.Good's closure and the library's loop over it: contracts. -/
import Derived.Test.YtmeemfdpfdcghaaGreatDoorPAuditGoodx0
namespace Go.Proofs.YtmeemfdpfdcghaaGreatDoor.GoodW
open Go.RowKit Go.Proofs.YtmeemfdpfdcghaaGreatDoorW.PrintWords Go.Proofs.YtmeemfdpfdcghaaGreatDoorW.PrintLast Go.Proofs.YtmeemfdpfdcghaaGreatDoor.PAuditGood

set_option maxRecDepth 100000 in
set_option maxHeartbeats 4000000 in
theorem test_shadow (g lim h : Int) (k : ByteArray) (w : World) :
    Calls Tryz.prog 52 #[.agg #[.int .i64 g, .string k, .int .i64 lim, .int .i64 h, .bool true]] w fun e w' => e = .returned (.bool false) ∧ Below w.heap.size w w' := by
  go_enter Tryz.func52, Tryz.ntmps52
  go_wp2
  go_ret
  exact ⟨rfl, (Below.refl _ _).alloc (Nat.le_refl _) _⟩

set_option maxRecDepth 100000 in
set_option maxHeartbeats 4000000 in
theorem test_plain (g lim h : Int) (k : ByteArray) (w : World) :
    Calls Tryz.prog 52 #[.agg #[.int .i64 g, .string k, .int .i64 lim, .int .i64 h, .bool false]] w fun e w' => e = .returned (.bool (decide (h > lim))) ∧ Below w.heap.size w w' := by
  go_enter Tryz.func52, Tryz.ntmps52
  go_wp2
  go_ret
  exact ⟨rfl, (Below.refl _ _).alloc (Nat.le_refl _) _⟩

/-- Where the first sum stands that is beyond its limit and not Shadow; -1: nowhere. -/
def bad (x : S105) : Bool := !x.f4 && decide (x.f3 > x.f2)
def firstBad : List S105 → Nat → Int
  | [], _ => -1
  | x :: r, i => if bad x then (i : Int) else firstBad r (i + 1)

theorem drop_rd {l : List S105} {i : Nat} (h : i < l.length) : l.drop i = rd_T105 l (i : Int) :: l.drop (i + 1) := by
  rw [List.drop_eq_getElem_cons h]
  congr 1
  simp [rd_T105, List.getD_eq_getElem?_getD, List.getElem?_eq_getElem h]

set_option maxRecDepth 100000 in
set_option maxHeartbeats 8000000 in
theorem index_func (A0 : Option Addr) (c0 : Nat) (l0 : List S105) (w : World) (hr0 : Kd.C k105 w A0 l0.length l0) (hc0 : l0.length ≤ c0) :
    Calls Tryz.prog 72 #[.slice A0 l0.length c0, .func (.func 52) #[] #[]] w fun e w' => e = .returned (.int .i64 (firstBad l0 0)) ∧ Below w.heap.size w w' := by
  have HL := Aside0.mk hr0.2.1
  have HR0 := Aside0.mk hr0
  have HC0 := Aside0.mk hc0
  clear hr0 hc0
  have HB := Aside0.mk (Below.refl w.heap.size w)
  go_enter Tryz.func72, Tryz.ntmps72
  go_wp2
  go_loopg [8] (l0.length + 1) (fun kq v8 w' => ∃ (i : Nat), v8 = .int .i64 (i : Int) ∧ Aside0 (i ≤ l0.length) ∧ Aside0 (kq = l0.length + 1 - i) ∧ Aside0 (firstBad (l0.drop i) i = firstBad l0 0) ∧ Aside0 (Below w.heap.size w w'))
  case atStart => exact ⟨0, rfl, ⟨Nat.zero_le _⟩, ⟨rfl⟩, ⟨by simp⟩, HB⟩
  case round =>
    obtain ⟨i, rfl, HI, HK, HF, HB⟩ := hrel
    by_cases hlt : i < l0.length
    · have HD := Aside0.mk (drop_rd hlt)
      have p110 : 0 ≤ ((i : Nat) : Int) := by omega
      have q110 : ((i : Nat) : Int) < (l0.length : Int) := by omega
      have HLT := Aside0.mk hlt
      obtain ⟨ad, e, hx0, hx1, hx2, hx3, hx4⟩ := at_T105 HR0.out (i : Int) p110 q110
      cases e
      rw [Int.toNat_natCast] at hx0 hx1 hx2 hx3 hx4
      replace hx0 := (HB.out.cell (World.block_lt_of_cell? w _ hx0)).trans hx0
      replace hx1 := (HB.out.cell (World.block_lt_of_cell? w _ hx1)).trans hx1
      replace hx2 := (HB.out.cell (World.block_lt_of_cell? w _ hx2)).trans hx2
      replace hx3 := (HB.out.cell (World.block_lt_of_cell? w _ hx3)).trans hx3
      replace hx4 := (HB.out.cell (World.block_lt_of_cell? w _ hx4)).trans hx4
      have c2b0 : decide (i < l0.length) = true := decide_eq_true hlt
      clear p110 q110
      clear hlt
      have hw1 : wrap64 ((i : Int) + 1) = ((i + 1 : Nat) : Int) := by
        have := HL.out
        have := HLT.out
        unfold wrap64
        omega
      have HW := Aside0.mk hw1
      clear hw1
      go_wp2
      · rename_i hs _
        have hb0 : bad (rd_T105 l0 (i : Int)) = false := by simp [bad, hs]
        go_roundg (l0.length - i)
        case measure => have := HLT.out; have := HK.out; omega
        case rel => exact ⟨i + 1, by rw [HW.out], ⟨by have := HLT.out; omega⟩, ⟨by omega⟩, ⟨by rw [← HF.out, HD.out, firstBad, hb0]; rfl⟩, ⟨by repeat (first | exact HB.out | apply below_alloc | apply pw_below_drewN | apply below_drew1)⟩⟩
      · rename_i hs hgt
        have hb1 : bad (rd_T105 l0 (i : Int)) = true := by simp [bad, hs, hgt]
        have hfb : firstBad l0 0 = (i : Int) := by rw [← HF.out, HD.out, firstBad, hb1]; rfl
        rw [hfb]
        go_ret
        exact ⟨rfl, by repeat (first | exact HB.out | apply below_alloc | apply pw_below_drewN | apply below_drew1)⟩
      · rename_i hs hle
        have hb0 : bad (rd_T105 l0 (i : Int)) = false := by
          have : ¬ (rd_T105 l0 (i : Int)).f3 > (rd_T105 l0 (i : Int)).f2 := by omega
          simp [bad, this]
        go_roundg (l0.length - i)
        case measure => have := HLT.out; have := HK.out; omega
        case rel => exact ⟨i + 1, by rw [HW.out], ⟨by have := HLT.out; omega⟩, ⟨by omega⟩, ⟨by rw [← HF.out, HD.out, firstBad, hb0]; rfl⟩, ⟨by repeat (first | exact HB.out | apply below_alloc | apply pw_below_drewN | apply below_drew1)⟩⟩
      · rename_i hn
        exact absurd HLT.out hn
    · have c2b0 : decide (i < l0.length) = false := decide_eq_false hlt
      have HN := Aside0.mk hlt
      clear hlt
      have hfb : firstBad l0 0 = -1 := by
        rw [← HF.out, List.drop_of_length_le (by have := HN.out; omega)]
        rfl
      go_wp2
      rw [hfb]
      go_ret
      exact ⟨rfl, HB.out⟩

set_option maxRecDepth 100000 in
set_option maxHeartbeats 8000000 in
theorem contains_func (A0 : Option Addr) (c0 : Nat) (l0 : List S105) (w : World) (hr0 : Kd.C k105 w A0 l0.length l0) (hc0 : l0.length ≤ c0) :
    Calls Tryz.prog 51 #[.slice A0 l0.length c0, .func (.func 52) #[] #[]] w fun e w' => e = .returned (.bool (decide (0 ≤ firstBad l0 0))) ∧ Below w.heap.size w w' := by
  have HR0 := Aside0.mk hr0
  have HC0 := Aside0.mk hc0
  clear hr0 hc0
  generalize hn : firstBad l0 0 = n
  have HN := Aside0.mk hn
  clear hn
  go_enter Tryz.func51, Tryz.ntmps51
  go_wp2_with (go_at_call 72; refine (index_func A0 c0 l0 _ HR0.out HC0.out).mono ?_; rintro e w1 ⟨rfl, hb⟩; have HB := Aside0.mk hb; clear hb; rw [HN.out])
  go_ret
  exact ⟨rfl, HB.out⟩

set_option maxRecDepth 100000 in
set_option maxHeartbeats 8000000 in
theorem good (A0 : Option Addr) (c0 : Nat) (l0 : List S105) (w : World) (hr0 : Kd.C k105 w A0 l0.length l0) (hc0 : l0.length ≤ c0) :
    Calls Tryz.prog 22 #[.slice A0 l0.length c0] w fun e w' => e = .returned (.bool (!decide (0 ≤ firstBad l0 0))) ∧ Below w.heap.size w w' := by
  have HR0 := Aside0.mk hr0
  have HC0 := Aside0.mk hc0
  clear hr0 hc0
  generalize hn : decide (0 ≤ firstBad l0 0) = b
  have HN := Aside0.mk hn
  clear hn
  go_enter Tryz.func22, Tryz.ntmps22
  go_wp2_with (go_at_call 51; refine (contains_func A0 c0 l0 _ HR0.out HC0.out).mono ?_; rintro e w1 ⟨rfl, hb⟩; have HB := Aside0.mk hb; clear hb; rw [HN.out])
  go_ret
  exact ⟨rfl, HB.out⟩

end Go.Proofs.YtmeemfdpfdcghaaGreatDoor.GoodW
