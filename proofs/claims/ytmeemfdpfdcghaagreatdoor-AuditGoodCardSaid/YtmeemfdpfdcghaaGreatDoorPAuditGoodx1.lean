-- Printed by a program of this session (wip/pr.py) over the kit's print.py; some functions are told, and proved by the evaluator.
import Derived.Test.YtmeemfdpfdcghaaGreatDoorPAuditGoodx0
import Derived.Test.YtmeemfdpfdcghaaGreatDoorAw35
import Derived.Test.YtmeemfdpfdcghaaGreatDoorGoodW
namespace Go.Proofs.YtmeemfdpfdcghaaGreatDoor.PAuditGood
open Go.RowKit Go.Proofs.YtmeemfdpfdcghaaGreatDoorW.PrintWords Go.Proofs.YtmeemfdpfdcghaaGreatDoorW.PrintLast Go.Proofs.YtmeemfdpfdcghaaGreatDoorW.PrintMore
attribute [local go_sem] max2_int min2_int max_two min_two max_three min_three max_four min_four   -- for this text's walks alone
set_option linter.unusedVariables false
set_option linter.unusedSimpArgs false

/-! ### turncocklaw35_awake: function 21 -/
def turncocklaw35_awake.f  : Option (Bool) := some true
set_option maxHeartbeats 8000000 in
set_option maxRecDepth 100000 in
theorem turncocklaw35_awake.calls  (r : Bool) (w : World) (h : turncocklaw35_awake.f  = some r) :
    Calls Tryz.prog 21 #[] w fun e w' => e = .returned (.bool r) ∧ Below w.heap.size w w' := by
  obtain rfl := Option.some.inj h
  exact Go.Proofs.YtmeemfdpfdcghaaGreatDoor.Aw.awake_calls35 w

/-! ### audit_Good: function 22 -/
def audit_Good.l0 : Nat → List (S105) → Int → Option (Bool)
  | 0, _, _ => none
  | k + 1, x0, x3 => if x3 < (x0.length : Int) then (if 0 ≤ x3 then (if ((rd_T105 x0 x3).f4 = true) then (audit_Good.l0 k x0 (wrap64 (x3 + 1))) else (if ((rd_T105 x0 x3).f3) > ((rd_T105 x0 x3).f2) then (some false) else (audit_Good.l0 k x0 (wrap64 (x3 + 1))))) else (none)) else (some true)
def audit_Good.f (k : Nat) (l0 : List (S105)) : Option (Bool) := audit_Good.l0 k l0 0
theorem audit_Good.mono_l : ∀ k, (∀ y0 y1, LeO (audit_Good.l0 k y0 y1) (audit_Good.l0 (k + 1) y0 y1))
  | 0 => fun _ _ r h => by simp [audit_Good.l0] at h
  | k + 1 => by
    have ih0 := audit_Good.mono_l k
    · intro y0 y1
      unfold audit_Good.l0
      repeat' first
      | (with_reducible exact ih0 _ _)
      | (with_reducible exact LeO.refl _)
      | (with_reducible exact LeO.none _)
      | (with_reducible refine LeO.ite ?_ ?_)
      | (with_reducible refine LeO.bind ?_ (fun _ => ?_))
      | exact ih0 _ _
      | exact LeO.none _
      | refine LeO.ite ?_ ?_
      | refine LeO.bind ?_ (fun _ => ?_)
theorem audit_Good.mono : ∀ a0 k, LeO (audit_Good.f k a0) (audit_Good.f (k + 1) a0) := by
  intro a0 k
  have ih0 := audit_Good.mono_l k
  unfold audit_Good.f
  repeat' first
      | (with_reducible exact ih0 _ _)
      | (with_reducible exact LeO.refl _)
      | (with_reducible exact LeO.none _)
      | (with_reducible refine LeO.ite ?_ ?_)
      | (with_reducible refine LeO.bind ?_ (fun _ => ?_))
      | exact ih0 _ _
      | exact LeO.none _
      | refine LeO.ite ?_ ?_
      | refine LeO.bind ?_ (fun _ => ?_)
theorem audit_Good.l0_eq (l : List S105) (hl : l.length ≤ 9223372036854775807) : ∀ (k i : Nat) (r : Bool), i ≤ l.length → audit_Good.l0 k l (i : Int) = some r → r = !decide (0 ≤ GoodW.firstBad (l.drop i) i) := by
  intro k
  induction k with
  | zero => intro i r _ h; cases h
  | succ k ih =>
    intro i r hi h
    simp only [audit_Good.l0] at h
    by_cases hlt : i < l.length
    · have hw : wrap64 ((i : Int) + 1) = ((i + 1 : Nat) : Int) := by unfold wrap64; omega
      rw [if_pos (by omega), if_pos (by omega), hw] at h
      rw [GoodW.drop_rd hlt, GoodW.firstBad]
      by_cases h4 : (rd_T105 l (i : Int)).f4 = true
      · rw [if_pos h4] at h
        have hb : GoodW.bad (rd_T105 l (i : Int)) = false := by simp [GoodW.bad, h4]
        rw [hb]
        exact ih (i + 1) r (by omega) h
      · rw [if_neg h4] at h
        by_cases h3 : (rd_T105 l (i : Int)).f3 > (rd_T105 l (i : Int)).f2
        · rw [if_pos h3] at h
          cases h
          have hb : GoodW.bad (rd_T105 l (i : Int)) = true := by simp [GoodW.bad, h4]; omega
          rw [hb]
          simp
        · rw [if_neg h3] at h
          have hb : GoodW.bad (rd_T105 l (i : Int)) = false := by simp [GoodW.bad]; omega
          rw [hb]
          exact ih (i + 1) r (by omega) h
    · rw [if_neg (by omega)] at h
      cases h
      rw [List.drop_of_length_le (by omega)]
      rfl

set_option maxHeartbeats 8000000 in
set_option maxRecDepth 100000 in
theorem audit_Good.calls (k : Nat) (A0 : Option Addr) (c0 : Nat) (l0 : List (S105)) (r : Bool) (w : World) (hr0 : Kd.C k105 w A0 l0.length l0) (hc0 : l0.length ≤ c0) (h : audit_Good.f k l0 = some r) :
    Calls Tryz.prog 22 #[.slice A0 l0.length c0] w fun e w' => e = .returned (.bool r) ∧ Below w.heap.size w w' := by
  have e := audit_Good.l0_eq l0 hr0.2.1 k 0 r (Nat.zero_le _) h
  rw [List.drop_zero] at e
  rw [e]
  exact GoodW.good A0 c0 l0 w hr0 hc0

/-! ### turncockref32_Good: function 23 -/
def turncockref32_Good.l0 : Nat → List (S105) → Int → Option (Bool)
  | 0, _, _ => none
  | k + 1, x0, x3 => if x3 < (x0.length : Int) then (if 0 ≤ x3 then (if ((rd_T105 x0 x3).f4 = true) then (turncockref32_Good.l0 k x0 (wrap64 (x3 + 1))) else (if ((rd_T105 x0 x3).f3) > ((rd_T105 x0 x3).f2) then (some false) else (turncockref32_Good.l0 k x0 (wrap64 (x3 + 1))))) else (none)) else (some true)
def turncockref32_Good.f (k : Nat) (l0 : List (S105)) : Option (Bool) := turncockref32_Good.l0 k l0 0
theorem turncockref32_Good.mono_l : ∀ k, (∀ y0 y1, LeO (turncockref32_Good.l0 k y0 y1) (turncockref32_Good.l0 (k + 1) y0 y1))
  | 0 => fun _ _ r h => by simp [turncockref32_Good.l0] at h
  | k + 1 => by
    have ih0 := turncockref32_Good.mono_l k
    · intro y0 y1
      unfold turncockref32_Good.l0
      repeat' first
      | (with_reducible exact ih0 _ _)
      | (with_reducible exact LeO.refl _)
      | (with_reducible exact LeO.none _)
      | (with_reducible refine LeO.ite ?_ ?_)
      | (with_reducible refine LeO.bind ?_ (fun _ => ?_))
      | exact ih0 _ _
      | exact LeO.none _
      | refine LeO.ite ?_ ?_
      | refine LeO.bind ?_ (fun _ => ?_)
theorem turncockref32_Good.mono : ∀ a0 k, LeO (turncockref32_Good.f k a0) (turncockref32_Good.f (k + 1) a0) := by
  intro a0 k
  have ih0 := turncockref32_Good.mono_l k
  unfold turncockref32_Good.f
  repeat' first
      | (with_reducible exact ih0 _ _)
      | (with_reducible exact LeO.refl _)
      | (with_reducible exact LeO.none _)
      | (with_reducible refine LeO.ite ?_ ?_)
      | (with_reducible refine LeO.bind ?_ (fun _ => ?_))
      | exact ih0 _ _
      | exact LeO.none _
      | refine LeO.ite ?_ ?_
      | refine LeO.bind ?_ (fun _ => ?_)
set_option maxHeartbeats 8000000 in
set_option maxRecDepth 100000 in
theorem turncockref32_Good.calls (k : Nat) (A0 : Option Addr) (c0 : Nat) (l0 : List (S105)) (r : Bool) (w : World) (hr0 : Kd.C k105 w A0 l0.length l0) (hc0 : l0.length ≤ c0) (h : turncockref32_Good.f k l0 = some r) :
    Calls Tryz.prog 23 #[.slice A0 l0.length c0] w fun e w' => e = .returned (.bool r) ∧ Drawn0 w w' := by
  have HR0 := Aside0.mk hr0
  have HC0 := Aside0.mk hc0
  clear hr0 hc0
  have H : (turncockref32_Good.l0 k l0 0) = some r := h
  clear h
  have H' := Aside0.mk H
  clear H
  go_enter Tryz.func23, Tryz.ntmps23
  go_wp2
  repeat (go_quiet (fail); try go_wp2)
  go_loopg [3] k (fun kq v3 w' => ∃ (x3_1 : Int), v3 = .int .i64 x3_1 ∧ Aside0 (turncockref32_Good.l0 kq l0 x3_1 = some r) ∧ Aside0 (kq ≤ k) ∧ Drawn0 w w')
  case atStart => exact ⟨(0), (by first | rfl | (simp; done) | (simp [*]; done)), H', ⟨Nat.le_refl _⟩, by repeat (first | exact Drawn0.refl _ | apply Drawn0.step)⟩
  case round =>
    clear H'
    obtain ⟨x3_1, rfl, HA, HK1, ⟨m1, rfl⟩⟩ := hrel
    cases gk with
    | zero => exact absurd HA.out (by simp [turncockref32_Good.l0])
    | succ k1 =>
      have H := HA.out
      clear HA
      simp only [turncockref32_Good.l0] at H
      by_cases c2 : x3_1 < (l0.length : Int)
      · rw [if_pos c2] at H
        have c2b0 : decide (x3_1 < (l0.length : Int)) = true := decide_eq_true c2
        clear c2
        by_cases c3 : 0 ≤ x3_1
        · rw [if_pos c3] at H
          have c3b0 : decide (0 ≤ x3_1) = true := decide_eq_true c3
          clear c3
          obtain ⟨bq4, hbq4⟩ : ∃ b_ : Bool, b_ = ((rd_T105 l0 x3_1).f4) := ⟨_, rfl⟩
          replace H : (if (bq4 = true) then (turncockref32_Good.l0 k1 l0 (wrap64 (x3_1 + 1))) else (if ((rd_T105 l0 x3_1).f3) > ((rd_T105 l0 x3_1).f2) then (some false) else (turncockref32_Good.l0 k1 l0 (wrap64 (x3_1 + 1))))) = some r := by rw [← hbq4] at H; exact H
          have Nbq4 := Aside0.mk hbq4
          clear hbq4
          by_cases c5 : (bq4 = true)
          · subst c5
            have H1 : (turncockref32_Good.l0 k1 l0 (wrap64 (x3_1 + 1))) = some r := by rw [if_pos rfl] at H; exact H
            clear H
            have H := H1
            clear H1
            have H' := Aside0.mk H
            clear H
            have p110 : 0 ≤ (x3_1 : Int) := of_decide_eq_true (by first | (with_reducible assumption) | assumption)
            have q110 : x3_1 < (l0.length : Int) := of_decide_eq_true (by first | (with_reducible assumption) | assumption)
            obtain ⟨ad110, e110, hx110_0, hx110_1, hx110_2, hx110_3, hx110_4⟩ := at_T105 HR0.out x3_1 p110 q110
            (try rw [← Nbq4.out] at hx110_4)
            cases e110
            replace p110 := eq_true p110
            replace q110 := eq_true q110
            go_wp2
            repeat (go_quiet (fail); try go_wp2)
            go_roundg k1
            case measure => have := HK1.out; omega
            case rel => exact ⟨(wrap64 (x3_1 + 1)), (by first | rfl | (simp; done) | (simp [*]; done)), H', ⟨by have := HK1.out; omega⟩, by repeat (first | exact Drawn0.refl _ | apply Drawn0.step)⟩
          · replace c5 := Bool.eq_false_iff.mpr c5
            subst c5
            have H1 : (if ((rd_T105 l0 x3_1).f3) > ((rd_T105 l0 x3_1).f2) then (some false) else (turncockref32_Good.l0 k1 l0 (wrap64 (x3_1 + 1)))) = some r := by rw [if_neg (show ¬ (false = true) by decide)] at H; exact H
            clear H
            have H := H1
            clear H1
            by_cases c6 : ((rd_T105 l0 x3_1).f3) > ((rd_T105 l0 x3_1).f2)
            · rw [if_pos c6] at H
              have c6b0 : decide (((rd_T105 l0 x3_1).f2) < ((rd_T105 l0 x3_1).f3)) = true := decide_eq_true c6
              clear c6
              obtain rfl := Option.some.inj H
              have p110 : 0 ≤ (x3_1 : Int) := of_decide_eq_true (by first | (with_reducible assumption) | assumption)
              have q110 : x3_1 < (l0.length : Int) := of_decide_eq_true (by first | (with_reducible assumption) | assumption)
              obtain ⟨ad110, e110, hx110_0, hx110_1, hx110_2, hx110_3, hx110_4⟩ := at_T105 HR0.out x3_1 p110 q110
              (try rw [← Nbq4.out] at hx110_4)
              cases e110
              replace p110 := eq_true p110
              replace q110 := eq_true q110
              have p111 : 0 ≤ (x3_1 : Int) := of_decide_eq_true (by first | (with_reducible assumption) | assumption)
              have q111 : x3_1 < (l0.length : Int) := of_decide_eq_true (by first | (with_reducible assumption) | assumption)
              obtain ⟨ad111, e111, hx111_0, hx111_1, hx111_2, hx111_3, hx111_4⟩ := at_T105 HR0.out x3_1 p111 q111
              (try rw [← Nbq4.out] at hx111_4)
              obtain rfl : ad110 = ad111 := (by injection e111)
              replace p111 := eq_true p111
              replace q111 := eq_true q111
              have p112 : 0 ≤ (x3_1 : Int) := of_decide_eq_true (by first | (with_reducible assumption) | assumption)
              have q112 : x3_1 < (l0.length : Int) := of_decide_eq_true (by first | (with_reducible assumption) | assumption)
              obtain ⟨ad112, e112, hx112_0, hx112_1, hx112_2, hx112_3, hx112_4⟩ := at_T105 HR0.out x3_1 p112 q112
              (try rw [← Nbq4.out] at hx112_4)
              obtain rfl : ad110 = ad112 := (by injection e112)
              replace p112 := eq_true p112
              replace q112 := eq_true q112
              go_wp2
              repeat (go_quiet (fail); try go_wp2)
              go_ret
              exact ⟨by first | rfl | (simp; done) | (simp [*]; done), by repeat (first | exact Drawn0.refl _ | apply Drawn0.step)⟩
            · rw [if_neg c6] at H
              have c6b0 : decide (((rd_T105 l0 x3_1).f2) < ((rd_T105 l0 x3_1).f3)) = false := decide_eq_false c6
              clear c6
              have H' := Aside0.mk H
              clear H
              have p110 : 0 ≤ (x3_1 : Int) := of_decide_eq_true (by first | (with_reducible assumption) | assumption)
              have q110 : x3_1 < (l0.length : Int) := of_decide_eq_true (by first | (with_reducible assumption) | assumption)
              obtain ⟨ad110, e110, hx110_0, hx110_1, hx110_2, hx110_3, hx110_4⟩ := at_T105 HR0.out x3_1 p110 q110
              (try rw [← Nbq4.out] at hx110_4)
              cases e110
              replace p110 := eq_true p110
              replace q110 := eq_true q110
              have p111 : 0 ≤ (x3_1 : Int) := of_decide_eq_true (by first | (with_reducible assumption) | assumption)
              have q111 : x3_1 < (l0.length : Int) := of_decide_eq_true (by first | (with_reducible assumption) | assumption)
              obtain ⟨ad111, e111, hx111_0, hx111_1, hx111_2, hx111_3, hx111_4⟩ := at_T105 HR0.out x3_1 p111 q111
              (try rw [← Nbq4.out] at hx111_4)
              obtain rfl : ad110 = ad111 := (by injection e111)
              replace p111 := eq_true p111
              replace q111 := eq_true q111
              have p112 : 0 ≤ (x3_1 : Int) := of_decide_eq_true (by first | (with_reducible assumption) | assumption)
              have q112 : x3_1 < (l0.length : Int) := of_decide_eq_true (by first | (with_reducible assumption) | assumption)
              obtain ⟨ad112, e112, hx112_0, hx112_1, hx112_2, hx112_3, hx112_4⟩ := at_T105 HR0.out x3_1 p112 q112
              (try rw [← Nbq4.out] at hx112_4)
              obtain rfl : ad110 = ad112 := (by injection e112)
              replace p112 := eq_true p112
              replace q112 := eq_true q112
              go_wp2
              repeat (go_quiet (fail); try go_wp2)
              go_roundg k1
              case measure => have := HK1.out; omega
              case rel => exact ⟨(wrap64 (x3_1 + 1)), (by first | rfl | (simp; done) | (simp [*]; done)), H', ⟨by have := HK1.out; omega⟩, by repeat (first | exact Drawn0.refl _ | apply Drawn0.step)⟩
        · rw [if_neg c3] at H
          exact absurd H (by simp)
      · rw [if_neg c2] at H
        have c2b0 : decide (x3_1 < (l0.length : Int)) = false := decide_eq_false c2
        clear c2
        obtain rfl := Option.some.inj H
        go_wp2
        repeat (go_quiet (fail); try go_wp2)
        go_ret
        exact ⟨by first | rfl | (simp; done) | (simp [*]; done), by repeat (first | exact Drawn0.refl _ | apply Drawn0.step)⟩

/-! ### turncocklaw35_AuditGood: function 6 -/
def turncocklaw35_AuditGood.f (k : Nat) (l0 : List (S105)) : Option (Bool) := if (l0.length : Int) > 1000 then ((turncocklaw35_awake.f).bind fun t113 => (if t113 = true then (some true) else (if (l0.length : Int) ≤ 1000 then ((audit_Good.f k l0).bind fun t114 => ((turncockref32_Good.f k l0).bind fun t115 => (if (t114 == t115) = true then ((turncocklaw35_awake.f).bind fun t116 => (some t116)) else (some false)))) else (some false)))) else (if (l0.length : Int) ≤ 1000 then ((audit_Good.f k l0).bind fun t117 => ((turncockref32_Good.f k l0).bind fun t118 => (if (t117 == t118) = true then ((turncocklaw35_awake.f).bind fun t119 => (some t119)) else (some false)))) else (some false))
theorem turncocklaw35_AuditGood.mono : ∀ a0 k, LeO (turncocklaw35_AuditGood.f k a0) (turncocklaw35_AuditGood.f (k + 1) a0) := by
  intro a0 k
  unfold turncocklaw35_AuditGood.f
  repeat' first
      | (with_reducible exact audit_Good.mono _ _)
      | (with_reducible exact turncockref32_Good.mono _ _)
      | (with_reducible exact LeO.refl _)
      | (with_reducible exact LeO.none _)
      | (with_reducible refine LeO.ite ?_ ?_)
      | (with_reducible refine LeO.bind ?_ (fun _ => ?_))
      | exact audit_Good.mono _ _
      | exact turncockref32_Good.mono _ _
      | exact LeO.none _
      | refine LeO.ite ?_ ?_
      | refine LeO.bind ?_ (fun _ => ?_)
set_option maxHeartbeats 8000000 in
set_option maxRecDepth 100000 in
theorem turncocklaw35_AuditGood.calls (k : Nat) (A0 : Option Addr) (c0 : Nat) (l0 : List (S105)) (r : Bool) (w : World) (hr0 : Kd.C k105 w A0 l0.length l0) (hc0 : l0.length ≤ c0) (h : turncocklaw35_AuditGood.f k l0 = some r) :
    Calls Tryz.prog 6 #[.slice A0 l0.length c0] w fun e w' => e = .returned (.bool r) ∧ Below w.heap.size w w' := by
  have HR0 := Aside0.mk hr0
  have HC0 := Aside0.mk hc0
  clear hr0 hc0
  have HB := Aside0.mk (Below.refl w.heap.size w)
  have H : (if (l0.length : Int) > 1000 then ((turncocklaw35_awake.f).bind fun t113 => (if t113 = true then (some true) else (if (l0.length : Int) ≤ 1000 then ((audit_Good.f k l0).bind fun t114 => ((turncockref32_Good.f k l0).bind fun t115 => (if (t114 == t115) = true then ((turncocklaw35_awake.f).bind fun t116 => (some t116)) else (some false)))) else (some false)))) else (if (l0.length : Int) ≤ 1000 then ((audit_Good.f k l0).bind fun t117 => ((turncockref32_Good.f k l0).bind fun t118 => (if (t117 == t118) = true then ((turncocklaw35_awake.f).bind fun t119 => (some t119)) else (some false)))) else (some false))) = some r := h
  clear h
  by_cases c2 : (l0.length : Int) > 1000
  · rw [if_pos c2] at H
    have c2b0 : decide (1000 < (l0.length : Int)) = true := decide_eq_true c2
    have c2b1 : decide (1000 < l0.length) = true := decide_eq_true (by omega)
    clear c2
    replace H := Option.bind_eq_some_iff.mp H
    obtain ⟨t113, A30, H⟩ := H
    replace H : (if t113 = true then (some true) else (if (l0.length : Int) ≤ 1000 then ((audit_Good.f k l0).bind fun t114 => ((turncockref32_Good.f k l0).bind fun t115 => (if (t114 == t115) = true then ((turncocklaw35_awake.f).bind fun t116 => (some t116)) else (some false)))) else (some false))) = some r := H
    have A3 := Aside0.mk A30
    clear A30
    by_cases c4 : t113 = true
    · subst c4
      have H1 : (some true) = some r := by rw [if_pos rfl] at H; exact H
      clear H
      have H := H1
      clear H1
      obtain rfl := Option.some.inj H
      go_enter Tryz.func6, Tryz.ntmps6
      go_wp2_with (first | (go_at_call 21; (with_reducible refine (turncocklaw35_awake.calls  true _ A3.out).mono ?_); rintro e w5 ⟨rfl, hb⟩; have n0_ := Aside0.mk (below_step (by repeat (first | (with_reducible first | exact HB.out | apply below_alloc | apply pw_below_drewN | apply below_drew1) | exact HB.out)) hb); clear HB; have HB := n0_; clear n0_; (try clear hb); (try clear hb2); (try clear hk); (try clear hi)))
      go_ret
      exact ⟨by first | rfl | (simp [errW_none, errW_some] <;> rfl) | (simp [*, errW_none, errW_some] <;> rfl), by repeat (first | (with_reducible first | exact HB.out | apply below_alloc | apply pw_below_drewN | apply below_drew1) | exact HB.out)⟩
    · replace c4 := Bool.eq_false_iff.mpr c4
      subst c4
      exact absurd A3.out (by simp [turncocklaw35_awake.f])
  · rw [if_neg c2] at H
    have c2b0 : decide (1000 < (l0.length : Int)) = false := decide_eq_false c2
    have c2b1 : decide (1000 < l0.length) = false := decide_eq_false (by omega)
    clear c2
    by_cases c17 : (l0.length : Int) ≤ 1000
    · rw [if_pos c17] at H
      have c17b0 : decide ((l0.length : Int) ≤ 1000) = true := decide_eq_true c17
      have c17b1 : decide (l0.length ≤ 1000) = true := decide_eq_true (by omega)
      clear c17
      replace H := Option.bind_eq_some_iff.mp H
      obtain ⟨t117, A180, H⟩ := H
      replace H : ((turncockref32_Good.f k l0).bind fun t118 => (if (t117 == t118) = true then ((turncocklaw35_awake.f).bind fun t119 => (some t119)) else (some false))) = some r := H
      have A18 := Aside0.mk A180
      clear A180
      replace H := Option.bind_eq_some_iff.mp H
      obtain ⟨t118, A190, H⟩ := H
      replace H : (if (t117 == t118) = true then ((turncocklaw35_awake.f).bind fun t119 => (some t119)) else (some false)) = some r := H
      have A19 := Aside0.mk A190
      clear A190
      by_cases c20 : (t117 == t118) = true
      · rw [if_pos c20] at H
        have c20b0 : (t117 == t118) = true := c20
        (try (have c20b1 : decide (t117 = t118) = true := by simpa using c20))
        (try (have c20b2 : (t117 == t118) = true := by simpa using c20))
        clear c20
        replace H := Option.bind_eq_some_iff.mp H
        obtain ⟨t119, A210, H⟩ := H
        replace H : (some t119) = some r := H
        have A21 := Aside0.mk A210
        clear A210
        obtain rfl := Option.some.inj H
        go_enter Tryz.func6, Tryz.ntmps6
        go_wp2_with (first | (go_at_call 22; (with_reducible refine (audit_Good.calls k _ _ l0 t117 _ ?side1 ?side2 A18.out).mono ?_); (case side1 => repeat (first | exact HR0.out | (with_reducible refine Kd.C_alloc ?_ _) | (with_reducible refine Kd.C_drewN ?_ _) | (with_reducible refine Kd.C_drew ?_))); (case side2 => exact HC0.out); rintro e w22 ⟨rfl, hb⟩; have n0_ := Aside0.mk (below_step (by repeat (first | (with_reducible first | exact HB.out | apply below_alloc | apply pw_below_drewN | apply below_drew1) | exact HB.out)) hb); clear HB; have HB := n0_; clear n0_; (try clear hb); (try clear hb2); (try clear hk); (try clear hi)) | (go_at_call 23; (with_reducible refine (turncockref32_Good.calls k _ _ l0 t118 _ ?side1 ?side2 A19.out).mono ?_); (case side1 => repeat (first | exact (Kd.C_below HR0.out HB.out) | (with_reducible refine Kd.C_alloc ?_ _) | (with_reducible refine Kd.C_drewN ?_ _) | (with_reducible refine Kd.C_drew ?_))); (case side2 => exact HC0.out); rintro e w' ⟨rfl, ⟨nd, rfl⟩⟩) | (go_at_call 21; (with_reducible refine (turncocklaw35_awake.calls  t119 _ A21.out).mono ?_); rintro e w23 ⟨rfl, hb⟩; have n0_ := Aside0.mk (below_step (by repeat (first | (with_reducible first | exact HB.out | apply below_alloc | apply pw_below_drewN | apply below_drew1) | exact HB.out)) hb); clear HB; have HB := n0_; clear n0_; (try clear hb); (try clear hb2); (try clear hk); (try clear hi)))
        go_ret
        exact ⟨by first | rfl | (simp [errW_none, errW_some] <;> rfl) | (simp [*, errW_none, errW_some] <;> rfl), by repeat (first | (with_reducible first | exact HB.out | apply below_alloc | apply pw_below_drewN | apply below_drew1) | exact HB.out)⟩
      · rw [if_neg c20] at H
        have c20b0 : (t117 == t118) = false := by simpa using c20
        (try (have c20b1 : decide (t117 = t118) = false := by simpa using c20))
        (try (have c20b2 : (t117 == t118) = false := by simpa using c20))
        (try (have c20b3 : ¬ (t117 = t118) := by simpa using c20))
        clear c20
        obtain rfl := Option.some.inj H
        go_enter Tryz.func6, Tryz.ntmps6
        go_wp2_with (first | (go_at_call 22; (with_reducible refine (audit_Good.calls k _ _ l0 t117 _ ?side1 ?side2 A18.out).mono ?_); (case side1 => repeat (first | exact HR0.out | (with_reducible refine Kd.C_alloc ?_ _) | (with_reducible refine Kd.C_drewN ?_ _) | (with_reducible refine Kd.C_drew ?_))); (case side2 => exact HC0.out); rintro e w24 ⟨rfl, hb⟩; have n0_ := Aside0.mk (below_step (by repeat (first | (with_reducible first | exact HB.out | apply below_alloc | apply pw_below_drewN | apply below_drew1) | exact HB.out)) hb); clear HB; have HB := n0_; clear n0_; (try clear hb); (try clear hb2); (try clear hk); (try clear hi)) | (go_at_call 23; (with_reducible refine (turncockref32_Good.calls k _ _ l0 t118 _ ?side1 ?side2 A19.out).mono ?_); (case side1 => repeat (first | exact (Kd.C_below HR0.out HB.out) | (with_reducible refine Kd.C_alloc ?_ _) | (with_reducible refine Kd.C_drewN ?_ _) | (with_reducible refine Kd.C_drew ?_))); (case side2 => exact HC0.out); rintro e w' ⟨rfl, ⟨nd, rfl⟩⟩))
        go_ret
        exact ⟨by first | rfl | (simp [errW_none, errW_some] <;> rfl) | (simp [*, errW_none, errW_some] <;> rfl), by repeat (first | (with_reducible first | exact HB.out | apply below_alloc | apply pw_below_drewN | apply below_drew1) | exact HB.out)⟩
    · rw [if_neg c17] at H
      have c17b0 : decide ((l0.length : Int) ≤ 1000) = false := decide_eq_false c17
      have c17b1 : decide (l0.length ≤ 1000) = false := decide_eq_false (by omega)
      clear c17
      obtain rfl := Option.some.inj H
      go_enter Tryz.func6, Tryz.ntmps6
      go_wp2
      go_ret
      exact ⟨by first | rfl | (simp [errW_none, errW_some] <;> rfl) | (simp [*, errW_none, errW_some] <;> rfl), by repeat (first | (with_reducible first | exact HB.out | apply below_alloc | apply pw_below_drewN | apply below_drew1) | exact HB.out)⟩

end Go.Proofs.YtmeemfdpfdcghaaGreatDoor.PAuditGood
