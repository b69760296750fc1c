/- The plain law of AuditGood: over lists alone the printed function says true. -/
import Derived.Test.YtmeemfdpfdcghaaGreatDoorPAuditGoodx1
namespace Go.Proofs.YtmeemfdpfdcghaaGreatDoor.PureAg
open Go.RowKit Go.Proofs.YtmeemfdpfdcghaaGreatDoor.PAuditGood Go.Proofs.YtmeemfdpfdcghaaGreatDoorW.PrintWords Go.Proofs.YtmeemfdpfdcghaaGreatDoorW.PrintLast

theorem same_l0 (l : List S105) : ∀ (k : Nat) (i : Int), turncockref32_Good.l0 k l i = audit_Good.l0 k l i := by
  intro k
  induction k with
  | zero => intro i; rfl
  | succ k ih => intro i; simp only [turncockref32_Good.l0, audit_Good.l0, ih]

theorem good_some (l : List S105) (hl : l.length ≤ 9223372036854775807) (d : Nat) : ∀ (k i : Nat), i + d = l.length → d < k → ∃ b, audit_Good.l0 k l (i : Int) = some b := by
  induction d with
  | zero =>
    intro k i h1 h2
    obtain ⟨k, rfl⟩ : ∃ m, k = m + 1 := ⟨k - 1, by omega⟩
    refine ⟨true, ?_⟩
    simp only [audit_Good.l0]
    rw [if_neg (by omega)]
  | succ d ih =>
    intro k i h1 h2
    obtain ⟨k, rfl⟩ : ∃ m, k = m + 1 := ⟨k - 1, by omega⟩
    obtain ⟨b, hb⟩ := ih k (i + 1) (by omega) (by omega)
    have hw : wrap64 ((i : Int) + 1) = ((i + 1 : Nat) : Int) := by unfold wrap64; omega
    simp only [audit_Good.l0]
    rw [if_pos (by omega), if_pos (by omega), hw, hb]
    split
    · exact ⟨b, rfl⟩
    · split
      · exact ⟨false, rfl⟩
      · exact ⟨b, rfl⟩

theorem pure_law (l : List S105) (hl : l.length ≤ 9223372036854775807) : ∃ k, turncocklaw35_AuditGood.f k l = some true := by
  obtain ⟨b, hb⟩ := good_some l hl l.length (l.length + 1) 0 (by omega) (by omega)
  refine ⟨l.length + 1, ?_⟩
  have h1 : audit_Good.f (l.length + 1) l = some b := hb
  have h2 : turncockref32_Good.f (l.length + 1) l = some b := by
    unfold turncockref32_Good.f
    rw [same_l0]
    exact hb
  have h3 : turncocklaw35_awake.f = some true := rfl
  unfold turncocklaw35_AuditGood.f
  simp only [h1, h2, h3, Option.bind_some, beq_self_eq_true, if_true]
  by_cases h : (l.length : Int) > 1000
  · rw [if_pos h]
  · rw [if_neg h, if_pos (by omega)]

end Go.Proofs.YtmeemfdpfdcghaaGreatDoor.PureAg
