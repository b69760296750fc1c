/- The plain law of ScriptStreams: over lists alone the printed function says true. -/
import Derived.Test.YtbnnikpgopjieaaGreatDoorPScriptStreamsx1
namespace Go.Proofs.YtbnnikpgopjieaaGreatDoor.PureSs
open Go.RowKit Go.Proofs.YtbnnikpgopjieaaGreatDoor.PScriptStreams Go.Proofs.YtbnnikpgopjieaaGreatDoorW.PrintWords Go.Proofs.YtbnnikpgopjieaaGreatDoorW.PrintLast

/-- All bytes for one connection. -/
def dat (l : List S25) (a : Int) : List Int := l.flatMap fun x => if x.f0 = a then x.f1 else []
/-- How many bytes in all. -/
def tot : List S25 → Nat
  | [] => 0
  | x :: r => x.f1.length + tot r

theorem wrap_succ {i : Int} (h0 : 0 ≤ i) (h : i < 9223372036854775807) : wrap64 (i + 1) = i + 1 := by unfold wrap64; omega

theorem drop_rd {l : List S25} {i : Nat} (h : i < l.length) : l.drop i = rd_T25 l (i : Int) :: l.drop (i + 1) := by
  rw [List.drop_eq_getElem_cons h]
  congr 1
  simp [rd_T25, List.getD_eq_getElem?_getD, List.getElem?_eq_getElem h]

theorem stream_l0 (l : List S25) (a : Int) (hl : l.length ≤ 9223372036854775807) (d : Nat) : ∀ (k i : Nat) (acc : List Int), i + d = l.length → d < k → acc.length + tot (l.drop i) < 140737488355328 →
    script_Stream.l0 k a acc l (l.length : Int) (i : Int) = some (acc ++ dat (l.drop i) a) := by
  induction d with
  | zero =>
    intro k i acc h1 h2 h3
    obtain ⟨k, rfl⟩ : ∃ m, k = m + 1 := ⟨k - 1, by omega⟩
    simp only [script_Stream.l0]
    rw [if_neg (by omega), List.drop_of_length_le (by omega)]
    simp [dat]
  | succ d ih =>
    intro k i acc h1 h2 h3
    obtain ⟨k, rfl⟩ : ∃ m, k = m + 1 := ⟨k - 1, by omega⟩
    have hi : i < l.length := by omega
    have hd := drop_rd hi
    rw [hd] at h3 ⊢
    simp only [tot] at h3
    simp only [script_Stream.l0]
    rw [if_pos (by omega), if_pos (by omega), if_pos (by omega), wrap_succ (by omega) (by omega)]
    have hcast : ((i : Int) + 1) = ((i + 1 : Nat) : Int) := by omega
    by_cases hc : (rd_T25 l (i : Int)).f0 = a
    · rw [if_pos hc, if_pos (by omega), hcast, ih k (i + 1) _ (by omega) (by omega) (by rw [List.length_append]; omega)]
      simp [dat, hc]
    · rw [if_neg hc, hcast, ih k (i + 1) _ (by omega) (by omega) (by omega)]
      simp [dat, hc]

theorem refstream_l0 (l : List S25) (a : Int) (hl : l.length ≤ 9223372036854775807) (d : Nat) : ∀ (k i : Nat) (acc : List Int), i + d = l.length → d < k → acc.length + tot (l.drop i) < 140737488355328 →
    turncockref32_Stream.l0 k l a acc (i : Int) = some (acc ++ dat (l.drop i) a) := by
  induction d with
  | zero =>
    intro k i acc h1 h2 h3
    obtain ⟨k, rfl⟩ : ∃ m, k = m + 1 := ⟨k - 1, by omega⟩
    simp only [turncockref32_Stream.l0]
    rw [if_neg (by omega), List.drop_of_length_le (by omega)]
    simp [dat]
  | succ d ih =>
    intro k i acc h1 h2 h3
    obtain ⟨k, rfl⟩ : ∃ m, k = m + 1 := ⟨k - 1, by omega⟩
    have hi : i < l.length := by omega
    have hd := drop_rd hi
    rw [hd] at h3 ⊢
    simp only [tot] at h3
    simp only [turncockref32_Stream.l0]
    have hcast : ((i : Int) + 1) = ((i + 1 : Nat) : Int) := by omega
    by_cases hc : (rd_T25 l (i : Int)).f0 = a
    · have := ih k (i + 1) (acc ++ (rd_T25 l (i : Int)).f1) (by omega) (by omega) (by rw [List.length_append]; omega)
      rw [← hcast] at this
      simp only [if_pos (show (i : Int) < (l.length : Int) by omega), if_pos (show (0 : Int) ≤ (i : Int) by omega), if_pos hc, wrap_succ (show (0 : Int) ≤ (i : Int) by omega) (show (i : Int) < 9223372036854775807 by omega), this,
        if_pos (show acc.length + (rd_T25 l (i : Int)).f1.length < 140737488355328 by omega)]
      simp [dat, hc]
    · have := ih k (i + 1) acc (by omega) (by omega) (by omega)
      rw [← hcast] at this
      simp only [if_pos (show (i : Int) < (l.length : Int) by omega), if_pos (show (0 : Int) ≤ (i : Int) by omega), if_neg hc, wrap_succ (show (0 : Int) ≤ (i : Int) by omega) (show (i : Int) < 9223372036854775807 by omega), this]
      simp [dat, hc]

theorem awake_true : turncocklaw34_awake.f = some true := rfl

theorem j1_true (l : List S25) (a : Int) (hl : l.length ≤ 9223372036854775807) (k : Nat) (x : Int) (hk : l.length < k) (h : x ≤ 5000 → tot l < 140737488355328) : turncocklaw34_ScriptStreams.j1 (k + 1) l a x = some true := by
  simp only [turncocklaw34_ScriptStreams.j1, awake_true, Option.bind_some, if_true]
  by_cases hx : x > 5000
  · rw [if_pos hx]
  · rw [if_neg hx, if_pos (by omega)]
    have h1 := stream_l0 l a hl l.length k 0 [] (by omega) hk (by simpa using h (by omega))
    have h2 := refstream_l0 l a hl l.length k 0 [] (by omega) hk (by simpa using h (by omega))
    simp only [script_Stream.f, turncockref32_Stream.f]
    simp only [List.drop_zero, List.nil_append, Int.ofNat_zero] at h1 h2
    rw [h1, h2]
    simp only [Option.bind_some, turncockref1_Bytes.f]
    simp

theorem law_l0 (l : List S25) (a : Int) (hl : l.length ≤ 9223372036854775807) (d : Nat) : ∀ (k i : Nat) (x : Int), i + d = l.length → d + l.length + 2 < k → 0 ≤ x → (i < l.length → x ≤ 9223372036854775807) → (x ≤ 5000 → (tot (l.take i) : Int) ≤ x) →
    turncocklaw34_ScriptStreams.l0 k l a x (i : Int) = some true := by
  induction d with
  | zero =>
    intro k i x h1 h2 h3 h4 h5
    obtain ⟨k, rfl⟩ : ∃ m, k = m + 2 := ⟨k - 2, by omega⟩
    simp only [turncocklaw34_ScriptStreams.l0]
    rw [if_neg (by omega)]
    refine j1_true l a hl k x (by omega) fun hx => ?_
    have := h5 hx
    rw [List.take_of_length_le (by omega)] at this
    omega
  | succ d ih =>
    intro k i x h1 h2 h3 h4 h5
    obtain ⟨k, rfl⟩ : ∃ m, k = m + 2 := ⟨k - 2, by omega⟩
    simp only [turncocklaw34_ScriptStreams.l0]
    rw [if_pos (by omega)]
    by_cases hx : x ≤ 5000
    · rw [if_pos hx, if_pos (by omega)]
      have hi : i < l.length := by omega
      have hm : mn ((rd_T25 l (i : Int)).f1.length : Int) 5001 = if 5001 < ((rd_T25 l (i : Int)).f1.length : Int) then 5001 else ((rd_T25 l (i : Int)).f1.length : Int) := rfl
      have hcast : ((i : Int) + 1) = ((i + 1 : Nat) : Int) := by omega
      have htake : tot (l.take (i + 1)) = tot (l.take i) + (rd_T25 l (i : Int)).f1.length := by
        have tot_app : ∀ (p q : List S25), tot (p ++ q) = tot p + tot q := by
          intro p q
          induction p with
          | nil => simp [tot]
          | cons y r ihr => simp only [List.cons_append, tot, ihr]; omega
        rw [List.take_succ_eq_append_getElem hi, tot_app]
        simp [tot, rd_T25, List.getD_eq_getElem?_getD, List.getElem?_eq_getElem hi]
      have hw : wrap64 (x + mn ((rd_T25 l (i : Int)).f1.length : Int) 5001) = x + mn ((rd_T25 l (i : Int)).f1.length : Int) 5001 := by
        unfold wrap64
        rw [hm]
        split <;> omega
      rw [wrap_succ (by omega) (by omega), hcast, hw]
      have h5' := h5 hx
      refine ih (k + 1) (i + 1) _ (by omega) (by omega) ?_ ?_ ?_
      · rw [hm]; split <;> omega
      · intro _; rw [hm]; split <;> omega
      · intro hle
        rw [hm] at hle ⊢
        rw [htake]
        split at hle
        · omega
        · rename_i hn
          rw [if_neg hn]
          omega
    · rw [if_neg hx]
      exact j1_true l a hl k x (by omega) fun h => absurd h hx

theorem pure_law (l : List S25) (a : Int) (hl : l.length ≤ 9223372036854775807) : ∃ k, turncocklaw34_ScriptStreams.f k l a = some true := by
  refine ⟨2 * l.length + 5, ?_⟩
  unfold turncocklaw34_ScriptStreams.f
  exact law_l0 l a hl l.length _ 0 _ (by omega) (by omega) (by omega) (fun _ => by omega) (fun _ => by simp [tot])

end Go.Proofs.YtbnnikpgopjieaaGreatDoor.PureSs
