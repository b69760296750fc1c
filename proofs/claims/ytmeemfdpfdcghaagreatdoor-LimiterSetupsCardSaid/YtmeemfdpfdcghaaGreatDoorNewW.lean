/- limiter.New and what it calls: contracts. -/
import Derived.Test.YtmeemfdpfdcghaaGreatDoorPAuditGoodx0
import Derived.Test.YtmeemfdpfdcghaaGreatDoorTa
namespace Go.Proofs.YtmeemfdpfdcghaaGreatDoor.NewW
open Go.RowKit Go.Proofs.YtmeemfdpfdcghaaGreatDoorW.PrintWords Go.Proofs.YtmeemfdpfdcghaaGreatDoorW.PrintLast

/-- A pointer that is not nil, and no fault. -/
def Made (w : World) (e : Ending) (w' : World) : Prop := (∃ a : Addr, e = .returned (.tuple #[.pointer (some a), .int .i64 0])) ∧ Below w.heap.size w w'
/-- A pointer that is not nil. -/
def MadeOne (w : World) (e : Ending) (w' : World) : Prop := (∃ a : Addr, e = .returned (.pointer (some a))) ∧ Below w.heap.size w w'

theorem info241 : (Tryz.prog.info? 241).map (fun i => (i.zero, i.size, i.bytes)) = some (some (.agg #[.bool false, .string ⟨#[]⟩, .int .i64 0]), 3, 32) := by kernel_rfl

set_option maxRecDepth 100000 in
set_option maxHeartbeats 4000000 in
theorem probe_bad (n : Int) (w : World) (h : n < 1 ∨ 4096 < n) :
    Calls Tryz.prog 65 #[.int .i64 n] w fun e w' => e = .returned (.tuple #[.pointer none, .int .i64 1]) ∧ Below w.heap.size w w' := by
  rcases h with h | h
  · go_enter Tryz.func65, Tryz.ntmps65
    go_wp2
    go_ret2
    exact ⟨rfl, Below.refl _ _⟩
  · have h' : ¬ n < 1 := by omega
    go_enter Tryz.func65, Tryz.ntmps65
    go_wp2
    go_ret2
    exact ⟨rfl, Below.refl _ _⟩

set_option maxRecDepth 100000 in
set_option maxHeartbeats 4000000 in
theorem probe_ok (n : Nat) (w : World) (h1 : 1 ≤ n) (h2 : n ≤ 4096) :
    Calls Tryz.prog 65 #[.int .i64 (n : Int)] w (Made w) := by
  obtain ⟨i0, hi, hz0, hz1, hz2⟩ := info_parts info241
  have hc1 : ¬ (n : Int) < 1 := by omega
  have hc2 : ¬ (n : Int) > 4096 := by omega
  have hm0 : IntKind.i64.wrap (2 * (n : Int)) = ((2 * n : Nat) : Int) := by
    have e1 : IntKind.i64.bits = 64 := rfl
    have e2 : IntKind.i64.signed = true := rfl
    simp only [IntKind.wrap, e1, e2, Bool.true_and]
    have e3 : (2 * (n : Int)) % 2 ^ 64 = 2 * n := by omega
    rw [e3]
    have e4 : ¬ (2 * (n : Int) ≥ 2 ^ (64 - 1)) := by omega
    rw [decide_eq_false e4]
    simp
  have HM := Aside0.mk hm0
  have HN := Aside0.mk h2
  clear hm0
  go_enter Tryz.func65, Tryz.ntmps65
  go_wp2_with (at_make; refine wpList_make_full _ rfl _ _ 199 rfl w.heap.size 241 i0 (.agg #[.bool false, .string ⟨#[]⟩, .int .i64 0]) 3 Tryz.underlying199 hi hz0 hz1 .i64 .i64 _ _ (2 * n) rfl rfl (by first | exact HM.out | omega | (simp; done)) (by first | exact HM.out | omega | (simp; done)) (by rw [hz2]; have := HN.out; omega) (by unfold maxLen; have := HN.out; omega) (Nat.le_refl _) ?_; intro w0 hown0 hgrow0; have HB := Aside0.mk (Below.grown (Below.refl w.heap.size w) hgrow0 (Nat.le_refl _) (fun k hk => by cases hk)); clear hown0 hgrow0)
  go_ret2
  exact ⟨⟨_, rfl⟩, by repeat (first | exact HB.out | apply below_alloc)⟩

/-! ### what is made without arguments: by the evaluator -/

def saysPtr : Option (Tc.AEnd × Tc.AMem) → Bool
  | some (.returned (.ptr _ _), _) => true
  | _ => false

theorem calls_ptr {P : Program} {T : Tc.Tab} (hT : Tc.TabOk P T) (n : Nat) (f : FuncId) (h : saysPtr ((Tc.evK P T n).call f [] Tc.emptyMem) = true) (w : World) : Calls P f #[] w (MadeOne w) := by
  rw [Tc.evK_eq] at h
  cases hc : (Tc.ev P T n).call f [] Tc.emptyMem with
  | none => rw [hc] at h; cases h
  | some r =>
    rw [hc] at h
    obtain ⟨e, M'⟩ := r
    cases e with
    | panicked c => cases h
    | returned v =>
      cases v <;> try (cases h; done)
      rename_i b o
      refine Calls.mono ((Tc.ev_ok hT n).calls f [] Tc.emptyMem _ M' hc Tc.rho0 w trivial (Tc.sim_empty P w)) fun e' w' he => ?_
      obtain ⟨ρ', h1, h2, h3, h4⟩ := he
      obtain ⟨q, hq⟩ := h4
      refine ⟨⟨⟨q.B, q.sh + o, none⟩, ?_⟩, Tc.below_of_adv h1⟩
      rw [h3]
      simp [Tc.conc, Tc.concPtr, hq]

theorem stat_new (w : World) : Calls Tryz.prog 28 #[] w (MadeOne w) := calls_ptr Aw.tab_ok 100 28 (by kernel_rfl) w
theorem wheel_new (w : World) : Calls Tryz.prog 66 #[] w (MadeOne w) := calls_ptr Aw.tab_ok 100 66 (by kernel_rfl) w

set_option maxRecDepth 100000 in
set_option maxHeartbeats 4000000 in
theorem marks_new (n : Int) (w : World) : Calls Tryz.prog 40 #[.int .i64 n] w (MadeOne w) := by
  have hmm : ∀ w : World, (Instr.makeMap 111 none).run Tryz.prog w = .ok (.map (some w.heap.size)) (w.alloc (.map #[] 0)) := by
    intro w
    exact (by simp [Instr.makeMap] : (Instr.makeMap 111 none).run Tryz.prog w = .ok (.map (some w.heap.size)) { w with heap := w.heap.push (.map #[] 0) })
  go_enter Tryz.func40, Tryz.ntmps40
  go_wp2
  all_goals (go_ret; exact ⟨⟨_, rfl⟩, by repeat (first | exact Below.refl _ _ | apply below_alloc)⟩)

set_option maxRecDepth 100000 in
set_option maxHeartbeats 4000000 in
theorem cache_bad (n : Int) (w : World) (h : n < 1 ∨ 4096 < n) :
    Calls Tryz.prog 39 #[.int .i64 n] w fun e w' => e = .returned (.tuple #[.pointer none, .int .i64 1]) ∧ Below w.heap.size w w' := by
  have H := Aside0.mk h
  clear h
  go_enter Tryz.func39, Tryz.ntmps39
  go_wp2_with (go_at_call 65; refine (probe_bad n _ H.out).mono ?_; rintro e w1 ⟨rfl, hb⟩; have HB := Aside0.mk hb; clear hb)
  go_ret2
  exact ⟨rfl, HB.out⟩

set_option maxRecDepth 100000 in
set_option maxHeartbeats 4000000 in
theorem cache_ok (n : Nat) (w : World) (h1 : 1 ≤ n) (h2 : n ≤ 4096) : Calls Tryz.prog 39 #[.int .i64 (n : Int)] w (Made w) := by
  have H1 := Aside0.mk h1
  have H2 := Aside0.mk h2
  clear h1 h2
  go_enter Tryz.func39, Tryz.ntmps39
  go_wp2_with (first | (go_at_call 65; refine (probe_ok n _ H1.out H2.out).mono ?_; rintro e w1 ⟨⟨a, rfl⟩, hb⟩; have HB := Aside0.mk hb; clear hb) | (go_at_call 66; refine (wheel_new _).mono ?_; rintro e w2 ⟨⟨b, rfl⟩, hb⟩; have HB2 := Aside0.mk (below_step HB.out hb); clear HB hb))
  go_ret2
  exact ⟨⟨_, rfl⟩, by repeat (first | exact HB2.out | apply below_alloc)⟩

end Go.Proofs.YtmeemfdpfdcghaaGreatDoor.NewW
