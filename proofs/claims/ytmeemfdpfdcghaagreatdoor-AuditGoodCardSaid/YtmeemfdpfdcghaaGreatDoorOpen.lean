/- What an argument reads as, as a list of the printed kinds: slices, structs, numbers. -/
import Derived.Test.YtmeemfdpfdcghaaGreatDoorWWords
import Derived.Deep.Slices
import Derived.Deep.Fields
import Derived.ChangeSame
namespace Go.Proofs.YtmeemfdpfdcghaaGreatDoor.Opens
open Go.ChangeShapes Go.WideShapes Go.Deep Go.Proofs.YtmeemfdpfdcghaaGreatDoorW.PrintWords

variable {H : Type} {enc : TypeId × Value → H} {P : Program} {w : World} {base : Nat} {spare : Nat → Bool} {held : Bool}

/-- Whatever reads as a value of type e is one of the kind. -/
def Opens (enc : TypeId × Value → H) (P : Program) (w : World) (base : Nat) (spare : Nat → Bool) (held : Bool) {α : Type} (k : Kd α) (e : TypeId) : Prop :=
  ∀ fuel cs y, DataW.trod enc P w base spare held fuel e cs = some y → cs.length = k.sz → ∃ x : α, k.K w x cs

theorem opens_int {e : TypeId} {k : IntKind} (h : P.underlying e = some (.int k)) : Opens enc P w base spare held (Kd.int k) e := by
  intro fuel cs y ht _
  obtain ⟨z, rfl, _⟩ := DataW.trod_int h ht
  exact ⟨z, rfl⟩

theorem opens_bool {e : TypeId} (h : P.underlying e = some .bool) : Opens enc P w base spare held Kd.bool e := by
  intro fuel cs y ht _
  obtain ⟨z, rfl, _⟩ := DataW.trod_bool h ht
  exact ⟨z, rfl⟩

theorem opens_string {e : TypeId} (h : P.underlying e = some .string) : Opens enc P w base spare held Kd.string e := by
  intro fuel cs y ht _
  obtain ⟨z, rfl, _⟩ := DataW.trod_string h ht
  exact ⟨z, rfl⟩

theorem open_row {α : Type} {k : Kd α} {t e : TypeId} (ht : P.underlying t = some (.slice e)) (hC : P.cellsOf e = k.sz) (ho : Opens enc P w base spare held k e) {fuel : Nat} {cs : List Value} {y : DataW H × List MemPlace}
    (h : DataW.trod enc P w base spare held fuel t cs = some y) : ∃ (A : Option Addr) (c : Nat) (x : List α), cs = [.slice A x.length c] ∧ x.length ≤ c ∧ c ≤ maxLen ∧ k.C w A x.length x := by
  rcases open_slice ht h with ⟨h0, _⟩ | ⟨a, len, cap, m, n, D, Pl, hcs, hb, hl, hm, hmm, hx, hi⟩
  · exact ⟨none, 0, [], h0, Nat.le_refl _, Nat.zero_le _, rfl, by simp, fun h => by simp at h⟩
  · have hlm : len ≤ m := by rw [hmm]; split <;> omega
    have hel : ∀ i : Fin len, ∃ x : α, ∃ cs', w.cells? base (a.add (i.val * P.cellsOf e)) (P.cellsOf e) = some cs' ∧ k.K w x cs' := by
      intro i
      obtain ⟨cs', h1, h2⟩ := hi i.val (by omega)
      obtain ⟨_, hcl, _⟩ := World.cells?_some h1
      obtain ⟨x, hx⟩ := ho n cs' _ h2 (by rw [hcl, hC])
      exact ⟨x, cs', h1, hx⟩
    obtain ⟨f, hf⟩ := Classical.axiomOfChoice hel
    have hlen : (List.ofFn f).length = len := by simp
    refine ⟨some a, cap, List.ofFn f, by rw [hlen]; exact hcs, by rw [hlen]; exact hl, hm, rfl, ?_, fun _ => ⟨a, rfl, ?_⟩⟩
    · rw [hlen]; unfold maxLen at hm; omega
    · intro j p hp
      have hj : j < len := by
        have := (List.getElem?_eq_some_iff.1 hp).1
        rwa [hlen] at this
      have hpf : p = f ⟨j, hj⟩ := by
        rw [List.getElem?_ofFn] at hp
        simp [hj] at hp
        exact hp.symm
      obtain ⟨cs', h1, h2⟩ := hf ⟨j, hj⟩
      obtain ⟨_, hcl, hat⟩ := World.cells?_some h1
      rw [hC] at h1 hcl hat
      refine ⟨cs', hcl, by rw [hpf]; exact h2, fun i u hu => ?_⟩
      have hil : i < k.sz := by
        have := (List.getElem?_eq_some_iff.1 hu).1
        rwa [hcl] at this
      rw [← Go.Deep.add_add, hat i hil, hu]

theorem opens_slice {α : Type} {k : Kd α} {t e : TypeId} (ht : P.underlying t = some (.slice e)) (hC : P.cellsOf e = k.sz) (ho : Opens enc P w base spare held k e) :
    Opens enc P w base spare held (Kd.slice e k) t := by
  intro fuel cs y h _
  obtain ⟨A, c, x, h1, h2, _, h4⟩ := open_row ht hC ho h
  exact ⟨x, A, c, h1, h2, h4⟩

end Go.Proofs.YtmeemfdpfdcghaaGreatDoor.Opens
