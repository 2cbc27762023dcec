/- How much memory a list of orders takes. Conditions: none. -/
import Derived.Test.YtajobinkabdmkaaR
import Derived.SizedLaws
namespace Go.Proofs.Ytajobinkabdmkaa
open Go.Shelf Go.ChangeShapes Go.WideShapes Go.ChangeAt Go.RowKit
set_option linter.unusedSimpArgs false
set_option linter.unusedVariables false
section
variable {H : Type} {enc : TypeId × Value → H} {W : World} {base : Nat} {spare : Nat → Bool} {held : Bool}
theorem bytes39 : Try.prog.bytesOf 39 = 48 := by kernel_rfl
theorem ords_size {A : Option Addr} {n c : Nat} {d : DataW H} {p : List MemPlace} (h : DataW.Trod enc Try.prog W 0 spare held 22 (.slice A n c) d p) :
    n = 0 ∨ ∃ elems rest, d = .slice elems rest ∧ n ≤ elems.length + rest.length := by
  obtain ⟨fuel, hf⟩ := h
  rcases Go.Deep.open_slice Try.underlying22 hf with ⟨hcs, _⟩ | ⟨a, len, cap, m, nn, D, Pl, hcs, _, hlc, hcm, hmm, hx, hi⟩
  · simp [Value.cells] at hcs
    exact .inl hcs.2.1
  · simp [Value.cells] at hcs
    obtain ⟨rfl, rfl, rfl⟩ := hcs
    simp only [Prod.mk.injEq] at hx
    exact .inr ⟨_, _, hx.1, by simp⟩
theorem ords_bound {A : Option Addr} {n c : Nat} {d : DataW H} {p : List MemPlace} {ts : List TypeId} {ds : List (DataW H)} (h : DataW.Trod enc Try.prog W 0 spare held 22 (.slice A n c) d p)
    (hsz : (DataW.weightsEach Try.prog ts ds).all (· ≤ reachBytes) = true) {j : Nat} (ht : ts[j]? = some 22) (hd : ds[j]? = some d) : n * 48 ≤ 140737488351232 := by
  rcases ords_size h with rfl | ⟨el, sp, rfl, hle⟩
  · omega
  · have := sized_slice hsz ht hd Try.underlying22
    rw [bytes39] at this
    have hr : reachBytes = 140737488351232 := by decide
    rw [hr] at this
    omega
end
end Go.Proofs.Ytajobinkabdmkaa
