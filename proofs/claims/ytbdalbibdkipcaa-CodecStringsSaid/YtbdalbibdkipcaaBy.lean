/- Bytes. -/
import Derived.Test.YtbdalbibdkipcaaTb
import Derived.Test.YtbdalbibdkipcaaSeS
set_option linter.unusedVariables false
set_option linter.unusedSimpArgs false
set_option linter.constructorNameAsVariable false
namespace Go.Proofs
open Go.SE

/-- Bytes. -/
def BY (b : List D) : Prop := ∀ x ∈ b, ∃ n : Nat, x = .n n ∧ n < 256
def byt (b : List D) (i : Nat) : Nat := (b.getD i default).int.toNat
theorem BY.get {b : List D} (h : BY b) (i : Nat) : ∃ n : Nat, b.getD i default = .n n ∧ n < 256 := by
  rw [List.getD_eq_getElem?_getD]
  cases hx : b[i]? with
  | none => exact ⟨0, rfl, by omega⟩
  | some x => exact h x (List.mem_of_getElem? hx)
theorem BY.int {b : List D} (h : BY b) (i : Nat) : (D.at (.l b) i).int = byt b i := by
  obtain ⟨n, e, _⟩ := h.get i
  unfold D.at byt
  simp only [D.list]
  rw [e]
  rfl
theorem BY.lt {b : List D} (h : BY b) (i : Nat) : byt b i < 256 := by
  obtain ⟨n, e, hn⟩ := h.get i
  unfold byt
  rw [e]
  exact hn
theorem BY.u64 {b : List D} (h : BY b) (i : Nat) : IntKind.u64.wrap (D.at (.l b) i).int = byt b i := by
  have := h.lt i
  rw [h.int, IntWalk.u64_in _ (by omega)]

theorem BY.nil : BY [] := fun x hx => by simp at hx
theorem BY.cons {n : Nat} {l : List D} (hn : n < 256) (h : BY l) : BY (.n n :: l) := fun x hx => by
  rcases List.mem_cons.1 hx with rfl | hx
  · exact ⟨n, rfl, hn⟩
  · exact h x hx
theorem BY.append {a b : List D} (ha : BY a) (hb : BY b) : BY (a ++ b) := by
  intro x hx
  rcases List.mem_append.mp hx with h | h
  · exact ha x h
  · exact hb x h
theorem BY.of_fit {x : D} (h : Fit (.sl (.int .u8)) x) : ∃ b, x = .l b ∧ BY b ∧ b.length ≤ 9223372036854775807 := by
  obtain ⟨l, rfl, hl, hb⟩ := h
  exact ⟨l, rfl, fun y hy => (hb y hy).u8, hl⟩
theorem BY.of_arr {x : D} {n : Nat} (h : Fit (.arr n (.int .u8)) x) : ∃ b, x = .l b ∧ BY b ∧ b.length = n := by
  obtain ⟨l, rfl, hl, hb⟩ := h
  exact ⟨l, rfl, fun y hy => (hb y hy).u8, hl⟩
end Go.Proofs
