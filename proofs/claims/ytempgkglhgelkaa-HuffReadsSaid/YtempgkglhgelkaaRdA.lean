/-
  Small facts: what is read in two lists joined; rows that lie nowhere (no program).
-/
import Derived.Test.YtempgkglhgelkaaB
namespace Go.Proofs.Ytempgkglhgelkaa
open Go.RowKit

theorem rd_appL {a b : List Int} {i : Nat} (h : i < a.length) : rd (a ++ b) i = rd a i := by
  unfold rd
  rw [List.getD_eq_getElem?_getD, List.getD_eq_getElem?_getD, List.getElem?_append_left h]
theorem rd_appR {a b : List Int} (i : Nat) : rd (a ++ b) (a.length + i) = rd b i := by
  unfold rd
  rw [List.getD_eq_getElem?_getD, List.getD_eq_getElem?_getD, List.getElem?_append_right (Nat.le_add_right _ _), Nat.add_sub_cancel_left]
theorem own_none {w : World} {base n c : Nat} {e : TypeId} {size : Nat} {A : Option Addr} {xs : List Value} (h : w.ownsRow base e size (.slice A n c) n xs) : A = none → n = 0 ∧ c = 0 := by
  intro hA
  subst hA
  rcases h.2 with ⟨h1, h2⟩ | ⟨g, cap, cur, h1, _⟩
  · simp at h1
    exact ⟨h2, h1.2⟩
  · cases h1
/-- What was there first lies apart from a younger block. -/
theorem Rd.apart {w0 w w1 : World} {k : IntKind} {A : Option Addr} {n : Nat} {xs : List Int} (h0 : Rd w0 k A n xs) (h : Rd w k A n xs) {r : Nat} (hg : w.grownBy w1 (some r)) (hr : w0.heap.size ≤ r) : Rd w1 k A n xs :=
  ⟨h.1, fun hn => by
    obtain ⟨b, o, e, hc⟩ := h.2 hn
    obtain ⟨b', o', e', hc'⟩ := h0.2 hn
    rw [e] at e'
    cases e'
    have hlt := World.block_lt_of_cell? _ _ (hc' 0 hn)
    exact ⟨b, o, e, fun j hj => hg.cell (hc j hj) (by simp at hlt ⊢; omega)⟩⟩
end Go.Proofs.Ytempgkglhgelkaa
