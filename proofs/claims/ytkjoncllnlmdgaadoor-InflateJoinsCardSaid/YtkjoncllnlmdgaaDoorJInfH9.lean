/-
  Texts joined into one file: InfH.
-/
import Derived.Laws.BytesString
import Derived.Test.YtkjoncllnlmdgaaDoorJInfH8
/-
  What is pressed is bytes; strings of bytes, none among them; empty blocks.
-/
namespace Go.Proofs.YtkjoncllnlmdgaaDoor
open Go.RowKit

theorem all_of_rd {b : List Int} (h : ∀ j, j < b.length → 0 ≤ rd b j ∧ rd b j ≤ 255) : ∀ x ∈ b, 0 ≤ x ∧ x ≤ 255 := by
  intro x hx
  obtain ⟨j, hj, rfl⟩ := List.getElem_of_mem hx
  have := h j hj
  rwa [rd_getElem hj] at this
theorem packB_small {L : List Int} (h : Bit01 L) : ∀ j, j < (packB L).length → 0 ≤ rd (packB L) j ∧ rd (packB L) j ≤ 255 := fun j hj => packB_byte h j (by rwa [packB_length] at hj)
theorem storedB_byte {b : List Int} (h : ∀ x ∈ b, 0 ≤ x ∧ x ≤ 255) : ∀ j, j < (storedB b).length → 0 ≤ rd (storedB b) j ∧ rd (storedB b) j ≤ 255 := by
  unfold storedB
  rw [← stoBits_pack _ h]
  exact packB_small (stoBits_bit _ _)
theorem fixedB_byte (b : List Int) : ∀ j, j < (packB (fixedS b)).length → 0 ≤ rd (packB (fixedS b)) j ∧ rd (packB (fixedS b)) j ≤ 255 := packB_small (fixedS_bits b)
theorem dynB_byte (b : List Int) : ∀ j, j < (packB (dynS b)).length → 0 ≤ rd (packB (dynS b)) j ∧ rd (packB (dynS b)) j ≤ 255 := packB_small (dynS_bits b)
theorem pressB_byte {b : List Int} (h : ∀ x ∈ b, 0 ≤ x ∧ x ≤ 255) : ∀ j, j < (pressB b).length → 0 ≤ rd (pressB b) j ∧ rd (pressB b) j ≤ 255 := by
  rcases pressB_cases b with e | e | e <;> rw [e]
  · exact storedB_byte h
  · exact fixedB_byte b
  · exact dynB_byte b
theorem conv_none {W : World} (A : Option Addr) (c : Nat) : (convert 22 9 (.slice A 0 c)).run Tryd.prog W = .ok (.string ByteArray.empty) W := by
  rw [run_convert_bytes_string W 22 9 A 0 c (e := 5) Tryd.underlying22 Tryd.underlying5 Tryd.underlying9]
  cases A <;> simp [Conv.bytesToString, loadCells]
  all_goals rfl
theorem conv_all {W : World} {A : Option Addr} {n c : Nat} {ns : List Int} (h : Rd W .u8 A n ns) : (convert 22 9 (.slice A n c)).run Tryd.prog W = .ok (.string (strOfNums ns)) W := by
  rcases Nat.eq_zero_or_pos n with h0 | h0
  · subst h0
    have : ns = [] := List.length_eq_zero_iff.1 h.1
    subst this
    exact conv_none A c
  · exact conv_rd9 h h0
theorem conv_allL {w0 : World} {A : Option Addr} {n c : Nat} {ns : List Int} (h : Rd w0 .u8 A n ns) : ∀ W, Later w0 W → (convert 22 9 (.slice A n c)).run Tryd.prog W = .ok (.string (strOfNums ns)) W :=
  fun _ hL => conv_all (h.below hL.bel)
/-- So many empty blocks. -/
def empties (j : Nat) : List Int := blocks (List.replicate j [])
theorem empties_zero : empties 0 = [] := rfl
theorem empties_succ (j : Nat) : empties (j + 1) = empties j ++ [0, 0, 0, 255, 255] := by
  unfold empties
  rw [List.replicate_succ', blocks, List.flatMap_append]
  rfl
theorem empties_length (j : Nat) : (empties j).length = 5 * j := by
  unfold empties
  rw [blocks_len]
  simp
theorem empties_byte (j : Nat) : ∀ x ∈ empties j, 0 ≤ x ∧ x ≤ 255 := by
  induction j with
  | zero => intro x hx; cases hx
  | succ j ih =>
    intro x hx
    rw [empties_succ] at hx
    rcases List.mem_append.1 hx with h | h
    · exact ih x h
    · simp at h; omega
theorem openS_empties {b : List Int} (hb : ∀ j, j < b.length → 0 ≤ rd b j ∧ rd b j ≤ 255) (hl : b.length ≤ 65535) (j : Nat) : ∃ q, openS (empties j ++ pressB b) b.length = .ok (q, b) ∧ (q + 7) / 8 = 5 * j + (pressB b).length := by
  have h := openS_blocks (Z := []) (most := (b.length : Int)) (L := List.replicate j []) (opens_press hb hl) (fun l hx => by rw [List.eq_of_mem_replicate hx]; simp) (by simp)
  rw [List.append_nil, show (List.replicate j ([] : List Int)).flatten = [] by simp, List.nil_append] at h
  obtain ⟨q, h1, h2⟩ := h
  exact ⟨q, h1, by rw [h2]; have := empties_length j; unfold empties at this; omega⟩
theorem rd_bytes {l : List Int} (h : ∀ x ∈ l, 0 ≤ x ∧ x ≤ 255) : ∀ j, j < l.length → 0 ≤ rd l j ∧ rd l j ≤ 255 := fun j hj => by rw [rd_getElem hj]; exact h _ (List.getElem_mem hj)
theorem isRow_nil {k : IntKind} {w : World} {a : Option Addr} {len cap : Nat} {zs : List Int} (h : IsRow k w a len cap zs) : a = none → len = 0 ∧ cap = 0 := by
  rcases h with ⟨_, h1, h2, _⟩ | ⟨x, rfl, _⟩
  · exact fun _ => ⟨h1, h2⟩
  · intro e; cases e
theorem isRow_le {k : IntKind} {w : World} {a : Option Addr} {len cap : Nat} {zs : List Int} (h : IsRow k w a len cap zs) : len ≤ cap := by
  rcases h with ⟨_, h1, h2, _⟩ | ⟨x, _, h, _⟩
  · omega
  · exact h
end Go.Proofs.YtkjoncllnlmdgaaDoor
