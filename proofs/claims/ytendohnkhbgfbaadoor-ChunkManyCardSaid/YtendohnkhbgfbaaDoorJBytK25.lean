/-
  Texts joined into one file: BytK.
-/
import Derived.Laws.BytesString
import Derived.Test.YtendohnkhbgfbaaDoorJBytK1
import Derived.Test.YtendohnkhbgfbaaDoorJBytK22
import Derived.Test.YtendohnkhbgfbaaDoorJBytK24
import Derived.OpenShut
/-
  Strings of bytes; what is pressed is bytes; empty blocks; with no law's walk above.
-/
namespace Go.Proofs.YtendohnkhbgfbaaDoor
open Go.RowKit

theorem conv_rd9 {W : World} {A : Option Addr} {n c : Nat} {ns : List Int} (h : Rd W .u8 A n ns) (hn : 0 < n) : (convert 22 9 (.slice A n c)).run Tryd.prog W = .ok (.string (strOfNums ns)) W := by
  obtain ⟨b, o, rfl, hc⟩ := h.2 hn
  exact run_convert_bytes_arg W _ 5 Tryd.underlying22 Tryd.underlying5 b o n c ns h.1 hc _ Tryd.underlying9
theorem conv_later {w0 : World} {A : Option Addr} {n c : Nat} {ns : List Int} (h : Rd w0 .u8 A n ns) (hn : 0 < n) : ∀ W, Later w0 W → (convert 22 9 (.slice A n c)).run Tryd.prog W = .ok (.string (strOfNums ns)) W :=
  fun _ hL => conv_rd9 (h.below hL.bel) hn
theorem fixed0 : packB (fixedS []) = [3, 0] := by decide +kernel
theorem fixed0_len : (fixedS []).length = 10 := by decide +kernel
theorem dyn0_len : 14 ≤ (dynS []).length := by
  have h := putS_len (lenA []) (lenD []) (by rw [lenA_length]; decide) (by rw [lenA_length]; decide) (by rw [lenD_length]; decide) (by rw [lenD_length]; decide) (lenA_rng []) (lenD_rng [])
  unfold dynS
  rw [List.length_append, List.length_append]
  have e : pressL [] = [] := rfl
  rw [e]
  omega
theorem press0 : pressB [] = [3, 0] := by
  unfold pressB
  have h1 := fixed0_len
  have h2 := dyn0_len
  have h3 : (storedB []).length = 5 := rfl
  rw [h1, h3, if_pos (by decide), if_neg (by omega), fixed0]
theorem rd_nil (w : World) (k : IntKind) : Rd w k none 0 [] := ⟨rfl, fun h => by omega⟩
theorem all_of_rd {b : List Int} (h : ∀ j, j < b.length → 0 ≤ rd b j ∧ rd b j ≤ 255) : ∀ x ∈ b, 0 ≤ x ∧ x ≤ 255 := by
  intro x hx
  obtain ⟨j, hj, rfl⟩ := List.getElem_of_mem hx
  have := h j hj
  rwa [rd_getElem hj] at this
theorem packB_small {L : List Int} (h : Bit01 L) : ∀ j, j < (packB L).length → 0 ≤ rd (packB L) j ∧ rd (packB L) j ≤ 255 := fun j hj => packB_byte h j (by rwa [packB_length] at hj)
theorem storedB_byte {b : List Int} (h : ∀ x ∈ b, 0 ≤ x ∧ x ≤ 255) : ∀ j, j < (storedB b).length → 0 ≤ rd (storedB b) j ∧ rd (storedB b) j ≤ 255 := by
  unfold storedB
  rw [← stoBits_pack _ h]
  exact packB_small (stoBits_bit _ _)
theorem fixedB_byte (b : List Int) : ∀ j, j < (packB (fixedS b)).length → 0 ≤ rd (packB (fixedS b)) j ∧ rd (packB (fixedS b)) j ≤ 255 := packB_small (fixedS_bits b)
theorem dynB_byte (b : List Int) : ∀ j, j < (packB (dynS b)).length → 0 ≤ rd (packB (dynS b)) j ∧ rd (packB (dynS b)) j ≤ 255 := packB_small (dynS_bits b)
theorem pressB_byte {b : List Int} (h : ∀ x ∈ b, 0 ≤ x ∧ x ≤ 255) : ∀ j, j < (pressB b).length → 0 ≤ rd (pressB b) j ∧ rd (pressB b) j ≤ 255 := by
  rcases pressB_cases b with e | e | e <;> rw [e]
  · exact storedB_byte h
  · exact fixedB_byte b
  · exact dynB_byte b
/-- So many empty blocks. -/
def empties (j : Nat) : List Int := blocks (List.replicate j [])
theorem empties_zero : empties 0 = [] := rfl
theorem empties_succ (j : Nat) : empties (j + 1) = empties j ++ [0, 0, 0, 255, 255] := by
  unfold empties
  rw [List.replicate_succ', blocks, List.flatMap_append]
  rfl
theorem empties_length (j : Nat) : (empties j).length = 5 * j := by
  unfold empties
  rw [blocks_len]
  simp
theorem empties_byte (j : Nat) : ∀ x ∈ empties j, 0 ≤ x ∧ x ≤ 255 := by
  induction j with
  | zero => intro x hx; cases hx
  | succ j ih =>
    intro x hx
    rw [empties_succ] at hx
    rcases List.mem_append.1 hx with h | h
    · exact ih x h
    · simp at h; omega
theorem openS_empties {b : List Int} (hb : ∀ j, j < b.length → 0 ≤ rd b j ∧ rd b j ≤ 255) (hl : b.length ≤ 65535) (j : Nat) : ∃ q, openS (empties j ++ pressB b) b.length = .ok (q, b) ∧ (q + 7) / 8 = 5 * j + (pressB b).length := by
  have h := openS_blocks (Z := []) (most := (b.length : Int)) (L := List.replicate j []) (opens_press hb hl) (fun l hx => by rw [List.eq_of_mem_replicate hx]; simp) (by simp)
  rw [List.append_nil, show (List.replicate j ([] : List Int)).flatten = [] by simp, List.nil_append] at h
  obtain ⟨q, h1, h2⟩ := h
  exact ⟨q, h1, by rw [h2]; have := empties_length j; unfold empties at this; omega⟩
theorem rd_bytes {l : List Int} (h : ∀ x ∈ l, 0 ≤ x ∧ x ≤ 255) : ∀ j, j < l.length → 0 ≤ rd l j ∧ rd l j ≤ 255 := fun j hj => by rw [rd_getElem hj]; exact h _ (List.getElem_mem hj)
theorem isRow_nil {k : IntKind} {w : World} {a : Option Addr} {len cap : Nat} {zs : List Int} (h : IsRow k w a len cap zs) : a = none → len = 0 ∧ cap = 0 := by
  rcases h with ⟨_, h1, h2, _⟩ | ⟨x, rfl, _⟩
  · exact fun _ => ⟨h1, h2⟩
  · intro e; cases e
theorem isRow_le {k : IntKind} {w : World} {a : Option Addr} {len cap : Nat} {zs : List Int} (h : IsRow k w a len cap zs) : len ≤ cap := by
  rcases h with ⟨_, h1, h2, _⟩ | ⟨x, _, h, _⟩
  · omega
  · exact h
end Go.Proofs.YtendohnkhbgfbaaDoor
