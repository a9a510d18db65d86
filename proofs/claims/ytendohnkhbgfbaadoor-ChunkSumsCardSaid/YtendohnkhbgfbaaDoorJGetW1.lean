/-
  Texts joined into one file: LebP, SpanP, SpanQ, Str, LebW, GetW.
-/
import Derived.Test.YtendohnkhbgfbaaDoorJBytZ1
import Derived.Lib.AppendStr
import Derived.Laws.AppendOwnNone
/-
  Numbers in digits of seven bits (no program).
-/
namespace Go.Proofs.YtendohnkhbgfbaaDoor
open Go.RowKit

/-- The bytes of a number. -/
def lebU (n : Nat) : List Int := if n < 128 then [(n : Int)] else ((n % 128 + 128 : Nat) : Int) :: lebU (n / 128)
termination_by n
decreasing_by omega
theorem lebU_last {n : Nat} (h : n < 128) : lebU n = [(n : Int)] := by rw [lebU, if_pos h]
theorem lebU_more {n : Nat} (h : ¬ n < 128) : lebU n = ((n % 128 + 128 : Nat) : Int) :: lebU (n / 128) := by rw [lebU, if_neg h]
theorem lebU_byte : ∀ (n : Nat), ∀ x ∈ lebU n, 0 ≤ x ∧ x ≤ 255 := by
  intro n
  induction n using Nat.strongRecOn with
  | ind n ih =>
    intro x hx
    by_cases h : n < 128
    · rw [lebU_last h] at hx
      simp at hx
      omega
    · rw [lebU_more h] at hx
      rcases List.mem_cons.1 hx with e | e
      · omega
      · exact ih (n / 128) (by omega) x e
theorem lebU_len : ∀ (k n : Nat), n < 128 ^ (k + 1) → 1 ≤ (lebU n).length ∧ (lebU n).length ≤ k + 1 := by
  intro k
  induction k with
  | zero => intro n h; rw [lebU_last (by simpa using h)]; simp
  | succ k ih =>
    intro n h
    by_cases h1 : n < 128
    · rw [lebU_last h1]; simp
    · rw [lebU_more h1]
      have h2 := ih (n / 128) (by rw [Nat.div_lt_iff_lt_mul (by omega)]; rw [← Nat.pow_succ]; exact h)
      simp only [List.length_cons]
      omega
theorem lebU_10 {n : Nat} (h : n < 18446744073709551616) : 1 ≤ (lebU n).length ∧ (lebU n).length ≤ 10 := lebU_len 9 n (Nat.lt_of_lt_of_le h (by decide))
set_option maxRecDepth 100000 in
theorem or128 : ∀ y : Fin 256, bits .or .u8 ((y.val : Nat) : Int) 128 = ((y.val % 128 + 128 : Nat) : Int) := by decide +kernel
theorem or_128 {y : Int} (h : 0 ≤ y ∧ y < 256) : bits .or .u8 y 128 = y % 128 + 128 := by
  have := or128 ⟨y.toNat, by omega⟩
  simp only at this
  rw [show ((y.toNat : Nat) : Int) = y by omega] at this
  rw [this]
  omega
/-- A text's bytes as numbers. -/
def nums (s : ByteArray) : List Int := s.data.toList.map fun x => (x.toNat : Int)
theorem nums_length (s : ByteArray) : (nums s).length = s.size := by unfold nums; rw [List.length_map, Array.length_toList]; rfl
theorem nums_byte (s : ByteArray) : ∀ x ∈ nums s, 0 ≤ x ∧ x ≤ 255 := by
  intro x hx
  obtain ⟨u, _, rfl⟩ := List.mem_map.1 hx
  have := u.toNat_lt
  omega
theorem strCells_nums (s : ByteArray) : Lib.strCells s = ints .u8 (nums s) := by
  unfold Lib.strCells ints nums
  rw [List.map_map]
  rfl
theorem strOf_nums (s : ByteArray) : strOfNums (nums s) = s := by
  apply ByteArray.ext
  show ((nums s).map fun n => UInt8.ofNat n.toNat).toArray = s.data
  unfold nums
  rw [List.map_map]
  have : (s.data.toList.map ((fun n : Int => UInt8.ofNat n.toNat) ∘ fun x : UInt8 => (x.toNat : Int))) = s.data.toList := by
    conv => rhs; rw [← List.map_id s.data.toList]
    refine List.map_congr_left (fun x _ => ?_)
    simp
  rw [this]
end Go.Proofs.YtendohnkhbgfbaaDoor
/-
  Reading numbers in digits of seven bits (no program).
-/
namespace Go.Proofs.YtendohnkhbgfbaaDoor
open Go.RowKit

/-- How many bytes a number at the beginning has, or why there is none. -/
def IsSpan (b : List Int) (k : Nat) (e : Int) : Prop :=
  (e = 0 ∧ 1 ≤ k ∧ k ≤ 10 ∧ k ≤ b.length ∧ (∀ i, i + 1 < k → 128 ≤ rd b i) ∧ rd b (k - 1) < 128) ∨
  (k = 0 ∧ e = 3 ∧ 10 ≤ b.length ∧ ∀ i, i < 10 → 128 ≤ rd b i) ∨ (k = 0 ∧ e = 2 ∧ b.length < 10 ∧ ∀ i, i < b.length → 128 ≤ rd b i)
theorem IsSpan.same {b : List Int} {k k' : Nat} {e e' : Int} (h : IsSpan b k e) (g : IsSpan b k' e') : k = k' ∧ e = e' := by
  rcases h with ⟨rfl, h1, h2, h3, h4, h5⟩ | ⟨rfl, rfl, h1, h2⟩ | ⟨rfl, rfl, h1, h2⟩ <;>
    rcases g with ⟨rfl, g1, g2, g3, g4, g5⟩ | ⟨rfl, rfl, g1, g2⟩ | ⟨rfl, rfl, g1, g2⟩
  · refine ⟨?_, rfl⟩
    rcases Nat.lt_trichotomy k k' with e | e | e
    · have := g4 (k - 1) (by omega); omega
    · exact e
    · have := h4 (k' - 1) (by omega); omega
  · have := g2 (k - 1) (by omega); omega
  · have := g2 (k - 1) (by omega); omega
  · have := h2 (k' - 1) (by omega); omega
  · exact ⟨rfl, rfl⟩
  · omega
  · have := h2 (k' - 1) (by omega); omega
  · omega
  · exact ⟨rfl, rfl⟩
/-- The number that digits tell. -/
def valB : List Int → Nat
  | [] => 0
  | x :: l => (x % 128).toNat + 128 * valB l
theorem valB_app (a b : List Int) : valB (a ++ b) = valB a + 128 ^ a.length * valB b := by
  induction a with
  | nil => simp [valB]
  | cons x a ih =>
    rw [List.cons_append, valB, valB, ih, List.length_cons, Nat.pow_succ, Nat.mul_add, Nat.add_assoc, Nat.mul_left_comm, Nat.mul_assoc]
theorem valB_lt (a : List Int) : valB a < 128 ^ a.length := by
  induction a with
  | nil => simp [valB]
  | cons x a ih =>
    rw [valB, List.length_cons, Nat.pow_succ]
    have : (x % 128).toNat < 128 := by omega
    omega
theorem valB_leb : ∀ n : Nat, valB (lebU n) = n := by
  intro n
  induction n using Nat.strongRecOn with
  | ind n ih =>
    by_cases h : n < 128
    · rw [lebU_last h]
      simp [valB]
      omega
    · rw [lebU_more h, valB, ih (n / 128) (by omega)]
      omega
theorem leb_inj {n m : Nat} (h : lebU n = lebU m) : n = m := by rw [← valB_leb n, h, valB_leb]
theorem leb_of : ∀ (b : List Int), (∀ x ∈ b, 0 ≤ x ∧ x ≤ 255) → 1 ≤ b.length → (∀ i, i + 1 < b.length → 128 ≤ rd b i) → rd b (b.length - 1) < 128 → (lebU (valB b)).length = b.length → lebU (valB b) = b := by
  intro b
  induction b with
  | nil => intro _ h; simp at h
  | cons x b ih =>
    intro hb _ h1 h2 h3
    have hx := hb x (List.mem_cons_self ..)
    cases b with
    | nil =>
      have hx2 : x < 128 := h2
      have e : valB [x] = x.toNat := by simp [valB]; omega
      rw [e, lebU_last (by omega)]
      congr 1
      omega
    | cons y b =>
      have hx1 : 128 ≤ x := h1 0 (by simp)
      by_cases hn : valB (x :: y :: b) < 128
      · rw [lebU_last hn] at h3
        simp at h3
      · rw [lebU_more hn] at h3 ⊢
        have ed : valB (x :: y :: b) / 128 = valB (y :: b) := by rw [valB]; omega
        have em : valB (x :: y :: b) % 128 = (x % 128).toNat := by rw [valB]; omega
        rw [ed] at h3 ⊢
        rw [em, ih (fun z hz => hb z (List.mem_cons_of_mem _ hz)) (by simp) (fun i hi => h1 (i + 1) (by simp at hi ⊢; omega)) (show rd (y :: b) ((y :: b).length - 1) < 128 from h2) (by simpa using h3)]
        congr 1
        omega
theorem leb_last : ∀ n : Nat, rd (lebU n) ((lebU n).length - 1) < 128 ∧ ∀ i, i + 1 < (lebU n).length → 128 ≤ rd (lebU n) i := by
  intro n
  induction n using Nat.strongRecOn with
  | ind n ih =>
    by_cases h : n < 128
    · rw [lebU_last h]
      exact ⟨by show (n : Int) < 128; omega, fun i hi => by simp at hi⟩
    · obtain ⟨h1, h2⟩ := ih (n / 128) (by omega)
      rw [lebU_more h]
      have hl : 1 ≤ (lebU (n / 128)).length := by
        by_cases h9 : n / 128 < 128
        · rw [lebU_last h9]; simp
        · rw [lebU_more h9]; simp
      obtain ⟨q, hq⟩ : ∃ q, (lebU (n / 128)).length = q + 1 := ⟨_, (Nat.sub_add_cancel hl).symm⟩
      rw [hq] at h1 h2
      constructor
      · rw [List.length_cons, hq]
        exact h1
      · intro i hi
        cases i with
        | zero => show (128 : Int) ≤ ((n % 128 + 128 : Nat) : Int); omega
        | succ i => exact h2 i (by rw [List.length_cons, hq] at hi; omega)
theorem leb_ten {n : Nat} (hn : n < 18446744073709551616) (hl : (lebU n).length = 10) : rd (lebU n) 9 ≤ 1 := by
  have h1 := (leb_last n).1
  rw [hl] at h1
  have h1 : rd (lebU n) 9 < 128 := h1
  have e : lebU n = (lebU n).take 9 ++ [rd (lebU n) 9] := by
    have h := List.take_append_drop 9 (lebU n)
    rw [List.drop_eq_getElem_cons (by omega), List.drop_of_length_le (by omega)] at h
    rw [rd_getElem (by omega)]
    exact h.symm
  have hv := valB_leb n
  rw [e, valB_app, List.length_take, hl] at hv
  have hb := lebU_byte n (rd (lebU n) 9) (by rw [rd_getElem (by omega)]; exact List.getElem_mem _)
  have e9 : valB [rd (lebU n) 9] = (rd (lebU n) 9).toNat := by simp [valB]; omega
  rw [e9] at hv
  have : (128 : Nat) ^ min 9 10 = 9223372036854775808 := by decide
  rw [this] at hv
  omega
/-- What reading a number tells: the number, how many bytes, or why there is none. -/
def IsGet (b : List Int) (n k : Nat) (e : Int) : Prop :=
  ∃ s f, IsSpan b s f ∧ ((f ≠ 0 ∧ n = 0 ∧ k = 0 ∧ e = f) ∨ (f = 0 ∧ n < 18446744073709551616 ∧ lebU n = b.take s ∧ k = s ∧ e = 0) ∨ (f = 0 ∧ (∀ m, m < 18446744073709551616 → lebU m ≠ b.take s) ∧ n = 0 ∧ k = 0 ∧ e = 3))
theorem IsGet.same {b : List Int} {n k n' k' : Nat} {e e' : Int} (h : IsGet b n k e) (g : IsGet b n' k' e') : n = n' ∧ k = k' ∧ e = e' := by
  obtain ⟨s, f, h0, h⟩ := h
  obtain ⟨s', f', g0, g⟩ := g
  obtain ⟨rfl, rfl⟩ := h0.same g0
  rcases h with ⟨h1, rfl, rfl, rfl⟩ | ⟨rfl, h1, h2, rfl, rfl⟩ | ⟨rfl, h1, rfl, rfl, rfl⟩ <;>
    rcases g with ⟨g1, rfl, rfl, rfl⟩ | ⟨g9, g1, g2, rfl, rfl⟩ | ⟨g9, g1, rfl, rfl, rfl⟩
  · exact ⟨rfl, rfl, rfl⟩
  · exact absurd g9 h1
  · exact absurd g9 h1
  · exact absurd rfl g1
  · exact ⟨leb_inj (h2.trans g2.symm), rfl, rfl⟩
  · exact absurd h2 (g1 _ h1)
  · exact absurd rfl g1
  · exact absurd g2 (h1 _ g1)
  · exact ⟨rfl, rfl, rfl⟩
end Go.Proofs.YtendohnkhbgfbaaDoor
/-
  What GetU reckons (no program).
-/
namespace Go.Proofs.YtendohnkhbgfbaaDoor
open Go.RowKit

set_option maxRecDepth 100000 in
theorem and127f : ∀ y : Fin 256, bits .and .u8 ((y.val : Nat) : Int) 127 = ((y.val % 128 : Nat) : Int) := by decide +kernel
theorem and_127 {y : Int} (h : 0 ≤ y ∧ y ≤ 255) : bits .and .u8 y 127 = y % 128 := by
  have := and127f ⟨y.toNat, by omega⟩
  simp only at this
  rw [show ((y.toNat : Nat) : Int) = y by omega] at this
  rw [this]
  omega
theorem or_comm64 (a b : Int) : bits .or .u64 a b = bits .or .u64 b a := by simp only [bits, BitVec.or_comm]
theorem wraps64 (n : Int) (h0 : 0 ≤ n) (h1 : n < 2 ^ 64) : IntKind.u64.wrap n = n := by rw [IntKind.wrap_u64]; omega
theorem or_step {k : Nat} (hk : k ≤ 9) {q : Nat} (hq : q < 128 ^ k) {y : Int} (hy : 0 ≤ y ∧ y < 128) : bits .or .u64 q (IntKind.u64.wrap (IntKind.u64.wrap y * 2 ^ (7 * k))) = (((q + 128 ^ k * y.toNat) % 18446744073709551616 : Nat) : Int) := by
  rw [or_comm64, wraps64 y hy.1 (by omega)]
  have hw : IntKind.u64.wrap (y * 2 ^ (7 * k)) = (y * 2 ^ (7 * k)) % 18446744073709551616 := by rw [IntKind.wrap_u64]
  rw [hw]
  rcases (show k = 0 ∨ k = 1 ∨ k = 2 ∨ k = 3 ∨ k = 4 ∨ k = 5 ∨ k = 6 ∨ k = 7 ∨ k = 8 ∨ k = 9 by omega) with rfl | rfl | rfl | rfl | rfl | rfl | rfl | rfl | rfl | rfl
  · simp only [Nat.mul_zero, Int.pow_zero, Nat.pow_zero] at *
    rw [bits_join .u64 64 (by decide) wraps64 0 _ _ (by omega) (by omega) (by omega) (by omega) (by omega) (by omega)]
    omega
  all_goals
    simp only [Nat.reduceMul, Int.reducePow, Nat.reducePow] at *
  · rw [bits_join .u64 64 (by decide) wraps64 7 _ _ (by omega) (by omega) (by omega) (by omega) (by omega) (by omega)]; omega
  · rw [bits_join .u64 64 (by decide) wraps64 14 _ _ (by omega) (by omega) (by omega) (by omega) (by omega) (by omega)]; omega
  · rw [bits_join .u64 64 (by decide) wraps64 21 _ _ (by omega) (by omega) (by omega) (by omega) (by omega) (by omega)]; omega
  · rw [bits_join .u64 64 (by decide) wraps64 28 _ _ (by omega) (by omega) (by omega) (by omega) (by omega) (by omega)]; omega
  · rw [bits_join .u64 64 (by decide) wraps64 35 _ _ (by omega) (by omega) (by omega) (by omega) (by omega) (by omega)]; omega
  · rw [bits_join .u64 64 (by decide) wraps64 42 _ _ (by omega) (by omega) (by omega) (by omega) (by omega) (by omega)]; omega
  · rw [bits_join .u64 64 (by decide) wraps64 49 _ _ (by omega) (by omega) (by omega) (by omega) (by omega) (by omega)]; omega
  · rw [bits_join .u64 64 (by decide) wraps64 56 _ _ (by omega) (by omega) (by omega) (by omega) (by omega) (by omega)]; omega
  · rw [bits_join .u64 64 (by decide) wraps64 63 _ _ (by omega) (by omega) (by omega) (by omega) (by omega) (by omega)]; omega
theorem take_rdl {l : List Int} {k j : Nat} (h : j < k) : rd (l.take k) j = rd l j := by
  unfold rd
  rw [List.getD_eq_getElem?_getD, List.getD_eq_getElem?_getD, List.getElem?_take_of_lt h]
theorem take_rdn {b : List Int} {k : Nat} (h : k < b.length) : b.take (k + 1) = b.take k ++ [rd b k] := by
  rw [List.take_succ_eq_append_getElem h, rd_getElem h]
theorem valB_next {b : List Int} {k : Nat} (h : k < b.length) : valB (b.take (k + 1)) = valB (b.take k) + 128 ^ k * (rd b k % 128).toNat := by
  rw [take_rdn h, valB_app, List.length_take, Nat.min_eq_left (by omega)]
  simp [valB]
theorem pow9 {k : Nat} (h : k ≤ 9) : 128 ^ k ≤ 9223372036854775808 := Nat.le_trans (Nat.pow_le_pow_right (by decide) h) (by decide)
theorem valB_take_lt (b : List Int) (k : Nat) : valB (b.take k) < 128 ^ k := Nat.lt_of_lt_of_le (valB_lt _) (Nat.pow_le_pow_right (by decide) (by rw [List.length_take]; omega))
theorem step_val {b : List Int} {k : Nat} (hk : k ≤ 9) (h : k < b.length) {x : Int} (hx : x = rd b k) (hx0 : 0 ≤ x ∧ x ≤ 255) {q : Nat} (hq : q = valB (b.take k) % 18446744073709551616) :
    bits .or .u64 q (IntKind.u64.wrap (IntKind.u64.wrap (bits .and .u8 x 127) * 2 ^ (7 * k))) = ((valB (b.take (k + 1)) % 18446744073709551616 : Nat) : Int) := by
  have h1 := valB_take_lt b k
  have h2 := pow9 hk
  have h3 : valB (b.take k) % 18446744073709551616 = valB (b.take k) := Nat.mod_eq_of_lt (by omega)
  rw [hq, h3, and_127 hx0, or_step hk h1 (by omega), valB_next h, hx]
theorem get_none {b : List Int} {s q : Nat} (hs : IsSpan b s 0) (hq : q = valB (b.take s) % 18446744073709551616) (hl : (lebU q).length ≠ s) : IsGet b 0 0 3 := by
  refine ⟨s, 0, hs, .inr (.inr ⟨rfl, fun m hm e => hl ?_, rfl, rfl, rfl⟩)⟩
  have hv := valB_leb m
  rw [e] at hv
  have : q = m := by rw [hq, hv]; exact Nat.mod_eq_of_lt hm
  rw [this, e, List.length_take]
  rcases hs with ⟨_, _, _, h, _⟩ | ⟨_, h, _⟩ | ⟨_, h, _⟩
  · omega
  · omega
  · omega
theorem get_ten {b : List Int} (hs : IsSpan b 10 0) (h9 : 1 < rd b 9) : IsGet b 0 0 3 := by
  refine ⟨10, 0, hs, .inr (.inr ⟨rfl, fun m hm e => ?_, rfl, rfl, rfl⟩)⟩
  have hbl : 10 ≤ b.length := by
    rcases hs with ⟨_, _, _, h, _⟩ | ⟨_, h, _⟩ | ⟨_, h, _⟩ <;> omega
  have hl : (lebU m).length = 10 := by rw [e, List.length_take]; omega
  have h := leb_ten hm hl
  rw [e, take_rdl (by omega)] at h
  omega
theorem get_some {b : List Int} {s q : Nat} (hb : ∀ x ∈ b, 0 ≤ x ∧ x ≤ 255) (hs : IsSpan b s 0) (hq : q = valB (b.take s) % 18446744073709551616) (hl : (lebU q).length = s) (h9 : s = 10 → rd b 9 ≤ 1) : IsGet b q s 0 := by
  have hs' := hs
  rcases hs with ⟨_, h1, h2, h3, h4, h5⟩ | ⟨_, h, _⟩ | ⟨_, h, _⟩
  · have hV : valB (b.take s) < 18446744073709551616 := by
      by_cases h10 : s = 10
      · subst h10
        rw [valB_next (by omega)]
        have := valB_take_lt b 9
        have e : (128 : Nat) ^ 9 = 9223372036854775808 := by decide
        rw [e] at this ⊢
        have := h9 rfl
        have h0 := hb (rd b 9) (by rw [rd_getElem (by omega)]; exact List.getElem_mem _)
        omega
      · have := valB_take_lt b s
        have := pow9 (k := s) (by omega)
        omega
    have hqV : q = valB (b.take s) := by rw [hq]; exact Nat.mod_eq_of_lt hV
    have htl : (b.take s).length = s := by rw [List.length_take]; omega
    refine ⟨s, 0, hs', .inr (.inl ⟨rfl, by omega, ?_, rfl, rfl⟩)⟩
    rw [hqV]
    refine leb_of _ (fun x hx => hb x (List.mem_of_mem_take hx)) (by omega) (fun i hi => ?_) ?_ (by rw [htl, ← hqV, hl])
    · rw [take_rdl (by omega)]; exact h4 i (by omega)
    · rw [htl, take_rdl (by omega)]; exact h5
  · omega
  · omega
theorem get_err {b : List Int} {s : Nat} {f : Int} (hs : IsSpan b s f) (hf : f ≠ 0) : IsGet b 0 0 f := ⟨s, f, hs, .inl ⟨hf, rfl, rfl, rfl⟩⟩
end Go.Proofs.YtendohnkhbgfbaaDoor
/-
  Rows of values of one size that are read; an append of such a row; rows of strings.
-/
namespace Go.Proofs.YtendohnkhbgfbaaDoor
open Go.RowKit

/-- m elements of s cells each, one behind the other. -/
def RdV (w : World) (A : Option Addr) (m s : Nat) (vs : List Value) : Prop :=
  vs.length = m * s ∧ (0 < m → ∃ b o, A = some ⟨b, o, none⟩ ∧ ∀ j u, vs[j]? = some u → w.cell? ⟨b, o + j, none⟩ = some u)
theorem RdV.below {w w' : World} {A : Option Addr} {m s : Nat} {vs : List Value} (h : RdV w A m s vs) (hb : Below w.heap.size w w') : RdV w' A m s vs :=
  ⟨h.1, fun hm => by obtain ⟨b, o, e, hc⟩ := h.2 hm; exact ⟨b, o, e, fun j u hu => kept_cell hb (hc j u hu)⟩⟩
theorem own_rdV {w : World} {base n s : Nat} {e : TypeId} {v : Value} {xs : List Value} (h : w.ownsRow base e s v n xs) : ∃ A c, v = .slice A n c ∧ n ≤ c ∧ RdV w A n s xs ∧ (A = none → n = 0 ∧ c = 0) := by
  have hl := h.1
  rcases h.2 with ⟨rfl, rfl⟩ | ⟨g, cap, cur, rfl, hb, hg, hc, _⟩
  · exact ⟨none, 0, rfl, Nat.le_refl _, ⟨hl, fun h0 => by omega⟩, fun _ => ⟨rfl, rfl⟩⟩
  · refine ⟨_, cap, rfl, hc, ⟨hl, fun _ => ⟨g, 0, rfl, fun j u hu => ?_⟩⟩, fun e => by cases e⟩
    have hj : j < xs.length := (List.getElem?_eq_some_iff.1 hu).1
    rw [Nat.zero_add, h.cellAt j (by rw [hl] at hj; exact hj)]
    exact hu
/-- 'append' of a row that is read: where the row lies then. -/
theorem wpList_appV {P : Program} {w : World} {ops : Array Oper} {rest : List Oper} {o : Oper} {a : Act} {Q : Exit → Act → World → Prop} (hgd : o.guard = none) (s x : Operand) {t : TypeId}
    (ho : o.op = .call { callee := .builtin .append, args := #[s, x], argTypes := #[t, t] })
    {base : Nat} {e : TypeId} {z : Value} {size bytes : Nat} (El : ElT P t e z size bytes) {v : Value} {n : Nat} {xs : List Value} (hown : w.ownsRow base e size v n xs) (hs : a.eval s = v)
    {A : Option Addr} {m c : Nat} {vs : List Value} (hx : a.eval x = .slice A m c) (hR : RdV w A m size vs) (hA : A = none → m = 0 ∧ c = 0) (h1 : vs.all (fun u => u.oneCell') = true) (hbytes : (n + m) * bytes ≤ 140737488355328) (hbase : base ≤ w.heap.size)
    (h : ∀ v' w', w'.ownsRow base e size v' (n + m) (xs ++ vs) → Fr w w' [v.ownBlock] → (v'.ownBlock = v.ownBlock ∨ ∀ k, v'.ownBlock = some k → w.heap.size ≤ k) → wpList P ops Q rest (a.put o.dst v') w') : wpList P ops Q (o :: rest) a w := by
  obtain ⟨i0, hi, hz0, hz1, hz2⟩ := info_parts El.info
  have hn : n + m ≤ maxLen := by
    have := Nat.mul_le_mul_left (n + m) El.bpos
    unfold maxLen
    omega
  have hl := hR.1
  cases A with
  | none =>
    obtain ⟨rfl, rfl⟩ := hA rfl
    have hz : vs = [] := List.length_eq_zero_iff.1 (by omega)
    subst hz
    refine wpList_append_own_none hgd s x t ho base e i0 size El.und hi v n _ hs hown hx (h v w ?_ (Fr.refl _ _) (.inl rfl))
    simpa using hown
  | some ad =>
    refine wpList_append_own_at _ hgd s x t ho base e i0 z size bytes El.und hi hz0 hz1 hz2 El.zs El.pos v n _ hs hown ad m c vs hx hl ?_ (fun u hu => List.all_eq_true.1 h1 u hu) hn hbytes hbase ?_
    · intro j u hu
      have hj : j < vs.length := (List.getElem?_eq_some_iff.1 hu).1
      have hm : 0 < m := by
        rcases Nat.eq_zero_or_pos m with h0 | h0
        · subst h0; omega
        · exact h0
      obtain ⟨b, o', e', hc⟩ := hR.2 hm
      cases e'
      rw [addr_add]
      exact hc j u hu
    · intro v' w' h2 h3 _ h5
      exact h v' w' h2 (Fr.ofGrown h3) (h5.imp id (fun e k hk => by rw [e] at hk; cases hk; exact Nat.le_refl _))
def strs (L : List ByteArray) : List Value := L.map Value.string
theorem strs_app (a b : List ByteArray) : strs (a ++ b) = strs a ++ strs b := List.map_append
theorem strs_length (L : List ByteArray) : (strs L).length = L.length := List.length_map ..
theorem strs_one (L : List ByteArray) : (strs L).all (fun u => u.oneCell') = true := by
  rw [List.all_eq_true]
  intro u hu
  obtain ⟨x, _, rfl⟩ := List.mem_map.1 hu
  rfl
def str (L : List ByteArray) (j : Nat) : ByteArray := L.getD j ByteArray.empty
theorem strs_get {L : List ByteArray} {j : Nat} (h : j < L.length) : (strs L)[j]? = some (.string (str L j)) := by
  simp [strs, str, List.getD_eq_getElem?_getD, List.getElem?_eq_getElem h]
/-- Strings one behind the other. -/
def RdS (w : World) (A : Option Addr) (n : Nat) (L : List ByteArray) : Prop := L.length = n ∧ (0 < n → ∃ b o, A = some ⟨b, o, none⟩ ∧ ∀ j, j < n → w.cell? ⟨b, o + j, none⟩ = some (.string (str L j)))
theorem RdS.below {w w' : World} {A : Option Addr} {n : Nat} {L : List ByteArray} (h : RdS w A n L) (hb : Below w.heap.size w w') : RdS w' A n L :=
  ⟨h.1, fun hm => by obtain ⟨b, o, e, hc⟩ := h.2 hm; exact ⟨b, o, e, fun j hj => kept_cell hb (hc j hj)⟩⟩
theorem RdS.of {w : World} {A : Option Addr} {n : Nat} {L : List ByteArray} (h : RdV w A n 1 (strs L)) : RdS w A n L := by
  have hl := h.1
  rw [strs_length, Nat.mul_one] at hl
  refine ⟨hl, fun hn => ?_⟩
  obtain ⟨b, o, e, hc⟩ := h.2 hn
  exact ⟨b, o, e, fun j hj => hc j _ (strs_get (by omega))⟩
theorem RdS.toV {w : World} {A : Option Addr} {n : Nat} {L : List ByteArray} (h : RdS w A n L) : RdV w A n 1 (strs L) := by
  refine ⟨by rw [strs_length, Nat.mul_one]; exact h.1, fun hn => ?_⟩
  obtain ⟨b, o, e, hc⟩ := h.2 hn
  refine ⟨b, o, e, fun j u hu => ?_⟩
  have hj : j < L.length := by have := (List.getElem?_eq_some_iff.1 hu).1; rwa [strs_length] at this
  rw [strs_get hj] at hu
  cases hu
  exact hc j (by rw [← h.1]; exact hj)
theorem own_rdS {w : World} {base n : Nat} {e : TypeId} {v : Value} {L : List ByteArray} (h : w.ownsRow base e 1 v n (strs L)) : ∃ A c, v = .slice A n c ∧ n ≤ c ∧ RdS w A n L ∧ (A = none → n = 0 ∧ c = 0) := by
  obtain ⟨A, c, e, h1, h2, h3⟩ := own_rdV h
  exact ⟨A, c, e, h1, RdS.of h2, h3⟩
end Go.Proofs.YtendohnkhbgfbaaDoor
/-
  The walks of leb.U and of the reference's U.
-/
namespace Go.Proofs.YtendohnkhbgfbaaDoor
open Go.RowKit

theorem elU8b : ElT Tryd.prog 22 5 (.int .u8 0) 1 1 := ⟨Tryd.underlying22, by kernel_rfl, rfl, by decide, by decide⟩
theorem ints_all (k : IntKind) (l : List Int) : (ints k l).all (fun u => u.oneCell') = true := by
  rw [List.all_eq_true]
  intro u hu
  obtain ⟨x, _, rfl⟩ := List.mem_map.1 hu
  rfl
set_option maxHeartbeats 1000000 in
set_option maxRecDepth 100000 in
theorem U_calls (n : Nat) (w : World) (hn : n < 18446744073709551616) :
    Calls Tryd.prog 17 #[.int .u64 n] w fun e w' => ∃ v, e = .returned v ∧ w'.ownsRow w.heap.size 5 1 v (lebU n).length (ints .u8 (lebU n)) ∧ Below w.heap.size w w' := by
  go_enter Tryd.func17, Tryd.ntmps17
  go_wp2_with fail
  go_loopw [0, 3] (fun x v wr => ∃ (q : Nat) (L : List Int), x = .int .u64 q ∧ q ≤ n ∧ Hid (L ++ lebU q = lebU n) ∧ L.length ≤ 10 ∧ Hid (wr.ownsRow w.heap.size 5 1 v L.length (ints .u8 L)) ∧ Hid (Below w.heap.size w wr)) (fun x _ _ => (intOf x).toNat)
  case atStart => exact ⟨n, [], rfl, by omega, Lib.hid rfl, by simp, World.ownsRow_nil _ _ _ _, Below.refl _ _⟩
  case round =>
    obtain ⟨q, L, rfl, hq, HL, hl10, HO, HB⟩ := hrel
    obtain ⟨W, hW⟩ : ∃ W, W = wr := ⟨_, rfl⟩
    subst hW
    obtain ⟨m, hm⟩ : ∃ m, m = L.length := ⟨_, rfl⟩
    rw [← hm] at HO hl10
    have Hm := Lib.hid hm
    obtain ⟨Av, cv, hv⟩ := own_slice HO.out
    subst hv
    have hsz := HB.out.size
    clear hm
    by_cases h1 : q < 128
    · go_wp2_with (at_builtin; refine wpList_app3 rfl _ _ rfl elU8b HO.out rfl rfl rfl rfl rfl (by omega) hsz ?_; intro g4 cg w4 hown4 hfr4 hat4 hlt4; have Hown4 := Lib.hid hown4; have Hfr4 := Lib.hid hfr4; clear hown4 hfr4 hat4)
      go_ret
      have e9 : ints .u8 L ++ (#[Value.int .u8 (q : Int)] : Array Value).toList = ints .u8 (lebU n) := by rw [← HL.out, lebU_last h1, ints_append]; rfl
      have e5 : (lebU n).length = m + 1 := by rw [← HL.out, List.length_append, lebU_last h1, ← Hm.out]; rfl
      have h4 := Hown4.out
      rw [e9] at h4
      exact ⟨_, rfl, by rw [e5]; exact h4, HB.out.trans (Hfr4.out.below hsz (fun o ho i e => by simp at ho; subst ho; exact (HO.out.lt i e).1))⟩
    · have hlen9 : m + 1 ≤ 10 := by
        have h2 := congrArg List.length HL.out
        rw [List.length_append, ← Hm.out] at h2
        have h3 := lebU_10 hn
        have h4 := lebU_10 (n := q) (by omega)
        omega
      have hor := or_128 (y := (q : Int) % 256) (by omega)
      go_wp2_with (at_builtin; refine wpList_app3 rfl _ _ rfl elU8b HO.out rfl rfl rfl rfl rfl (by omega) hsz ?_; intro g4 cg w4 hown4 hfr4 hat4 hlt4; have Hown4 := Lib.hid hown4; have Hfr4 := Lib.hid hfr4; clear hown4 hfr4 hat4)
      go_roundw
      case rel =>
        have ed : (q : Int) / 128 = ((q / 128 : Nat) : Int) := by omega
        have e9 : ints .u8 L ++ (#[Value.int .u8 ((q : Int) % 128 + 128)] : Array Value).toList = ints .u8 (L ++ [((q % 128 + 128 : Nat) : Int)]) := by
          rw [ints_append]
          have : (q : Int) % 128 + 128 = ((q % 128 + 128 : Nat) : Int) := by omega
          rw [this]; rfl
        have h4 := Hown4.out
        rw [e9] at h4
        refine ⟨q / 128, L ++ [((q % 128 + 128 : Nat) : Int)], by rw [ed], by omega, ?_, by rw [List.length_append, ← Hm.out]; exact hlen9, by rw [List.length_append, ← Hm.out]; exact h4, HB.out.trans (Hfr4.out.below hsz (fun o ho i e => by simp at ho; subst ho; exact (HO.out.lt i e).1))⟩
        rw [List.append_assoc]
        rw [← HL.out, lebU_more h1]
        rfl
      case measure => simp [intOf]; omega
set_option maxHeartbeats 1000000 in
set_option maxRecDepth 100000 in
theorem rU_calls : ∀ (f n : Nat) (w : World), n < f → n < 18446744073709551616 →
    Calls Tryd.prog 20 #[.int .u64 n] w fun e w' => ∃ v, e = .returned v ∧ w'.ownsRow w.heap.size 5 1 v (lebU n).length (ints .u8 (lebU n)) ∧ Below w.heap.size w w' := by
  intro f
  induction f with
  | zero => intro n w h; omega
  | succ f ih =>
    intro n w hf hn
    go_enter Tryd.func20, Tryd.ntmps20
    by_cases h1 : n < 128
    · go_wp2_with fail
      go_ret
      have hl := World.ownsRow_lit (base := w.heap.size) (size := 1) (e := 5) w #[.int .u8 (n : Int)] 1 (Nat.le_refl _) (by simp [maxLen]) rfl
      refine ⟨_, rfl, ?_, (Below.refl _ _).alloc (Nat.le_refl _) _⟩
      rw [lebU_last h1]
      exact hl
    · have hl := World.ownsRow_lit (base := w.heap.size) (size := 1) (e := 5) w #[.int .u8 (128 + (n : Int) % 128)] 1 (Nat.le_refl _) (by simp [maxLen]) rfl
      have Hl := Lib.hid hl
      have h10 := lebU_10 (n := n / 128) (by omega)
      have H10 := Lib.hid h10
      clear hl h10
      go_wp2_with fail
      rw [show (n : Int) / 128 = ((n / 128 : Nat) : Int) by omega]
      refine (ih (n / 128) _ (by omega) (by omega)).mono ?_
      rintro e w2 ⟨v2, rfl, ho2, hb2⟩
      obtain ⟨A2, c2, rfl, _, hr2, hn2⟩ := own_rdV ho2
      obtain ⟨m, hm⟩ : ∃ m, m = (lebU (n / 128)).length := ⟨_, rfl⟩
      have hm10 : m ≤ 10 := by rw [hm]; exact H10.out.2
      rw [← hm] at hr2 hn2 ⊢
      have Hr2 := Lib.hid hr2
      have Hn2 := Lib.hid hn2
      have Hm := Lib.hid hm
      have Hl2 := Lib.hid (own_below Hl.out hb2)
      have HB2 := Lib.hid (((Below.refl w.heap.size w).alloc (Nat.le_refl _) _).trans (hb2.mono (by simp)))
      have hs2 := HB2.out.size
      clear ho2 hr2 hn2 hm hb2
      go_wp2_with (at_builtin; refine wpList_appV rfl _ _ rfl elU8b Hl2.out rfl rfl Hr2.out Hn2.out (ints_all _ _) (by omega) hs2 ?_; intro v4 w4 hown4 hfr4 hat4; have Hown4 := Lib.hid hown4; have Hfr4 := Lib.hid hfr4; clear hown4 hfr4 hat4)
      go_ret
      have e9 : (#[Value.int .u8 (128 + (n : Int) % 128)] : Array Value).toList ++ ints .u8 (lebU (n / 128)) = ints .u8 (lebU n) := by
        rw [lebU_more h1]
        have : 128 + (n : Int) % 128 = ((n % 128 + 128 : Nat) : Int) := by omega
        rw [this]; rfl
      have e5 : (lebU n).length = 1 + m := by rw [lebU_more h1, List.length_cons, ← Hm.out]; omega
      have h4 := Hown4.out
      rw [e9] at h4
      exact ⟨_, rfl, by rw [e5]; exact h4, HB2.out.trans (Hfr4.out.below hs2 (fun o ho i e => by simp at ho; subst ho; exact (Hl2.out.lt i e).1))⟩
end Go.Proofs.YtendohnkhbgfbaaDoor
/-
  The walks of leb.span, leb.GetU and of the reference's Span, Num.
-/
namespace Go.Proofs.YtendohnkhbgfbaaDoor
open Go.RowKit

set_option maxHeartbeats 1000000 in
set_option maxRecDepth 100000 in
theorem span_calls (A : Option Addr) (n c : Nat) (b : List Int) (w : World) (hR : Rd w .u8 A n b) (hn : n ≤ 1000000) :
    Calls Tryd.prog 36 #[.slice A n c] w fun e w' => ∃ (s : Nat) (f : Int), e = .returned (.tuple #[.int .i64 s, .int .i64 f]) ∧ Hid (IsSpan b s f) ∧ w' = w := by
  have HR := Lib.hid hR.2
  have Hl := Lib.hid hR.1
  clear hR
  go_enter Tryd.func36, Tryd.ntmps36
  go_wp2_with fail
  go_loopw [8] (fun i wr => ∃ k : Nat, k ≤ n ∧ k ≤ 9 ∧ i = .int .i64 k ∧ Hid (∀ i, i < k → 128 ≤ rd b i) ∧ wr = w) (fun i _ => n - (intOf i).toNat)
  case atStart => exact ⟨0, by omega, by omega, rfl, Lib.hid (fun i hi => by omega), rfl⟩
  case round =>
    obtain ⟨k, hk, hk9, rfl, HN, hw⟩ := hrel
    obtain ⟨W, hW⟩ : ∃ W, W = wr := ⟨_, rfl⟩
    rw [← hW] at hw ⊢
    subst hw
    clear hW
    by_cases hlt : k < n
    · obtain ⟨b0, o0, e0, hc⟩ := HR.out (by omega)
      subst e0
      have c0 := hc k hlt
      obtain ⟨x, hx⟩ : ∃ x, x = rd b k := ⟨_, rfl⟩
      rw [← hx] at c0
      have HX := Lib.hid hx
      clear hc hx
      by_cases h1 : x < 128
      · go_wp2_with fail
        refine bodyPost_ret (v := .tuple #[.int .i64 ((k : Int) + 1), .int .i64 0]) (by simp [results, Tryd.results36, go_sem]) rfl ?_
        refine ⟨k + 1, 0, by simp, .inl ⟨rfl, by omega, by omega, by rw [Hl.out]; omega, fun i hi => HN.out i (by omega), by rw [Nat.add_sub_cancel, ← HX.out]; exact h1⟩, rfl⟩
      · by_cases h9 : k = 9
        · subst h9
          go_wp2_with fail
          refine bodyPost_ret (v := .tuple #[.int .i64 0, .int .i64 3]) (by simp [results, Tryd.results36, go_sem]) rfl ?_
          refine ⟨0, 3, rfl, .inr (.inl ⟨rfl, rfl, by rw [Hl.out]; omega, fun i hi => ?_⟩), rfl⟩
          rcases Nat.lt_or_ge i 9 with g | g
          · exact HN.out i g
          · obtain rfl : i = 9 := by omega
            rw [← HX.out]; omega
        · have h9b : ((k : Int) == 9) = false := by simp; omega
          go_wp2_with fail
          go_roundw
          case rel =>
            refine ⟨k + 1, by omega, by omega, by go_num, Lib.hid (fun i hi => ?_), trivial⟩
            rcases Nat.lt_or_ge i k with g | g
            · exact HN.out i g
            · obtain rfl : i = k := by omega
              rw [← HX.out]; omega
          case measure => simp [intOf]; omega
    · obtain rfl : k = n := by omega
      go_wp2_with fail
      refine bodyPost_ret (v := .tuple #[.int .i64 0, .int .i64 2]) (by simp [results, Tryd.results36, go_sem]) rfl ?_
      exact ⟨0, 2, rfl, .inr (.inr ⟨rfl, rfl, by rw [Hl.out]; omega, by rw [Hl.out]; exact HN.out⟩), rfl⟩
set_option maxHeartbeats 1000000 in
set_option maxRecDepth 100000 in
theorem rSpan_calls (A : Option Addr) (n c : Nat) (b : List Int) (w : World) (hR : Rd w .u8 A n b) (hn : n ≤ 1000000) :
    Calls Tryd.prog 37 #[.slice A n c] w fun e w' => ∃ (s : Nat) (f : Int), e = .returned (.tuple #[.int .i64 s, .int .i64 f]) ∧ Hid (IsSpan b s f) ∧ w' = w := by
  have HR := Lib.hid hR.2
  have Hl := Lib.hid hR.1
  clear hR
  go_enter Tryd.func37, Tryd.ntmps37
  go_wp2_with fail
  go_loopw [4] (fun i wr => ∃ k : Nat, k ≤ n ∧ k ≤ 9 ∧ i = .int .i64 k ∧ Hid (∀ i, i < k → 128 ≤ rd b i) ∧ wr = w) (fun i _ => n - (intOf i).toNat)
  case atStart => exact ⟨0, by omega, by omega, rfl, Lib.hid (fun i hi => by omega), rfl⟩
  case round =>
    obtain ⟨k, hk, hk9, rfl, HN, hw⟩ := hrel
    obtain ⟨W, hW⟩ : ∃ W, W = wr := ⟨_, rfl⟩
    rw [← hW] at hw ⊢
    subst hw
    clear hW
    by_cases hlt : k < n
    · obtain ⟨b0, o0, e0, hc⟩ := HR.out (by omega)
      subst e0
      have c0 := hc k hlt
      obtain ⟨x, hx⟩ : ∃ x, x = rd b k := ⟨_, rfl⟩
      rw [← hx] at c0
      have HX := Lib.hid hx
      clear hc hx
      by_cases h1 : x < 128
      · go_wp2_with fail
        refine bodyPost_ret (v := .tuple #[.int .i64 ((k : Int) + 1), .int .i64 0]) (by simp [results, Tryd.results37, go_sem]) rfl ?_
        refine ⟨k + 1, 0, by simp, .inl ⟨rfl, by omega, by omega, by rw [Hl.out]; omega, fun i hi => HN.out i (by omega), by rw [Nat.add_sub_cancel, ← HX.out]; exact h1⟩, rfl⟩
      · by_cases h9 : k = 9
        · subst h9
          go_wp2_with fail
          refine bodyPost_ret (v := .tuple #[.int .i64 0, .int .i64 3]) (by simp [results, Tryd.results37, go_sem]) rfl ?_
          refine ⟨0, 3, rfl, .inr (.inl ⟨rfl, rfl, by rw [Hl.out]; omega, fun i hi => ?_⟩), rfl⟩
          rcases Nat.lt_or_ge i 9 with g | g
          · exact HN.out i g
          · obtain rfl : i = 9 := by omega
            rw [← HX.out]; omega
        · have h9b : ((k : Int) == 9) = false := by simp; omega
          go_wp2_with fail
          go_roundw
          case rel =>
            refine ⟨k + 1, by omega, by omega, by go_num, Lib.hid (fun i hi => ?_), trivial⟩
            rcases Nat.lt_or_ge i k with g | g
            · exact HN.out i g
            · obtain rfl : i = k := by omega
              rw [← HX.out]; omega
          case measure => simp [intOf]; omega
    · obtain rfl : k = n := by omega
      go_wp2_with fail
      refine bodyPost_ret (v := .tuple #[.int .i64 0, .int .i64 2]) (by simp [results, Tryd.results37, go_sem]) rfl ?_
      exact ⟨0, 2, rfl, .inr (.inr ⟨rfl, rfl, by rw [Hl.out]; omega, by rw [Hl.out]; exact HN.out⟩), rfl⟩
set_option maxHeartbeats 1000000 in
set_option maxRecDepth 100000 in
theorem GetU_calls (A : Option Addr) (n c : Nat) (b : List Int) (w : World) (hR : Rd w .u8 A n b) (hA : A = none → n = 0 ∧ c = 0) (hc : n ≤ c) (hb : ∀ x ∈ b, 0 ≤ x ∧ x ≤ 255) (hn : n ≤ 1000000) :
    Calls Tryd.prog 23 #[.slice A n c] w fun e w' => ∃ (v k : Nat) (f : Int), e = .returned (.tuple #[.int .u64 v, .int .i64 k, .int .i64 f]) ∧ Hid (IsGet b v k f) ∧ Below w.heap.size w w' := by
  have HR := Lib.hid hR
  have Hl := Lib.hid hR.1
  have Hb := Lib.hid hb
  clear hR hb
  go_enter Tryd.func23, Tryd.ntmps23
  go_wp2_with fail
  refine (span_calls A n c b w HR.out hn).mono ?_
  rintro e w' ⟨s, f, rfl, Hs, rfl⟩
  by_cases hf : f = 0
  · subst hf
    have hs10 : 1 ≤ s ∧ s ≤ 10 ∧ s ≤ n := by
      rcases Hs.out with ⟨_, h1, h2, h3, _⟩ | ⟨_, h, _⟩ | ⟨_, h, _⟩
      · rw [Hl.out] at h3; exact ⟨h1, h2, h3⟩
      · omega
      · omega
    obtain ⟨hs1, hs2, hs3⟩ := hs10
    obtain ⟨b0, o0, e0, hcell⟩ := HR.out.2 (by omega)
    subst e0
    have Hcell := Lib.hid hcell
    clear hcell
    go_wp2_with fail
    go_loopw [7, 22] (fun v i wr => ∃ k : Nat, k ≤ s ∧ i = .int .i64 k ∧ v = .int .u64 ((valB (b.take k) % 18446744073709551616 : Nat) : Int) ∧ wr = w') (fun _ i _ => s - (intOf i).toNat)
    case atStart => exact ⟨0, by omega, rfl, rfl, rfl⟩
    case round =>
      obtain ⟨k, hk, rfl, rfl, hw⟩ := hrel
      obtain ⟨W, hW⟩ : ∃ W, W = wr := ⟨_, rfl⟩
      rw [← hW] at hw ⊢
      subst hw
      clear hW
      obtain ⟨q, hq⟩ : ∃ q, q = valB (b.take k) % 18446744073709551616 := ⟨_, rfl⟩
      rw [← hq]
      have hq64 : q < 18446744073709551616 := by rw [hq]; exact Nat.mod_lt _ (by decide)
      have Hq := Lib.hid hq
      clear hq
      by_cases hlt : k < s
      · have c0 := Hcell.out k (by omega)
        obtain ⟨x, hx⟩ : ∃ x, x = rd b k := ⟨_, rfl⟩
        rw [← hx] at c0
        have HX := Lib.hid hx
        have hx255 : 0 ≤ x ∧ x ≤ 255 := by rw [hx, rd_getElem (by rw [Hl.out]; omega)]; exact Hb.out _ (List.getElem_mem _)
        obtain ⟨hx0, hx1⟩ := hx255
        clear hx
        have hst := step_val (b := b) (k := k) (by omega) (by rw [Hl.out]; omega) HX.out ⟨hx0, hx1⟩ Hq.out
        have Hst := Lib.hid hst
        clear hst
        go_wp2_with fail
        go_roundw
        case rel => exact ⟨k + 1, by omega, by go_num, by rw [Hst.out], trivial⟩
        case measure => simp [intOf]; omega
      · obtain rfl : k = s := by omega
        obtain ⟨x9, hx9⟩ : ∃ x, x = rd b (k - 1) := ⟨_, rfl⟩
        have c9 := Hcell.out (k - 1) (by omega)
        rw [← hx9] at c9
        have HX9 := Lib.hid hx9
        have h10 := lebU_10 (n := q) hq64
        obtain ⟨lq, hlq⟩ : ∃ l, l = (lebU q).length := ⟨_, rfl⟩
        rw [← hlq] at h10
        have Hlq := Lib.hid hlq
        clear hx9 hlq
        go_wp2_with fail
        refine (U_calls q _ hq64).mono ?_
        rintro e w2 ⟨v2, rfl, ho2, hb2⟩
        rw [← Hlq.out] at ho2
        obtain ⟨A2, c2, rfl⟩ := own_slice ho2
        have HB2 := Lib.hid hb2
        have c92 := kept_cell hb2 c9
        clear ho2 hb2 c9
        by_cases hl : lq = k
        · subst hl
          have hq1 : ((lq : Int) != lq) = false := by simp
          by_cases h9 : lq = 10
          · subst h9
            by_cases hx : 1 < x9
            · have hd9 : decide ((1 : Int) < x9) = true := decide_eq_true hx
              have hg := get_ten Hs.out (by rw [← HX9.out]; exact hx)
              have Hg := Lib.hid hg
              clear hg
              go_wp2_with fail
              refine bodyPost_ret (v := .tuple #[.int .u64 0, .int .i64 0, .int .i64 3]) (by simp [results, Tryd.results23, go_sem]) rfl ?_
              exact ⟨0, 0, 3, rfl, Hg.out, HB2.out⟩
            · have hd9 : decide ((1 : Int) < x9) = false := decide_eq_false hx
              have hg := get_some Hb.out Hs.out Hq.out Hlq.out.symm (fun _ => by rw [← HX9.out]; omega)
              have Hg := Lib.hid hg
              clear hg
              go_wp2_with fail
              refine bodyPost_ret (v := .tuple #[.int .u64 q, .int .i64 10, .int .i64 0]) (by simp [results, Tryd.results23, go_sem]) rfl ?_
              exact ⟨q, 10, 0, rfl, Hg.out, HB2.out⟩
          · have h9b : ((lq : Int) == 10) = false := by simp; omega
            have hg := get_some Hb.out Hs.out Hq.out Hlq.out.symm (fun h => absurd h h9)
            have Hg := Lib.hid hg
            clear hg
            go_wp2_with fail
            refine bodyPost_ret (v := .tuple #[.int .u64 q, .int .i64 lq, .int .i64 0]) (by simp [results, Tryd.results23, go_sem]) rfl ?_
            exact ⟨q, lq, 0, rfl, Hg.out, HB2.out⟩
        · have hlb : ((lq : Int) != k) = true := by simp; omega
          have hg := get_none Hs.out Hq.out (fun e => hl (by rw [Hlq.out]; exact e))
          have Hg := Lib.hid hg
          clear hg
          go_wp2_with fail
          refine bodyPost_ret (v := .tuple #[.int .u64 0, .int .i64 0, .int .i64 3]) (by simp [results, Tryd.results23, go_sem]) rfl ?_
          exact ⟨0, 0, 3, rfl, Hg.out, HB2.out⟩
  · have hfb : (f == 0) = false := by simpa using hf
    go_wp2_with fail
    refine bodyPost_ret (v := .tuple #[.int .u64 0, .int .i64 0, .int .i64 f]) (by simp [results, Tryd.results23, go_sem]) rfl ?_
    exact ⟨0, 0, f, rfl, get_err Hs.out hf, Below.refl _ _⟩
end Go.Proofs.YtendohnkhbgfbaaDoor
