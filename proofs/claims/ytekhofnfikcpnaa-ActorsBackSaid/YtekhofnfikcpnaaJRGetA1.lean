/-
  Texts joined into one file: SpanP, SpanQ, ReadsP, GetW, TextW, GetA.
-/
import Derived.Test.YtekhofnfikcpnaaJPutA1
import Derived.Test.YtekhofnfikcpnaaJAw181
import Derived.Test.YtekhofnfikcpnaaJAw182
import Derived.Deep.RegionWith
import Derived.Deep.QuietTactic
import Derived.BigQuiet
import Derived.Deep.Cut
import Derived.Sort.Walk0
import Derived.Deep.CutRange
import Derived.Deep.CutBlock
/-
  Reading numbers in digits of seven bits (no program).
-/
namespace Go.Proofs.Ytekhofnfikcpnaa
open Go.RowKit

/-- How many bytes a number at the beginning has, or why there is none. -/
def IsSpan (b : List Int) (k : Nat) (e : Int) : Prop :=
  (e = 0 ∧ 1 ≤ k ∧ k ≤ 10 ∧ k ≤ b.length ∧ (∀ i, i + 1 < k → 128 ≤ rd b i) ∧ rd b (k - 1) < 128) ∨
  (k = 0 ∧ e = 3 ∧ 10 ≤ b.length ∧ ∀ i, i < 10 → 128 ≤ rd b i) ∨ (k = 0 ∧ e = 2 ∧ b.length < 10 ∧ ∀ i, i < b.length → 128 ≤ rd b i)
theorem IsSpan.same {b : List Int} {k k' : Nat} {e e' : Int} (h : IsSpan b k e) (g : IsSpan b k' e') : k = k' ∧ e = e' := by
  rcases h with ⟨rfl, h1, h2, h3, h4, h5⟩ | ⟨rfl, rfl, h1, h2⟩ | ⟨rfl, rfl, h1, h2⟩ <;>
    rcases g with ⟨rfl, g1, g2, g3, g4, g5⟩ | ⟨rfl, rfl, g1, g2⟩ | ⟨rfl, rfl, g1, g2⟩
  · refine ⟨?_, rfl⟩
    rcases Nat.lt_trichotomy k k' with e | e | e
    · have := g4 (k - 1) (by omega); omega
    · exact e
    · have := h4 (k' - 1) (by omega); omega
  · have := g2 (k - 1) (by omega); omega
  · have := g2 (k - 1) (by omega); omega
  · have := h2 (k' - 1) (by omega); omega
  · exact ⟨rfl, rfl⟩
  · omega
  · have := h2 (k' - 1) (by omega); omega
  · omega
  · exact ⟨rfl, rfl⟩
/-- The number that digits tell. -/
def valB : List Int → Nat
  | [] => 0
  | x :: l => (x % 128).toNat + 128 * valB l
theorem valB_app (a b : List Int) : valB (a ++ b) = valB a + 128 ^ a.length * valB b := by
  induction a with
  | nil => simp [valB]
  | cons x a ih =>
    rw [List.cons_append, valB, valB, ih, List.length_cons, Nat.pow_succ, Nat.mul_add, Nat.add_assoc, Nat.mul_left_comm, Nat.mul_assoc]
theorem valB_lt (a : List Int) : valB a < 128 ^ a.length := by
  induction a with
  | nil => simp [valB]
  | cons x a ih =>
    rw [valB, List.length_cons, Nat.pow_succ]
    have : (x % 128).toNat < 128 := by omega
    omega
theorem valB_leb : ∀ n : Nat, valB (lebU n) = n := by
  intro n
  induction n using Nat.strongRecOn with
  | ind n ih =>
    by_cases h : n < 128
    · rw [lebU_last h]
      simp [valB]
      omega
    · rw [lebU_more h, valB, ih (n / 128) (by omega)]
      omega
theorem leb_inj {n m : Nat} (h : lebU n = lebU m) : n = m := by rw [← valB_leb n, h, valB_leb]
theorem leb_of : ∀ (b : List Int), (∀ x ∈ b, 0 ≤ x ∧ x ≤ 255) → 1 ≤ b.length → (∀ i, i + 1 < b.length → 128 ≤ rd b i) → rd b (b.length - 1) < 128 → (lebU (valB b)).length = b.length → lebU (valB b) = b := by
  intro b
  induction b with
  | nil => intro _ h; simp at h
  | cons x b ih =>
    intro hb _ h1 h2 h3
    have hx := hb x (List.mem_cons_self ..)
    cases b with
    | nil =>
      have hx2 : x < 128 := h2
      have e : valB [x] = x.toNat := by simp [valB]; omega
      rw [e, lebU_last (by omega)]
      congr 1
      omega
    | cons y b =>
      have hx1 : 128 ≤ x := h1 0 (by simp)
      by_cases hn : valB (x :: y :: b) < 128
      · rw [lebU_last hn] at h3
        simp at h3
      · rw [lebU_more hn] at h3 ⊢
        have ed : valB (x :: y :: b) / 128 = valB (y :: b) := by rw [valB]; omega
        have em : valB (x :: y :: b) % 128 = (x % 128).toNat := by rw [valB]; omega
        rw [ed] at h3 ⊢
        rw [em, ih (fun z hz => hb z (List.mem_cons_of_mem _ hz)) (by simp) (fun i hi => h1 (i + 1) (by simp at hi ⊢; omega)) (show rd (y :: b) ((y :: b).length - 1) < 128 from h2) (by simpa using h3)]
        congr 1
        omega
theorem leb_last : ∀ n : Nat, rd (lebU n) ((lebU n).length - 1) < 128 ∧ ∀ i, i + 1 < (lebU n).length → 128 ≤ rd (lebU n) i := by
  intro n
  induction n using Nat.strongRecOn with
  | ind n ih =>
    by_cases h : n < 128
    · rw [lebU_last h]
      exact ⟨by show (n : Int) < 128; omega, fun i hi => by simp at hi⟩
    · obtain ⟨h1, h2⟩ := ih (n / 128) (by omega)
      rw [lebU_more h]
      have hl : 1 ≤ (lebU (n / 128)).length := by
        by_cases h9 : n / 128 < 128
        · rw [lebU_last h9]; simp
        · rw [lebU_more h9]; simp
      obtain ⟨q, hq⟩ : ∃ q, (lebU (n / 128)).length = q + 1 := ⟨_, (Nat.sub_add_cancel hl).symm⟩
      rw [hq] at h1 h2
      constructor
      · rw [List.length_cons, hq]
        exact h1
      · intro i hi
        cases i with
        | zero => show (128 : Int) ≤ ((n % 128 + 128 : Nat) : Int); omega
        | succ i => exact h2 i (by rw [List.length_cons, hq] at hi; omega)
theorem leb_ten {n : Nat} (hn : n < 18446744073709551616) (hl : (lebU n).length = 10) : rd (lebU n) 9 ≤ 1 := by
  have h1 := (leb_last n).1
  rw [hl] at h1
  have h1 : rd (lebU n) 9 < 128 := h1
  have e : lebU n = (lebU n).take 9 ++ [rd (lebU n) 9] := by
    have h := List.take_append_drop 9 (lebU n)
    rw [List.drop_eq_getElem_cons (by omega), List.drop_of_length_le (by omega)] at h
    rw [rd_getElem (by omega)]
    exact h.symm
  have hv := valB_leb n
  rw [e, valB_app, List.length_take, hl] at hv
  have hb := lebU_byte n (rd (lebU n) 9) (by rw [rd_getElem (by omega)]; exact List.getElem_mem _)
  have e9 : valB [rd (lebU n) 9] = (rd (lebU n) 9).toNat := by simp [valB]; omega
  rw [e9] at hv
  have : (128 : Nat) ^ min 9 10 = 9223372036854775808 := by decide
  rw [this] at hv
  omega
/-- What reading a number tells: the number, how many bytes, or why there is none. -/
def IsGet (b : List Int) (n k : Nat) (e : Int) : Prop :=
  ∃ s f, IsSpan b s f ∧ ((f ≠ 0 ∧ n = 0 ∧ k = 0 ∧ e = f) ∨ (f = 0 ∧ n < 18446744073709551616 ∧ lebU n = b.take s ∧ k = s ∧ e = 0) ∨ (f = 0 ∧ (∀ m, m < 18446744073709551616 → lebU m ≠ b.take s) ∧ n = 0 ∧ k = 0 ∧ e = 3))
theorem IsGet.same {b : List Int} {n k n' k' : Nat} {e e' : Int} (h : IsGet b n k e) (g : IsGet b n' k' e') : n = n' ∧ k = k' ∧ e = e' := by
  obtain ⟨s, f, h0, h⟩ := h
  obtain ⟨s', f', g0, g⟩ := g
  obtain ⟨rfl, rfl⟩ := h0.same g0
  rcases h with ⟨h1, rfl, rfl, rfl⟩ | ⟨rfl, h1, h2, rfl, rfl⟩ | ⟨rfl, h1, rfl, rfl, rfl⟩ <;>
    rcases g with ⟨g1, rfl, rfl, rfl⟩ | ⟨g9, g1, g2, rfl, rfl⟩ | ⟨g9, g1, rfl, rfl, rfl⟩
  · exact ⟨rfl, rfl, rfl⟩
  · exact absurd g9 h1
  · exact absurd g9 h1
  · exact absurd rfl g1
  · exact ⟨leb_inj (h2.trans g2.symm), rfl, rfl⟩
  · exact absurd h2 (g1 _ h1)
  · exact absurd rfl g1
  · exact absurd g2 (h1 _ g1)
  · exact ⟨rfl, rfl, rfl⟩
end Go.Proofs.Ytekhofnfikcpnaa
/-
  What GetU reckons (no program).
-/
namespace Go.Proofs.Ytekhofnfikcpnaa
open Go.RowKit

set_option maxRecDepth 100000 in
theorem and127f : ∀ y : Fin 256, bits .and .u8 ((y.val : Nat) : Int) 127 = ((y.val % 128 : Nat) : Int) := by decide +kernel
theorem and_127 {y : Int} (h : 0 ≤ y ∧ y ≤ 255) : bits .and .u8 y 127 = y % 128 := by
  have := and127f ⟨y.toNat, by omega⟩
  simp only at this
  rw [show ((y.toNat : Nat) : Int) = y by omega] at this
  rw [this]
  omega
theorem or_comm64 (a b : Int) : bits .or .u64 a b = bits .or .u64 b a := by simp only [bits, BitVec.or_comm]
theorem wraps64 (n : Int) (h0 : 0 ≤ n) (h1 : n < 2 ^ 64) : IntKind.u64.wrap n = n := by rw [IntKind.wrap_u64]; omega
theorem or_step {k : Nat} (hk : k ≤ 9) {q : Nat} (hq : q < 128 ^ k) {y : Int} (hy : 0 ≤ y ∧ y < 128) : bits .or .u64 q (IntKind.u64.wrap (IntKind.u64.wrap y * 2 ^ (7 * k))) = (((q + 128 ^ k * y.toNat) % 18446744073709551616 : Nat) : Int) := by
  rw [or_comm64, wraps64 y hy.1 (by omega)]
  have hw : IntKind.u64.wrap (y * 2 ^ (7 * k)) = (y * 2 ^ (7 * k)) % 18446744073709551616 := by rw [IntKind.wrap_u64]
  rw [hw]
  rcases (show k = 0 ∨ k = 1 ∨ k = 2 ∨ k = 3 ∨ k = 4 ∨ k = 5 ∨ k = 6 ∨ k = 7 ∨ k = 8 ∨ k = 9 by omega) with rfl | rfl | rfl | rfl | rfl | rfl | rfl | rfl | rfl | rfl
  · simp only [Nat.mul_zero, Int.pow_zero, Nat.pow_zero] at *
    rw [bits_join .u64 64 (by decide) wraps64 0 _ _ (by omega) (by omega) (by omega) (by omega) (by omega) (by omega)]
    omega
  all_goals
    simp only [Nat.reduceMul, Int.reducePow, Nat.reducePow] at *
  · rw [bits_join .u64 64 (by decide) wraps64 7 _ _ (by omega) (by omega) (by omega) (by omega) (by omega) (by omega)]; omega
  · rw [bits_join .u64 64 (by decide) wraps64 14 _ _ (by omega) (by omega) (by omega) (by omega) (by omega) (by omega)]; omega
  · rw [bits_join .u64 64 (by decide) wraps64 21 _ _ (by omega) (by omega) (by omega) (by omega) (by omega) (by omega)]; omega
  · rw [bits_join .u64 64 (by decide) wraps64 28 _ _ (by omega) (by omega) (by omega) (by omega) (by omega) (by omega)]; omega
  · rw [bits_join .u64 64 (by decide) wraps64 35 _ _ (by omega) (by omega) (by omega) (by omega) (by omega) (by omega)]; omega
  · rw [bits_join .u64 64 (by decide) wraps64 42 _ _ (by omega) (by omega) (by omega) (by omega) (by omega) (by omega)]; omega
  · rw [bits_join .u64 64 (by decide) wraps64 49 _ _ (by omega) (by omega) (by omega) (by omega) (by omega) (by omega)]; omega
  · rw [bits_join .u64 64 (by decide) wraps64 56 _ _ (by omega) (by omega) (by omega) (by omega) (by omega) (by omega)]; omega
  · rw [bits_join .u64 64 (by decide) wraps64 63 _ _ (by omega) (by omega) (by omega) (by omega) (by omega) (by omega)]; omega
theorem take_rdl {l : List Int} {k j : Nat} (h : j < k) : rd (l.take k) j = rd l j := by
  unfold rd
  rw [List.getD_eq_getElem?_getD, List.getD_eq_getElem?_getD, List.getElem?_take_of_lt h]
theorem take_rdn {b : List Int} {k : Nat} (h : k < b.length) : b.take (k + 1) = b.take k ++ [rd b k] := by
  rw [List.take_succ_eq_append_getElem h, rd_getElem h]
theorem valB_next {b : List Int} {k : Nat} (h : k < b.length) : valB (b.take (k + 1)) = valB (b.take k) + 128 ^ k * (rd b k % 128).toNat := by
  rw [take_rdn h, valB_app, List.length_take, Nat.min_eq_left (by omega)]
  simp [valB]
theorem pow9 {k : Nat} (h : k ≤ 9) : 128 ^ k ≤ 9223372036854775808 := Nat.le_trans (Nat.pow_le_pow_right (by decide) h) (by decide)
theorem valB_take_lt (b : List Int) (k : Nat) : valB (b.take k) < 128 ^ k := Nat.lt_of_lt_of_le (valB_lt _) (Nat.pow_le_pow_right (by decide) (by rw [List.length_take]; omega))
theorem step_val {b : List Int} {k : Nat} (hk : k ≤ 9) (h : k < b.length) {x : Int} (hx : x = rd b k) (hx0 : 0 ≤ x ∧ x ≤ 255) {q : Nat} (hq : q = valB (b.take k) % 18446744073709551616) :
    bits .or .u64 q (IntKind.u64.wrap (IntKind.u64.wrap (bits .and .u8 x 127) * 2 ^ (7 * k))) = ((valB (b.take (k + 1)) % 18446744073709551616 : Nat) : Int) := by
  have h1 := valB_take_lt b k
  have h2 := pow9 hk
  have h3 : valB (b.take k) % 18446744073709551616 = valB (b.take k) := Nat.mod_eq_of_lt (by omega)
  rw [hq, h3, and_127 hx0, or_step hk h1 (by omega), valB_next h, hx]
theorem get_none {b : List Int} {s q : Nat} (hs : IsSpan b s 0) (hq : q = valB (b.take s) % 18446744073709551616) (hl : (lebU q).length ≠ s) : IsGet b 0 0 3 := by
  refine ⟨s, 0, hs, .inr (.inr ⟨rfl, fun m hm e => hl ?_, rfl, rfl, rfl⟩)⟩
  have hv := valB_leb m
  rw [e] at hv
  have : q = m := by rw [hq, hv]; exact Nat.mod_eq_of_lt hm
  rw [this, e, List.length_take]
  rcases hs with ⟨_, _, _, h, _⟩ | ⟨_, h, _⟩ | ⟨_, h, _⟩
  · omega
  · omega
  · omega
theorem get_ten {b : List Int} (hs : IsSpan b 10 0) (h9 : 1 < rd b 9) : IsGet b 0 0 3 := by
  refine ⟨10, 0, hs, .inr (.inr ⟨rfl, fun m hm e => ?_, rfl, rfl, rfl⟩)⟩
  have hbl : 10 ≤ b.length := by
    rcases hs with ⟨_, _, _, h, _⟩ | ⟨_, h, _⟩ | ⟨_, h, _⟩ <;> omega
  have hl : (lebU m).length = 10 := by rw [e, List.length_take]; omega
  have h := leb_ten hm hl
  rw [e, take_rdl (by omega)] at h
  omega
theorem get_some {b : List Int} {s q : Nat} (hb : ∀ x ∈ b, 0 ≤ x ∧ x ≤ 255) (hs : IsSpan b s 0) (hq : q = valB (b.take s) % 18446744073709551616) (hl : (lebU q).length = s) (h9 : s = 10 → rd b 9 ≤ 1) : IsGet b q s 0 := by
  have hs' := hs
  rcases hs with ⟨_, h1, h2, h3, h4, h5⟩ | ⟨_, h, _⟩ | ⟨_, h, _⟩
  · have hV : valB (b.take s) < 18446744073709551616 := by
      by_cases h10 : s = 10
      · subst h10
        rw [valB_next (by omega)]
        have := valB_take_lt b 9
        have e : (128 : Nat) ^ 9 = 9223372036854775808 := by decide
        rw [e] at this ⊢
        have := h9 rfl
        have h0 := hb (rd b 9) (by rw [rd_getElem (by omega)]; exact List.getElem_mem _)
        omega
      · have := valB_take_lt b s
        have := pow9 (k := s) (by omega)
        omega
    have hqV : q = valB (b.take s) := by rw [hq]; exact Nat.mod_eq_of_lt hV
    have htl : (b.take s).length = s := by rw [List.length_take]; omega
    refine ⟨s, 0, hs', .inr (.inl ⟨rfl, by omega, ?_, rfl, rfl⟩)⟩
    rw [hqV]
    refine leb_of _ (fun x hx => hb x (List.mem_of_mem_take hx)) (by omega) (fun i hi => ?_) ?_ (by rw [htl, ← hqV, hl])
    · rw [take_rdl (by omega)]; exact h4 i (by omega)
    · rw [htl, take_rdl (by omega)]; exact h5
  · omega
  · omega
theorem get_err {b : List Int} {s : Nat} {f : Int} (hs : IsSpan b s f) (hf : f ≠ 0) : IsGet b 0 0 f := ⟨s, f, hs, .inl ⟨hf, rfl, rfl, rfl⟩⟩
end Go.Proofs.Ytekhofnfikcpnaa
/-
  What reading a table tells (no program).
-/
namespace Go.Proofs.Ytekhofnfikcpnaa
open Go.RowKit

/-- The text of so many bytes from a place on. -/
def textAt (b : List Int) (p v : Nat) : ByteArray := strOfNums ((b.drop p).take v)
/-- No name that may come next. -/
def BadNm (au : ByteArray) (out : List ByteArray) (a : ByteArray) : Prop := a = au ∨ (1 < out.length ∧ ¬ ltB (str out (out.length - 1)) a)
inductive Reads (au : ByteArray) (b : List Int) : Nat → Nat → List ByteArray → List ByteArray → Nat → Int → Prop
  | done (p : Nat) (out : List ByteArray) : Reads au b 0 p out out p 0
  | num {m p v k : Nat} {f : Int} {out : List ByteArray} : IsGet (b.drop p) v k f → f ≠ 0 → Reads au b (m + 1) p out [] 0 f
  | long {m p v k : Nat} {out : List ByteArray} : IsGet (b.drop p) v k 0 → (v < 1 ∨ 16 < v) → Reads au b (m + 1) p out [] 0 4
  | short {m p v k : Nat} {out : List ByteArray} : IsGet (b.drop p) v k 0 → 1 ≤ v → v ≤ 16 → b.length < p + k + v → Reads au b (m + 1) p out [] 0 2
  | form {m p v k : Nat} {out : List ByteArray} : IsGet (b.drop p) v k 0 → 1 ≤ v → v ≤ 16 → p + k + v ≤ b.length → BadNm au out (textAt b (p + k) v) → Reads au b (m + 1) p out [] 0 3
  | next {m p v k : Nat} {out T : List ByteArray} {q : Nat} {e : Int} : IsGet (b.drop p) v k 0 → 1 ≤ v → v ≤ 16 → p + k + v ≤ b.length → ¬ BadNm au out (textAt b (p + k) v) →
      Reads au b m (p + k + v) (out ++ [textAt b (p + k) v]) T q e → Reads au b (m + 1) p out T q e
theorem Reads.same {au : ByteArray} {b : List Int} {m p : Nat} {out T T' : List ByteArray} {q q' : Nat} {e e' : Int} (h : Reads au b m p out T q e) (g : Reads au b m p out T' q' e') : T = T' ∧ q = q' ∧ e = e' := by
  induction h with
  | done p out => cases g; exact ⟨rfl, rfl, rfl⟩
  | num h1 h2 =>
    cases g with
    | num g1 g2 => exact ⟨rfl, rfl, (h1.same g1).2.2⟩
    | long g1 => exact absurd (h1.same g1).2.2 h2
    | short g1 => exact absurd (h1.same g1).2.2 h2
    | form g1 => exact absurd (h1.same g1).2.2 h2
    | next g1 => exact absurd (h1.same g1).2.2 h2
  | long h1 h2 =>
    cases g with
    | num g1 g2 => exact absurd (h1.same g1).2.2.symm g2
    | long g1 => exact ⟨rfl, rfl, rfl⟩
    | short g1 g2 g3 => have := (h1.same g1).1; omega
    | form g1 g2 g3 => have := (h1.same g1).1; omega
    | next g1 g2 g3 => have := (h1.same g1).1; omega
  | short h1 h2 h3 h4 =>
    cases g with
    | num g1 g2 => exact absurd (h1.same g1).2.2.symm g2
    | long g1 g2 => have := (h1.same g1).1; omega
    | short g1 => exact ⟨rfl, rfl, rfl⟩
    | form g1 g2 g3 g4 => have := h1.same g1; omega
    | next g1 g2 g3 g4 => have := h1.same g1; omega
  | form h1 h2 h3 h4 h5 =>
    cases g with
    | num g1 g2 => exact absurd (h1.same g1).2.2.symm g2
    | long g1 g2 => have := (h1.same g1).1; omega
    | short g1 g2 g3 g4 => have := h1.same g1; omega
    | form g1 => exact ⟨rfl, rfl, rfl⟩
    | next g1 g2 g3 g4 g5 =>
      obtain ⟨rfl, rfl, _⟩ := h1.same g1
      exact absurd h5 g5
  | next h1 h2 h3 h4 h5 _ ih =>
    cases g with
    | num g1 g2 => exact absurd (h1.same g1).2.2.symm g2
    | long g1 g2 => have := (h1.same g1).1; omega
    | short g1 g2 g3 g4 => have := h1.same g1; omega
    | form g1 g2 g3 g4 g5 =>
      obtain ⟨rfl, rfl, _⟩ := h1.same g1
      exact absurd g5 h5
    | next g1 g2 g3 g4 g5 g6 =>
      obtain ⟨rfl, rfl, _⟩ := h1.same g1
      exact ih g6
def IsTab (au : ByteArray) (b : List Int) (T : List ByteArray) (p : Nat) (e : Int) : Prop :=
  ∃ n k f, IsGet b n k f ∧ ((f ≠ 0 ∧ T = [] ∧ p = 0 ∧ e = f) ∨ (f = 0 ∧ Reads au b n k [au] T p e))
theorem IsTab.same {au : ByteArray} {b : List Int} {T T' : List ByteArray} {p p' : Nat} {e e' : Int} (h : IsTab au b T p e) (g : IsTab au b T' p' e') : T = T' ∧ p = p' ∧ e = e' := by
  obtain ⟨n, k, f, h1, h2⟩ := h
  obtain ⟨n', k', f', g1, g2⟩ := g
  obtain ⟨rfl, rfl, rfl⟩ := h1.same g1
  rcases h2 with ⟨h3, rfl, rfl, rfl⟩ | ⟨h3, h4⟩ <;> rcases g2 with ⟨g3, rfl, rfl, rfl⟩ | ⟨g3, g4⟩
  · exact ⟨rfl, rfl, rfl⟩
  · exact absurd g3 h3
  · exact absurd h3 g3
  · exact h4.same g4
theorem isGet_rng {b : List Int} {n k : Nat} (h : IsGet b n k 0) : 1 ≤ k ∧ k ≤ 10 ∧ k ≤ b.length ∧ n < 18446744073709551616 := by
  obtain ⟨s, f, h0, h⟩ := h
  rcases h with ⟨h1, _, _, h2⟩ | ⟨rfl, h1, _, rfl, _⟩ | ⟨_, _, _, _, h⟩
  · exact absurd h2.symm h1
  · rcases h0 with ⟨_, q1, q2, q3, _⟩ | ⟨_, q, _⟩ | ⟨_, q, _⟩
    · exact ⟨q1, q2, q3, h1⟩
    · omega
    · omega
  · omega
end Go.Proofs.Ytekhofnfikcpnaa
/-
  The walks of leb.span, leb.GetU and of the reference's Span, Num.
-/
namespace Go.Proofs.Ytekhofnfikcpnaa
open Go.RowKit

set_option maxHeartbeats 1000000 in
set_option maxRecDepth 100000 in
theorem span_calls (A : Option Addr) (n c : Nat) (b : List Int) (w : World) (hR : Rd w .u8 A n b) (hn : n ≤ 1000000) :
    Calls Try.prog 55 #[.slice A n c] w fun e w' => ∃ (s : Nat) (f : Int), e = .returned (.tuple #[.int .i64 s, .int .i64 f]) ∧ Hid (IsSpan b s f) ∧ w' = w := by
  have HR := Lib.hid hR.2
  have Hl := Lib.hid hR.1
  clear hR
  go_enter Try.func55, Try.ntmps55
  go_wp2_with fail
  go_loopw [8] (fun i wr => ∃ k : Nat, k ≤ n ∧ k ≤ 9 ∧ i = .int .i64 k ∧ Hid (∀ i, i < k → 128 ≤ rd b i) ∧ wr = w) (fun i _ => n - (intOf i).toNat)
  case atStart => exact ⟨0, by omega, by omega, rfl, Lib.hid (fun i hi => by omega), rfl⟩
  case round =>
    obtain ⟨k, hk, hk9, rfl, HN, hw⟩ := hrel
    obtain ⟨W, hW⟩ : ∃ W, W = wr := ⟨_, rfl⟩
    rw [← hW] at hw ⊢
    subst hw
    clear hW
    by_cases hlt : k < n
    · obtain ⟨b0, o0, e0, hc⟩ := HR.out (by omega)
      subst e0
      have c0 := hc k hlt
      obtain ⟨x, hx⟩ : ∃ x, x = rd b k := ⟨_, rfl⟩
      rw [← hx] at c0
      have HX := Lib.hid hx
      clear hc hx
      by_cases h1 : x < 128
      · go_wp2_with fail
        refine bodyPost_ret (v := .tuple #[.int .i64 ((k : Int) + 1), .int .i64 0]) (by simp [results, Try.results55, go_sem]) rfl ?_
        refine ⟨k + 1, 0, by simp, .inl ⟨rfl, by omega, by omega, by rw [Hl.out]; omega, fun i hi => HN.out i (by omega), by rw [Nat.add_sub_cancel, ← HX.out]; exact h1⟩, rfl⟩
      · by_cases h9 : k = 9
        · subst h9
          go_wp2_with fail
          refine bodyPost_ret (v := .tuple #[.int .i64 0, .int .i64 3]) (by simp [results, Try.results55, go_sem]) rfl ?_
          refine ⟨0, 3, rfl, .inr (.inl ⟨rfl, rfl, by rw [Hl.out]; omega, fun i hi => ?_⟩), rfl⟩
          rcases Nat.lt_or_ge i 9 with g | g
          · exact HN.out i g
          · obtain rfl : i = 9 := by omega
            rw [← HX.out]; omega
        · have h9b : ((k : Int) == 9) = false := by simp; omega
          go_wp2_with fail
          go_roundw
          case rel =>
            refine ⟨k + 1, by omega, by omega, by go_num, Lib.hid (fun i hi => ?_), trivial⟩
            rcases Nat.lt_or_ge i k with g | g
            · exact HN.out i g
            · obtain rfl : i = k := by omega
              rw [← HX.out]; omega
          case measure => simp [intOf]; omega
    · obtain rfl : k = n := by omega
      go_wp2_with fail
      refine bodyPost_ret (v := .tuple #[.int .i64 0, .int .i64 2]) (by simp [results, Try.results55, go_sem]) rfl ?_
      exact ⟨0, 2, rfl, .inr (.inr ⟨rfl, rfl, by rw [Hl.out]; omega, by rw [Hl.out]; exact HN.out⟩), rfl⟩
set_option maxHeartbeats 1000000 in
set_option maxRecDepth 100000 in
theorem rSpan_calls (A : Option Addr) (n c : Nat) (b : List Int) (w : World) (hR : Rd w .u8 A n b) (hn : n ≤ 1000000) :
    Calls Try.prog 56 #[.slice A n c] w fun e w' => ∃ (s : Nat) (f : Int), e = .returned (.tuple #[.int .i64 s, .int .i64 f]) ∧ Hid (IsSpan b s f) ∧ w' = w := by
  have HR := Lib.hid hR.2
  have Hl := Lib.hid hR.1
  clear hR
  go_enter Try.func56, Try.ntmps56
  go_wp2_with fail
  go_loopw [4] (fun i wr => ∃ k : Nat, k ≤ n ∧ k ≤ 9 ∧ i = .int .i64 k ∧ Hid (∀ i, i < k → 128 ≤ rd b i) ∧ wr = w) (fun i _ => n - (intOf i).toNat)
  case atStart => exact ⟨0, by omega, by omega, rfl, Lib.hid (fun i hi => by omega), rfl⟩
  case round =>
    obtain ⟨k, hk, hk9, rfl, HN, hw⟩ := hrel
    obtain ⟨W, hW⟩ : ∃ W, W = wr := ⟨_, rfl⟩
    rw [← hW] at hw ⊢
    subst hw
    clear hW
    by_cases hlt : k < n
    · obtain ⟨b0, o0, e0, hc⟩ := HR.out (by omega)
      subst e0
      have c0 := hc k hlt
      obtain ⟨x, hx⟩ : ∃ x, x = rd b k := ⟨_, rfl⟩
      rw [← hx] at c0
      have HX := Lib.hid hx
      clear hc hx
      by_cases h1 : x < 128
      · go_wp2_with fail
        refine bodyPost_ret (v := .tuple #[.int .i64 ((k : Int) + 1), .int .i64 0]) (by simp [results, Try.results56, go_sem]) rfl ?_
        refine ⟨k + 1, 0, by simp, .inl ⟨rfl, by omega, by omega, by rw [Hl.out]; omega, fun i hi => HN.out i (by omega), by rw [Nat.add_sub_cancel, ← HX.out]; exact h1⟩, rfl⟩
      · by_cases h9 : k = 9
        · subst h9
          go_wp2_with fail
          refine bodyPost_ret (v := .tuple #[.int .i64 0, .int .i64 3]) (by simp [results, Try.results56, go_sem]) rfl ?_
          refine ⟨0, 3, rfl, .inr (.inl ⟨rfl, rfl, by rw [Hl.out]; omega, fun i hi => ?_⟩), rfl⟩
          rcases Nat.lt_or_ge i 9 with g | g
          · exact HN.out i g
          · obtain rfl : i = 9 := by omega
            rw [← HX.out]; omega
        · have h9b : ((k : Int) == 9) = false := by simp; omega
          go_wp2_with fail
          go_roundw
          case rel =>
            refine ⟨k + 1, by omega, by omega, by go_num, Lib.hid (fun i hi => ?_), trivial⟩
            rcases Nat.lt_or_ge i k with g | g
            · exact HN.out i g
            · obtain rfl : i = k := by omega
              rw [← HX.out]; omega
          case measure => simp [intOf]; omega
    · obtain rfl : k = n := by omega
      go_wp2_with fail
      refine bodyPost_ret (v := .tuple #[.int .i64 0, .int .i64 2]) (by simp [results, Try.results56, go_sem]) rfl ?_
      exact ⟨0, 2, rfl, .inr (.inr ⟨rfl, rfl, by rw [Hl.out]; omega, by rw [Hl.out]; exact HN.out⟩), rfl⟩
set_option maxHeartbeats 1000000 in
set_option maxRecDepth 100000 in
theorem GetU_calls (A : Option Addr) (n c : Nat) (b : List Int) (w : World) (hR : Rd w .u8 A n b) (hA : A = none → n = 0 ∧ c = 0) (hc : n ≤ c) (hb : ∀ x ∈ b, 0 ≤ x ∧ x ≤ 255) (hn : n ≤ 1000000) :
    Calls Try.prog 34 #[.slice A n c] w fun e w' => ∃ (v k : Nat) (f : Int), e = .returned (.tuple #[.int .u64 v, .int .i64 k, .int .i64 f]) ∧ Hid (IsGet b v k f) ∧ Below w.heap.size w w' := by
  have HR := Lib.hid hR
  have Hl := Lib.hid hR.1
  have Hb := Lib.hid hb
  clear hR hb
  go_enter Try.func34, Try.ntmps34
  go_wp2_with fail
  refine (span_calls A n c b w HR.out hn).mono ?_
  rintro e w' ⟨s, f, rfl, Hs, rfl⟩
  by_cases hf : f = 0
  · subst hf
    have hs10 : 1 ≤ s ∧ s ≤ 10 ∧ s ≤ n := by
      rcases Hs.out with ⟨_, h1, h2, h3, _⟩ | ⟨_, h, _⟩ | ⟨_, h, _⟩
      · rw [Hl.out] at h3; exact ⟨h1, h2, h3⟩
      · omega
      · omega
    obtain ⟨hs1, hs2, hs3⟩ := hs10
    obtain ⟨b0, o0, e0, hcell⟩ := HR.out.2 (by omega)
    subst e0
    have Hcell := Lib.hid hcell
    clear hcell
    go_wp2_with fail
    go_loopw [7, 22] (fun v i wr => ∃ k : Nat, k ≤ s ∧ i = .int .i64 k ∧ v = .int .u64 ((valB (b.take k) % 18446744073709551616 : Nat) : Int) ∧ wr = w') (fun _ i _ => s - (intOf i).toNat)
    case atStart => exact ⟨0, by omega, rfl, rfl, rfl⟩
    case round =>
      obtain ⟨k, hk, rfl, rfl, hw⟩ := hrel
      obtain ⟨W, hW⟩ : ∃ W, W = wr := ⟨_, rfl⟩
      rw [← hW] at hw ⊢
      subst hw
      clear hW
      obtain ⟨q, hq⟩ : ∃ q, q = valB (b.take k) % 18446744073709551616 := ⟨_, rfl⟩
      rw [← hq]
      have hq64 : q < 18446744073709551616 := by rw [hq]; exact Nat.mod_lt _ (by decide)
      have Hq := Lib.hid hq
      clear hq
      by_cases hlt : k < s
      · have c0 := Hcell.out k (by omega)
        obtain ⟨x, hx⟩ : ∃ x, x = rd b k := ⟨_, rfl⟩
        rw [← hx] at c0
        have HX := Lib.hid hx
        have hx255 : 0 ≤ x ∧ x ≤ 255 := by rw [hx, rd_getElem (by rw [Hl.out]; omega)]; exact Hb.out _ (List.getElem_mem _)
        obtain ⟨hx0, hx1⟩ := hx255
        clear hx
        have hst := step_val (b := b) (k := k) (by omega) (by rw [Hl.out]; omega) HX.out ⟨hx0, hx1⟩ Hq.out
        have Hst := Lib.hid hst
        clear hst
        go_wp2_with fail
        go_roundw
        case rel => exact ⟨k + 1, by omega, by go_num, by rw [Hst.out], trivial⟩
        case measure => simp [intOf]; omega
      · obtain rfl : k = s := by omega
        obtain ⟨x9, hx9⟩ : ∃ x, x = rd b (k - 1) := ⟨_, rfl⟩
        have c9 := Hcell.out (k - 1) (by omega)
        rw [← hx9] at c9
        have HX9 := Lib.hid hx9
        have h10 := lebU_10 (n := q) hq64
        obtain ⟨lq, hlq⟩ : ∃ l, l = (lebU q).length := ⟨_, rfl⟩
        rw [← hlq] at h10
        have Hlq := Lib.hid hlq
        clear hx9 hlq
        go_wp2_with fail
        refine (U_calls q _ hq64).mono ?_
        rintro e w2 ⟨v2, rfl, ho2, hb2⟩
        rw [← Hlq.out] at ho2
        obtain ⟨A2, c2, rfl⟩ := own_slice ho2
        have HB2 := Lib.hid hb2
        have c92 := kept_cell hb2 c9
        clear ho2 hb2 c9
        by_cases hl : lq = k
        · subst hl
          have hq1 : ((lq : Int) != lq) = false := by simp
          by_cases h9 : lq = 10
          · subst h9
            by_cases hx : 1 < x9
            · have hd9 : decide ((1 : Int) < x9) = true := decide_eq_true hx
              have hg := get_ten Hs.out (by rw [← HX9.out]; exact hx)
              have Hg := Lib.hid hg
              clear hg
              go_wp2_with fail
              refine bodyPost_ret (v := .tuple #[.int .u64 0, .int .i64 0, .int .i64 3]) (by simp [results, Try.results34, go_sem]) rfl ?_
              exact ⟨0, 0, 3, rfl, Hg.out, HB2.out⟩
            · have hd9 : decide ((1 : Int) < x9) = false := decide_eq_false hx
              have hg := get_some Hb.out Hs.out Hq.out Hlq.out.symm (fun _ => by rw [← HX9.out]; omega)
              have Hg := Lib.hid hg
              clear hg
              go_wp2_with fail
              refine bodyPost_ret (v := .tuple #[.int .u64 q, .int .i64 10, .int .i64 0]) (by simp [results, Try.results34, go_sem]) rfl ?_
              exact ⟨q, 10, 0, rfl, Hg.out, HB2.out⟩
          · have h9b : ((lq : Int) == 10) = false := by simp; omega
            have hg := get_some Hb.out Hs.out Hq.out Hlq.out.symm (fun h => absurd h h9)
            have Hg := Lib.hid hg
            clear hg
            go_wp2_with fail
            refine bodyPost_ret (v := .tuple #[.int .u64 q, .int .i64 lq, .int .i64 0]) (by simp [results, Try.results34, go_sem]) rfl ?_
            exact ⟨q, lq, 0, rfl, Hg.out, HB2.out⟩
        · have hlb : ((lq : Int) != k) = true := by simp; omega
          have hg := get_none Hs.out Hq.out (fun e => hl (by rw [Hlq.out]; exact e))
          have Hg := Lib.hid hg
          clear hg
          go_wp2_with fail
          refine bodyPost_ret (v := .tuple #[.int .u64 0, .int .i64 0, .int .i64 3]) (by simp [results, Try.results34, go_sem]) rfl ?_
          exact ⟨0, 0, 3, rfl, Hg.out, HB2.out⟩
  · have hfb : (f == 0) = false := by simpa using hf
    go_wp2_with fail
    refine bodyPost_ret (v := .tuple #[.int .u64 0, .int .i64 0, .int .i64 f]) (by simp [results, Try.results34, go_sem]) rfl ?_
    exact ⟨0, 0, f, rfl, get_err Hs.out hf, Below.refl _ _⟩
end Go.Proofs.Ytekhofnfikcpnaa
/-
  The walk of actors.text.
-/
namespace Go.Proofs.Ytekhofnfikcpnaa
open Go.RowKit

/-- A slice of bytes that is read. -/
structure BSl (w : World) (A : Option Addr) (n c : Nat) (b : List Int) : Prop where
  rd : Rd w .u8 A n b
  nil : A = none → n = 0 ∧ c = 0
  cap : n ≤ c
theorem BSl.below {w w' : World} {A : Option Addr} {n c : Nat} {b : List Int} (h : BSl w A n c b) (hb : Below w.heap.size w w') : BSl w' A n c b := ⟨h.rd.below hb, h.nil, h.cap⟩
theorem rd_drop_at {w : World} {b0 o0 n : Nat} {b : List Int} (h : Rd w .u8 (some ⟨b0, o0, none⟩) n b) (hn : 0 < n) {k : Nat} (hk : k ≤ n) : Rd w .u8 (some ⟨b0, o0 + k, none⟩) (n - k) (b.drop k) := by
  refine ⟨by rw [List.length_drop, h.1], fun h0 => ⟨b0, o0 + k, rfl, fun j hj => ?_⟩⟩
  obtain ⟨_, _, e, hc⟩ := h.2 hn
  cases e
  have := hc (k + j) (by omega)
  rw [Nat.add_assoc, this]
  unfold Go.Proofs.Ytekhofnfikcpnaa.rd
  rw [List.getD_eq_getElem?_getD, List.getD_eq_getElem?_getD, List.getElem?_drop]
theorem rd_take_at {w : World} {A : Option Addr} {n : Nat} {b : List Int} (h : Rd w .u8 A n b) {v : Nat} (hv : v ≤ n) : Rd w .u8 A v (b.take v) := by
  refine ⟨by rw [List.length_take, h.1]; omega, fun h0 => ?_⟩
  obtain ⟨b0, o0, e, hc⟩ := h.2 (by omega)
  exact ⟨b0, o0, e, fun j hj => by rw [take_rdl hj]; exact hc j (by omega)⟩
/-- What text ends with. -/
structure TextEnd (w : World) (A : Option Addr) (n : Nat) (b : List Int) (e : Ending) (w' : World) : Prop where
  bel : Below w.heap.size w w'
  is : ∃ (v k : Nat) (f : Int), IsGet b v k f ∧
    ((f ≠ 0 ∧ e = .returned (.tuple #[.string ⟨#[]⟩, .slice none 0 0, .int .i64 f])) ∨
     (f = 0 ∧ (v < 1 ∨ 16 < v) ∧ e = .returned (.tuple #[.string ⟨#[]⟩, .slice none 0 0, .int .i64 4])) ∨
     (f = 0 ∧ 1 ≤ v ∧ v ≤ 16 ∧ n < k + v ∧ e = .returned (.tuple #[.string ⟨#[]⟩, .slice none 0 0, .int .i64 2])) ∨
     (f = 0 ∧ 1 ≤ v ∧ v ≤ 16 ∧ k + v ≤ n ∧ ∃ A' c', e = .returned (.tuple #[.string (textAt b k v), .slice A' (n - (k + v)) c', .int .i64 0]) ∧ BSl w' A' (n - (k + v)) c' (b.drop (k + v)) ∧ ∃ b1 o1 o2, A = some ⟨b1, o1, none⟩ ∧ A' = some ⟨b1, o2, none⟩))
set_option maxHeartbeats 1000000 in
set_option maxRecDepth 100000 in
theorem text_calls (A : Option Addr) (n c : Nat) (b : List Int) (w : World) (hR : BSl w A n c b) (hb : ∀ x ∈ b, 0 ≤ x ∧ x ≤ 255) (hn : n ≤ 1000000) :
    Calls Try.prog 35 #[.slice A n c] w (TextEnd w A n b) := by
  have HR := Lib.hid hR
  have Hl := Lib.hid hR.rd.1
  have Hb := Lib.hid hb
  have hcap := hR.cap
  clear hR hb
  go_enter Try.func35, Try.ntmps35
  go_wp2_with fail
  refine (GetU_calls A n c b w HR.out.rd HR.out.nil hcap Hb.out hn).mono ?_
  rintro e w1 ⟨v, k, f, rfl, Hg, hb1⟩
  have HB1 := Lib.hid hb1
  have HR1 := Lib.hid (HR.out.below hb1)
  clear hb1
  by_cases hf : f = 0
  · subst hf
    obtain ⟨hk1, hk10, hkn, hv64⟩ := isGet_rng Hg.out
    rw [Hl.out] at hkn
    by_cases hv : 1 ≤ v ∧ v ≤ 16
    · obtain ⟨hv1, hv16⟩ := hv
      have hsub : (n : Int) - k = ((n - k : Nat) : Int) := by omega
      by_cases hkv : k + v ≤ n
      · obtain ⟨b0, o0, e0, _⟩ := HR1.out.rd.2 (by omega)
        subst e0
        have hrk := rd_drop_at HR1.out.rd (by omega) hkn
        have hrt := rd_take_at hrk (v := v) (by omega)
        have hcv : ∀ m, (convert 39 9 (.slice (some ⟨b0, o0 + k, none⟩) v (c - k))).run Try.prog (w1.drewN m) = .ok (.string (strOfNums ((b.drop k).take v))) (w1.drewN m) := fun m => conv_all (hrt.below (below_drewN (Below.refl _ _) m))
        obtain ⟨q, hq⟩ : ∃ q, q = k + v := ⟨_, rfl⟩
        rw [← hq] at hkv
        have Hrkv := Lib.hid (rd_drop_at HR1.out.rd (by omega) hkv)
        have hadd : (k : Int) + v = (q : Int) := by omega
        have hvq : q - k = v := by omega
        have hkq : k < q := by omega
        have hkc0 : k < c := by omega
        have hnk : ¬ n - k < v := by omega
        have Hq := Lib.hid hq
        clear hrk hrt hq
        by_cases hkc : q < c
        · go_upto_region 8 with fail
          clear hsub
          go_quiet (fail)
          have HBd := Lib.hid (below_drewN HB1.out)
          go_wp2_with fail
          refine bodyPost_ret (v := .tuple #[.string (strOfNums ((b.drop k).take v)), .slice (some ⟨b0, o0 + q, none⟩) (n - q) (c - q), .int .i64 0]) (by simp [results, Try.results35, go_sem]) rfl ?_
          refine ⟨below_drewN HB1.out _, v, k, 0, Hg.out, .inr (.inr (.inr ⟨rfl, hv1, hv16, by have := Hq.out; omega, some ⟨b0, o0 + q, none⟩, c - q, ?_, ⟨?_, (fun e => by cases e), ?_⟩, b0, o0, _, rfl, rfl⟩))⟩
          · rw [← Hq.out]; rfl
          · rw [← Hq.out]
            exact Hrkv.out.below (below_drewN (Below.refl _ _) _)
          · have := Hq.out; omega
        · go_upto_region 8 with fail
          clear hsub
          go_quiet (fail)
          have HBd := Lib.hid (below_drewN HB1.out)
          go_wp2_with fail
          refine bodyPost_ret (v := .tuple #[.string (strOfNums ((b.drop k).take v)), .slice (some ⟨b0, o0, none⟩) (n - q) (c - q), .int .i64 0]) (by simp [results, Try.results35, go_sem]) rfl ?_
          refine ⟨below_drewN HB1.out _, v, k, 0, Hg.out, .inr (.inr (.inr ⟨rfl, hv1, hv16, by have := Hq.out; omega, some ⟨b0, o0, none⟩, c - q, ?_, ⟨?_, (fun e => by cases e), ?_⟩, b0, o0, _, rfl, rfl⟩))⟩
          · rw [← Hq.out]; rfl
          · rw [← Hq.out]
            exact ⟨by rw [List.length_drop, Hl.out], fun h => by omega⟩
          · have := Hq.out; omega
      · go_wp2_with fail
        refine bodyPost_ret (v := .tuple #[.string ⟨#[]⟩, .slice none 0 0, .int .i64 2]) (by simp [results, Try.results35, go_sem]) rfl ?_
        exact ⟨HB1.out, v, k, 0, Hg.out, .inr (.inr (.inl ⟨rfl, hv1, hv16, by omega, rfl⟩))⟩
    · have hvo : v < 1 ∨ 16 < v := by omega
      have Hvo := Lib.hid hvo
      by_cases hv1 : 1 ≤ v
      · have hv17 : ¬ v ≤ 16 := by omega
        clear hv hvo
        go_wp2_with fail
        refine bodyPost_ret (v := .tuple #[.string ⟨#[]⟩, .slice none 0 0, .int .i64 4]) (by simp [results, Try.results35, go_sem]) rfl ?_
        exact ⟨HB1.out, v, k, 0, Hg.out, .inr (.inl ⟨rfl, Hvo.out, rfl⟩)⟩
      · clear hv hvo
        go_wp2_with fail
        refine bodyPost_ret (v := .tuple #[.string ⟨#[]⟩, .slice none 0 0, .int .i64 4]) (by simp [results, Try.results35, go_sem]) rfl ?_
        exact ⟨HB1.out, v, k, 0, Hg.out, .inr (.inl ⟨rfl, Hvo.out, rfl⟩)⟩
  · have hfb : (f == 0) = false := by simpa using hf
    go_wp2_with fail
    refine bodyPost_ret (v := .tuple #[.string ⟨#[]⟩, .slice none 0 0, .int .i64 f]) (by simp [results, Try.results35, go_sem]) rfl ?_
    exact ⟨HB1.out, v, k, f, Hg.out, .inl ⟨hf, rfl⟩⟩
theorem BSl.old {w w' : World} {B : Nat} {A : Option Addr} {n c : Nat} {b : List Int} (h : BSl w A n c b) (hb : Below B w w') (hA : ∀ b1 o1, A = some ⟨b1, o1, none⟩ → b1 < B) : BSl w' A n c b := by
  refine ⟨⟨h.rd.1, fun hn => ?_⟩, h.nil, h.cap⟩
  obtain ⟨b1, o1, e, hc⟩ := h.rd.2 hn
  exact ⟨b1, o1, e, fun j hj => (hb.cell (p := ⟨b1, o1 + j, none⟩) (hA b1 o1 e)).trans (hc j hj)⟩
end Go.Proofs.Ytekhofnfikcpnaa
/-
  The walk of actors.Get.
-/
namespace Go.Proofs.Ytekhofnfikcpnaa
open Go.RowKit

theorem bl_text (a b : ByteArray) (c : Bool) (hc : c = true ↔ ltB a b) : Op.bytesLess a.toList b.toList = c := by
  rw [bytesLess_eq, Lib.toList_data, Lib.toList_data]
  cases c
  · exact decide_eq_false (fun h => absurd (hc.2 h) (by decide))
  · exact decide_eq_true (hc.1 rfl)
/-- What Get ends with. -/
structure GetEnd (w : World) (au : ByteArray) (b : List Int) (e : Ending) (w' : World) : Prop where
  bel : Below w.heap.size w w'
  is : ∃ (T : List ByteArray) (p : Nat) (f : Int) (v : Value), IsTab au b T p f ∧ T.length ≤ 1000000 ∧ e = .returned (.tuple #[v, .int .i64 p, .int .i64 f]) ∧ w'.ownsRow w.heap.size 9 1 v T.length (strs T)
theorem drop_drop_text (b : List Int) (p k v : Nat) : textAt (b.drop p) k v = textAt b (p + k) v := by
  unfold textAt
  rw [List.drop_drop]
set_option maxHeartbeats 1000000 in
set_option maxRecDepth 100000 in
theorem Get_calls (au : ByteArray) (A : Option Addr) (n c : Nat) (b : List Int) (w : World) (hR : BSl w A n c b) (hb : ∀ x ∈ b, 0 ≤ x ∧ x ≤ 255) (hn : n ≤ 100000) :
    Calls Try.prog 20 #[.string au, .slice A n c] w (GetEnd w au b) := by
  have HR := Lib.hid hR
  have Hl := Lib.hid hR.rd.1
  have Hb := Lib.hid hb
  have hcap := hR.cap
  clear hR hb
  go_enter Try.func20, Try.ntmps20
  go_wp2_with fail
  refine (GetU_calls A n c b w HR.out.rd HR.out.nil hcap Hb.out (by omega)).mono ?_
  rintro e w1 ⟨N, k0, f, rfl, Hg, hb1⟩
  have HB1 := Lib.hid hb1
  have HR1 := Lib.hid (HR.out.below hb1)
  have hs1 := hb1.size
  clear hb1
  by_cases hf : f = 0
  · subst hf
    obtain ⟨hk1, hk10, hkn, hN64⟩ := isGet_rng Hg.out
    rw [Hl.out] at hkn
    obtain ⟨b0, o0, e0, hcell0⟩ := HR.out.rd.2 (by omega)
    subst e0
    have hb0w : b0 < w.heap.size := World.block_lt_of_cell? _ _ (hcell0 0 (by omega))
    have hlit := World.ownsRow_lit (base := w.heap.size) (size := 1) (e := 9) w1 #[.string au] 1 hs1 (by simp [maxLen]) rfl
    have Hlit := Lib.hid hlit
    have HBl := Lib.hid (HB1.out.alloc hs1 (.cells #[.string au] 9))
    have HRl := Lib.hid (HR1.out.below ((Below.refl _ _).alloc (Nat.le_refl _) (.cells #[.string au] 9)))
    clear hcell0 hlit
    have hrest : ∀ o' c', (o' = o0 + k0 ∨ n - k0 = 0) → n - k0 ≤ c' → BSl (w1.alloc (.cells #[.string au] 9)) (some ⟨b0, o', none⟩) (n - k0) c' (b.drop k0) := fun o' c' ho hc' => by
      refine ⟨?_, (fun e => by cases e), hc'⟩
      rcases ho with rfl | h0
      · exact rd_drop_at HRl.out.rd (by omega) hkn
      · exact ⟨by rw [List.length_drop, Hl.out], fun h => by omega⟩
    have Hrest := Lib.hid hrest
    clear hrest
    go_upto_region 5 with fail
    obtain ⟨W0, hW0⟩ : ∃ W, W = w1.alloc (.cells #[.string au] 9) := ⟨_, rfl⟩
    rw [← hW0] at Hlit HBl HRl Hrest ⊢
    clear hW0
    go_cut [11] from 24 to 67 (fun v wx => ∃ o' c', v = .slice (some ⟨b0, o', none⟩) (n - k0) c' ∧ Hid (BSl W0 (some ⟨b0, o', none⟩) (n - k0) c' (b.drop k0)) ∧ wx = W0)
    case first =>
      by_cases hkc : k0 < c
      · go_wp2_with fail
        go_meet
        exact ⟨o0 + k0, c - k0, rfl, Hrest.out _ _ (.inl rfl) (by omega), rfl⟩
      · go_wp2_with fail
        go_meet
        exact ⟨o0, c - k0, rfl, Hrest.out _ _ (.inr (by omega)) (by omega), rfl⟩
    case rest =>
      obtain ⟨o', c', rfl, HRr, hw⟩ := hcut
      obtain ⟨W2, hW2⟩ : ∃ W, W = wc := ⟨_, rfl⟩
      rw [← hW2] at hw ⊢
      subst hw
      clear hW2 Hrest
      go_wp2_with fail
      go_loopw [10, 11, 28] (fun vo vr i wr => ∃ (i' p o1 c1 : Nat) (out : List ByteArray), i' ≤ N ∧ i = .int .u64 i' ∧ p ≤ n ∧ i' ≤ p ∧ vr = .slice (some ⟨b0, o1, none⟩) (n - p) c1 ∧ Hid (BSl wr (some ⟨b0, o1, none⟩) (n - p) c1 (b.drop p)) ∧ Hid (wr.ownsRow w.heap.size 9 1 vo (i' + 1) (strs out)) ∧ Hid (∀ T q e, Reads au b (N - i') p out T q e → Reads au b N k0 [au] T q e) ∧ Hid (Below w.heap.size w wr)) (fun _ _ i _ => N - (intOf i).toNat)
      case atStart => exact ⟨0, k0, o', c', [au], by omega, rfl, hkn, by omega, rfl, HRr.out, Hlit.out, Lib.hid (fun T q e h => h), HBl.out⟩
      case round =>
        obtain ⟨i', p, o1, c1, out, hi, rfl, hp, hip, rfl, HRp, HO, HC, HBr⟩ := hrel
        obtain ⟨W, hW⟩ : ∃ W, W = wr := ⟨_, rfl⟩
        subst hW
        have hol : out.length = i' + 1 := by have := HO.out.1; rw [strs_length] at this; omega
        have Hol := Lib.hid hol
        obtain ⟨Ao, co, hvo⟩ := own_slice HO.out
        subst hvo
        obtain ⟨nm5, hnm5⟩ : ∃ x, x = i' + 1 := ⟨_, rfl⟩
        rw [← hnm5] at HO ⊢
        have hnm59 : nm5 ≤ 100001 := by omega
        have hnm51 : 1 ≤ nm5 := by omega
        have Hn5 := Lib.hid hnm5
        clear hol hnm5
        by_cases hlt : i' < N
        · obtain ⟨m, hm⟩ : ∃ m, N - i' = m + 1 := ⟨N - i' - 1, by omega⟩
          have Hm := Lib.hid hm
          obtain ⟨r, hr⟩ : ∃ r, r = n - p := ⟨_, rfl⟩
          rw [← hr] at HRp ⊢
          have hr9 : r ≤ 100000 := by omega
          have Hr := Lib.hid hr
          clear hm hr
          go_wp2_with fail
          refine (text_calls (some ⟨b0, o1, none⟩) r c1 (b.drop p) W HRp.out (fun x hx => Hb.out x (List.mem_of_mem_drop hx)) (by omega)).mono ?_
          rintro e w3 ⟨hb3, v, k, f2, hg2, h⟩
          have HB3 := Lib.hid (below_seq HBr.out (Nat.le_refl _) hb3)
          have HO3 := Lib.hid (own_below HO.out hb3)
          have Hg2 := Lib.hid hg2
          clear hb3 hg2
          rcases h with ⟨hf2, rfl⟩ | ⟨rfl, hv, rfl⟩ | ⟨rfl, hv1, hv16, hsh, rfl⟩ | ⟨rfl, hv1, hv16, hkv, A', c2, rfl, hB2, b1, oo, o2, eA, eA'⟩
          · have hfb2 : (f2 == 0) = false := by simpa using hf2
            have Hf2 := Lib.hid hf2
            clear hf2
            go_wp2_with fail
            refine bodyPost_ret (v := .tuple #[.slice none 0 0, .int .i64 0, .int .i64 f2]) (by simp [results, Try.results20, go_sem]) rfl ?_
            exact ⟨HB3.out, [], 0, f2, _, ⟨N, k0, 0, Hg.out, .inr ⟨rfl, HC.out _ _ _ (by rw [Hm.out]; exact .num Hg2.out Hf2.out)⟩⟩, by simp, rfl, World.ownsRow_nil _ _ _ _⟩
          · have Hv := Lib.hid hv
            clear hv
            go_wp2_with fail
            refine bodyPost_ret (v := .tuple #[.slice none 0 0, .int .i64 0, .int .i64 4]) (by simp [results, Try.results20, go_sem]) rfl ?_
            exact ⟨HB3.out, [], 0, 4, _, ⟨N, k0, 0, Hg.out, .inr ⟨rfl, HC.out _ _ _ (by rw [Hm.out]; exact .long Hg2.out Hv.out)⟩⟩, by simp, rfl, World.ownsRow_nil _ _ _ _⟩
          · have Hsh := Lib.hid (show b.length < p + k + v by rw [Hl.out]; have := Hr.out; omega)
            clear hsh
            go_wp2_with fail
            refine bodyPost_ret (v := .tuple #[.slice none 0 0, .int .i64 0, .int .i64 2]) (by simp [results, Try.results20, go_sem]) rfl ?_
            exact ⟨HB3.out, [], 0, 2, _, ⟨N, k0, 0, Hg.out, .inr ⟨rfl, HC.out _ _ _ (by rw [Hm.out]; exact .short Hg2.out hv1 hv16 Hsh.out)⟩⟩, by simp, rfl, World.ownsRow_nil _ _ _ _⟩
          · cases eA
            subst eA'
            have hfit : p + k + v ≤ b.length := by rw [Hl.out]; have := Hr.out; omega
            obtain ⟨a, ha⟩ : ∃ a, a = textAt b (p + k) v := ⟨_, rfl⟩
            rw [drop_drop_text, ← ha]
            obtain ⟨p2, hp2⟩ : ∃ x, x = p + k + v := ⟨_, rfl⟩
            have hk9 := (isGet_rng Hg2.out).1
            have hrp : r - (k + v) = n - p2 := by have := Hr.out; omega
            rw [hrp, List.drop_drop, show p + (k + v) = p2 by omega] at hB2
            rw [hrp]
            have hp2n : p2 ≤ n := by rw [← Hl.out]; omega
            have hip2 : i' + 1 ≤ p2 := by omega
            have HB2' := Lib.hid hB2
            have Ha := Lib.hid ha
            have Hp2 := Lib.hid hp2
            have Hfit := Lib.hid hfit
            obtain ⟨_, _, eo, _, hro, _⟩ := own_rdS HO3.out
            cases eo
            obtain ⟨bo, oo2, eo2, hco⟩ := hro.2 (by omega)
            subst eo2
            obtain ⟨l, hl⟩ : ∃ l, l = str out (nm5 - 1) := ⟨_, rfl⟩
            have zl := hco (nm5 - 1) (by omega)
            rw [← hl] at zl
            have Hlx := Lib.hid hl
            have hbad1 : ∀ (_ : a = au ∨ (1 < nm5 ∧ ¬ ltB l a)), BadNm au out (textAt b (p + k) v) := fun h => by
              rw [← Ha.out]
              rcases h with h | ⟨h1, h2⟩
              · exact .inl h
              · refine .inr ⟨by rw [Hol.out, ← Hn5.out]; exact h1, ?_⟩
                rw [Hol.out, ← Hn5.out, ← Hlx.out]; exact h2
            have hbad2 : (¬ (a = au ∨ (1 < nm5 ∧ ¬ ltB l a))) → ¬ BadNm au out (textAt b (p + k) v) := fun h hb => by
              rw [← Ha.out] at hb
              rcases hb with hb | ⟨h1, h2⟩
              · exact h (.inl hb)
              · rw [Hol.out, ← Hn5.out, ← Hlx.out] at h2
                rw [Hol.out, ← Hn5.out] at h1
                exact h (.inr ⟨h1, h2⟩)
            have Hbad1 := Lib.hid hbad1
            have Hbad2 := Lib.hid hbad2
            have hs3 := HB3.out.size
            clear ha hp2 hfit hl hrp hco hro hB2 hbad1 hbad2
            by_cases hau : a = au
            · have hq1 : (a.toList == au.toList) = true := by rw [tl_beq]; exact decide_eq_true hau
              have hq2 : a.toList = au.toList := by rw [hau]
              have Hau := Lib.hid hau
              clear hau
              go_wp2_with fail
              refine bodyPost_ret (v := .tuple #[.slice none 0 0, .int .i64 0, .int .i64 3]) (by simp [results, Try.results20, go_sem]) rfl ?_
              exact ⟨HB3.out, [], 0, 3, _, ⟨N, k0, 0, Hg.out, .inr ⟨rfl, HC.out _ _ _ (by rw [Hm.out]; exact .form Hg2.out hv1 hv16 Hfit.out (Hbad1.out (.inl Hau.out)))⟩⟩, by simp, rfl, World.ownsRow_nil _ _ _ _⟩
            · have hq1 : (a.toList == au.toList) = false := by rw [tl_beq]; exact decide_eq_false hau
              have hq2 : ¬ a.toList = au.toList := fun e => hau ((tl_iff _ _).1 e)
              have Hau := Lib.hid hau
              clear hau
              by_cases h1 : 1 < nm5
              · have h1d : decide ((1 : Int) < nm5) = true := by simp; omega
                have hidx : (nm5 : Int) - 1 = ((nm5 - 1 : Nat) : Int) := by omega
                by_cases hla : ltB l a
                · have hl1 : Op.bytesLess a.toList l.toList = false := bl_text a l false ⟨fun h => (by cases h), fun h => absurd (ltB_trans h hla) (ltB_irrefl _)⟩
                  have hl2 : (a.toList == l.toList) = false := by rw [tl_beq]; exact decide_eq_false (fun e => by rw [e] at hla; exact ltB_irrefl _ hla)
                  have hl2' : ¬ a.toList = l.toList := fun e => by rw [(tl_iff _ _).1 e] at hla; exact ltB_irrefl _ hla
                  have Hla := Lib.hid hla
                  clear hla
                  go_wp2_with (at_builtin; refine wpList_app3 rfl _ _ rfl elStr HO3.out rfl rfl rfl rfl rfl (by omega) hs3 ?_; intro g4 cg w4 hown4 hfr4 hat4 hlt4; have Hown4 := Lib.hid hown4; have Hfr4 := Lib.hid hfr4; clear hown4 hfr4 hat4)
                  go_roundw
                  case rel =>
                    have hb4 : Below w.heap.size w3 w4 := Hfr4.out.below hs3 (fun o ho i e => by simp at ho; subst ho; exact (HO3.out.lt i e).1)
                    have h4 := Hown4.out
                    rw [show strs out ++ (#[Value.string a] : Array Value).toList = strs (out ++ [a]) by rw [strs_app]; rfl, show nm5 + 1 = i' + 1 + 1 by rw [Hn5.out]] at h4
                    refine ⟨i' + 1, p2, o2, c2, out ++ [a], by omega, by go_num, hp2n, hip2, rfl, HB2'.out.old hb4 (fun b1 o1 e => by cases e; exact hb0w), ?_, Lib.hid (fun T q e h => HC.out T q e (by
                      rw [Hm.out]
                      refine .next Hg2.out hv1 hv16 Hfit.out (Hbad2.out (by
                        rintro (h9 | ⟨h8, h9⟩)
                        · exact Hau.out h9
                        · exact h9 Hla.out)) ?_
                      rw [← Ha.out, ← Hp2.out, show m = N - (i' + 1) by have := Hm.out; omega]
                      exact h)), HB3.out.trans hb4⟩
                    rw [Hn5.out]
                    exact h4
                  case measure => simp [intOf]; omega
                · have hl3 : (Op.bytesLess a.toList l.toList || a.toList == l.toList) = true := by
                    by_cases e : a = l
                    · rw [tl_beq, decide_eq_true e, Bool.or_true]
                    · rw [bl_text a l true ⟨fun _ => ltB_or hla (fun e2 => e e2.symm), fun _ => rfl⟩]; rfl
                  have Hla := Lib.hid hla
                  clear hla
                  go_wp2_with fail
                  refine bodyPost_ret (v := .tuple #[.slice none 0 0, .int .i64 0, .int .i64 3]) (by simp [results, Try.results20, go_sem]) rfl ?_
                  exact ⟨HB3.out, [], 0, 3, _, ⟨N, k0, 0, Hg.out, .inr ⟨rfl, HC.out _ _ _ (by rw [Hm.out]; exact .form Hg2.out hv1 hv16 Hfit.out (Hbad1.out (.inr ⟨h1, Hla.out⟩)))⟩⟩, by simp, rfl, World.ownsRow_nil _ _ _ _⟩
              · have h1d : decide ((1 : Int) < nm5) = false := by simp; omega
                go_wp2_with (at_builtin; refine wpList_app3 rfl _ _ rfl elStr HO3.out rfl rfl rfl rfl rfl (by omega) hs3 ?_; intro g4 cg w4 hown4 hfr4 hat4 hlt4; have Hown4 := Lib.hid hown4; have Hfr4 := Lib.hid hfr4; clear hown4 hfr4 hat4)
                go_roundw
                case rel =>
                  have hb4 : Below w.heap.size w3 w4 := Hfr4.out.below hs3 (fun o ho i e => by simp at ho; subst ho; exact (HO3.out.lt i e).1)
                  have h4 := Hown4.out
                  rw [show strs out ++ (#[Value.string a] : Array Value).toList = strs (out ++ [a]) by rw [strs_app]; rfl, show nm5 + 1 = i' + 1 + 1 by rw [Hn5.out]] at h4
                  refine ⟨i' + 1, p2, o2, c2, out ++ [a], by omega, by go_num, hp2n, hip2, rfl, HB2'.out.old hb4 (fun b1 o1 e => by cases e; exact hb0w), ?_, Lib.hid (fun T q e h => HC.out T q e (by
                    rw [Hm.out]
                    refine .next Hg2.out hv1 hv16 Hfit.out (Hbad2.out (by
                      rintro (h9 | ⟨h8, h9⟩)
                      · exact Hau.out h9
                      · exact h1 h8)) ?_
                    rw [← Ha.out, ← Hp2.out, show m = N - (i' + 1) by have := Hm.out; omega]
                    exact h)), HB3.out.trans hb4⟩
                  rw [Hn5.out]
                  exact h4
                case measure => simp [intOf]; omega
        · obtain rfl : i' = N := by omega
          have hsub : (n : Int) - ((n - p : Nat) : Int) = (p : Int) := by omega
          go_wp2_with fail
          refine bodyPost_ret (v := .tuple #[.slice Ao nm5 co, .int .i64 p, .int .i64 0]) (by simp [results, Try.results20, go_sem]) rfl ?_
          refine ⟨HBr.out, out, p, 0, _, ⟨i', k0, 0, Hg.out, .inr ⟨rfl, HC.out _ _ _ (by rw [Nat.sub_self]; exact .done p out)⟩⟩, by rw [Hol.out]; omega, rfl, ?_⟩
          rw [Hol.out, ← Hn5.out]
          exact HO.out
  · have hfb : (f == 0) = false := by simpa using hf
    go_wp2_with fail
    refine bodyPost_ret (v := .tuple #[.slice none 0 0, .int .i64 0, .int .i64 f]) (by simp [results, Try.results20, go_sem]) rfl ?_
    exact ⟨HB1.out, [], 0, f, _, ⟨N, k0, f, Hg.out, .inl ⟨hf, rfl, rfl, rfl⟩⟩, by simp, rfl, World.ownsRow_nil _ _ _ _⟩
end Go.Proofs.Ytekhofnfikcpnaa
