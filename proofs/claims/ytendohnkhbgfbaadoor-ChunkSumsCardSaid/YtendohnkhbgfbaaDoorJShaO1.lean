/-
  Texts joined into one file: ShaP, U32, Rot, ShaB, StepA, ShaW.
-/
import Derived.Test.YtendohnkhbgfbaaDoorJBytZ1
import Derived.Laws.BitsAllLaws
import Derived.IntWalk
import Derived.WalkSmall
import Derived.Test.YtendohnkhbgfbaaDoorJBytZ2
import Derived.Deep.Cut
import Derived.Deep.CutRange
import Derived.Deep.CutBlock
import Derived.StillTailTactics
import Derived.Deep.QuietTactic
import Derived.BigQuiet
import Derived.Deep.RegionLaw
/-
  SHA-256 of bytes, as words of 32 bits (no program).
-/
namespace Go.Proofs.YtendohnkhbgfbaaDoor
open Go.RowKit

abbrev W32 := BitVec 32
def rotr (x : W32) (n : Nat) : W32 := x.rotateRight n
def sg0 (x : W32) : W32 := rotr x 7 ^^^ rotr x 18 ^^^ (x >>> 3)
def sg1 (x : W32) : W32 := rotr x 17 ^^^ rotr x 19 ^^^ (x >>> 10)
def bg0 (x : W32) : W32 := rotr x 2 ^^^ rotr x 13 ^^^ rotr x 22
def bg1 (x : W32) : W32 := rotr x 6 ^^^ rotr x 11 ^^^ rotr x 25
def chS (e f g : W32) : W32 := (e &&& f) ^^^ (~~~e &&& g)
def majS (a b c : W32) : W32 := (a &&& b) ^^^ (a &&& c) ^^^ (b &&& c)
theorem chS_or (e f g : W32) : chS e f g = (e &&& f) ||| (~~~e &&& g) := by
  unfold chS
  ext i hi
  simp
  cases e[i] <;> cases f[i] <;> cases g[i] <;> rfl
theorem majS_or (a b c : W32) : majS a b c = (a &&& b) ||| (a &&& c) ||| (b &&& c) := by
  unfold majS
  ext i hi
  simp
  cases a[i] <;> cases b[i] <;> cases c[i] <;> rfl
/-- The word of four bytes from a place on, the highest first. -/
def be4 (b : List Int) (p : Nat) : W32 := BitVec.ofNat 32 ((((rd b p).toNat * 256 + (rd b (p + 1)).toNat) * 256 + (rd b (p + 2)).toNat) * 256 + (rd b (p + 3)).toNat)
/-- The words of the block that begins at p. -/
def sch (b : List Int) (p : Nat) (j : Nat) : W32 :=
  if h : j < 16 then be4 b (p + 4 * j) else sch b p (j - 16) + sg0 (sch b p (j - 15)) + sch b p (j - 7) + sg1 (sch b p (j - 2))
termination_by j
decreasing_by all_goals omega
theorem sch_low {b : List Int} {p j : Nat} (h : j < 16) : sch b p j = be4 b (p + 4 * j) := by rw [sch, dif_pos h]
theorem sch_high {b : List Int} {p j : Nat} (h : 16 ≤ j) : sch b p j = sch b p (j - 16) + sg0 (sch b p (j - 15)) + sch b p (j - 7) + sg1 (sch b p (j - 2)) := by
  rw [sch, dif_neg (by omega)]
structure S8 where
  (a b c d e f g h : W32)
def S8.at (s : S8) : Nat → W32
  | 0 => s.a | 1 => s.b | 2 => s.c | 3 => s.d | 4 => s.e | 5 => s.f | 6 => s.g | _ => s.h
def S8.plus (s t : S8) : S8 := ⟨s.a + t.a, s.b + t.b, s.c + t.c, s.d + t.d, s.e + t.e, s.f + t.f, s.g + t.g, s.h + t.h⟩
theorem S8.plus_at (s t : S8) (j : Nat) : (s.plus t).at j = s.at j + t.at j := by
  unfold S8.at S8.plus
  split <;> rfl
def tS (s : S8) (k w : W32) : W32 := s.h + bg1 s.e + chS s.e s.f s.g + k + w
def uS (s : S8) : W32 := bg0 s.a + majS s.a s.b s.c
def roundS (s : S8) (k w : W32) : S8 := ⟨tS s k w + uS s, s.a, s.b, s.c, s.d + tS s k w, s.e, s.f, s.g⟩
/-- The keys. -/
def keyL : List Int := [
  0x428a2f98, 0x71374491, 0xb5c0fbcf, 0xe9b5dba5, 0x3956c25b, 0x59f111f1, 0x923f82a4, 0xab1c5ed5,
  0xd807aa98, 0x12835b01, 0x243185be, 0x550c7dc3, 0x72be5d74, 0x80deb1fe, 0x9bdc06a7, 0xc19bf174,
  0xe49b69c1, 0xefbe4786, 0x0fc19dc6, 0x240ca1cc, 0x2de92c6f, 0x4a7484aa, 0x5cb0a9dc, 0x76f988da,
  0x983e5152, 0xa831c66d, 0xb00327c8, 0xbf597fc7, 0xc6e00bf3, 0xd5a79147, 0x06ca6351, 0x14292967,
  0x27b70a85, 0x2e1b2138, 0x4d2c6dfc, 0x53380d13, 0x650a7354, 0x766a0abb, 0x81c2c92e, 0x92722c85,
  0xa2bfe8a1, 0xa81a664b, 0xc24b8b70, 0xc76c51a3, 0xd192e819, 0xd6990624, 0xf40e3585, 0x106aa070,
  0x19a4c116, 0x1e376c08, 0x2748774c, 0x34b0bcb5, 0x391c0cb3, 0x4ed8aa4a, 0x5b9cca4f, 0x682e6ff3,
  0x748f82ee, 0x78a5636f, 0x84c87814, 0x8cc70208, 0x90befffa, 0xa4506ceb, 0xbef9a3f7, 0xc67178f2]
def firstL : List Int := [0x6a09e667, 0xbb67ae85, 0x3c6ef372, 0xa54ff53a, 0x510e527f, 0x9b05688c, 0x1f83d9ab, 0x5be0cd19]
def w32 (z : Int) : W32 := BitVec.ofNat 32 z.toNat
def keyS (j : Nat) : W32 := w32 (rd keyL j)
def firstS : S8 := ⟨w32 (rd firstL 0), w32 (rd firstL 1), w32 (rd firstL 2), w32 (rd firstL 3), w32 (rd firstL 4), w32 (rd firstL 5), w32 (rd firstL 6), w32 (rd firstL 7)⟩
/-- The first so many rounds of the block at p. -/
def roundsS (b : List Int) (p : Nat) (s : S8) : Nat → S8
  | 0 => s
  | n + 1 => roundS (roundsS b p s n) (keyS n) (sch b p n)
def blockS8 (b : List Int) (p : Nat) (s : S8) : S8 := s.plus (roundsS b p s 64)
/-- The state behind so many blocks. -/
def blocksS (b : List Int) : Nat → S8
  | 0 => firstS
  | n + 1 => blockS8 b (64 * n) (blocksS b n)
/-- So many bytes of a number, the highest first. -/
def beB (n : Nat) : List Int := [(n / 2 ^ 56 % 256 : Nat), (n / 2 ^ 48 % 256 : Nat), (n / 2 ^ 40 % 256 : Nat), (n / 2 ^ 32 % 256 : Nat), (n / 2 ^ 24 % 256 : Nat), (n / 2 ^ 16 % 256 : Nat), (n / 2 ^ 8 % 256 : Nat), (n % 256 : Nat)]
/-- How many 0s stand behind the mark. -/
def zerosN (n : Nat) : Nat := (119 - n % 64) % 64
def padS (b : List Int) : List Int := b ++ (128 :: (List.replicate (zerosN b.length) 0 ++ beB (8 * b.length)))
def wordB (x : W32) : List Int := [(x.toNat / 16777216 : Nat), (x.toNat / 65536 % 256 : Nat), (x.toNat / 256 % 256 : Nat), (x.toNat % 256 : Nat)]
def S8.bytes (s : S8) : List Int := wordB s.a ++ wordB s.b ++ wordB s.c ++ wordB s.d ++ wordB s.e ++ wordB s.f ++ wordB s.g ++ wordB s.h
def shaS (b : List Int) : List Int := (blocksS (padS b) ((padS b).length / 64)).bytes
theorem padS_length (b : List Int) : (padS b).length = b.length + 1 + zerosN b.length + 8 := by
  simp [padS, beB]; omega
theorem padS_mod (b : List Int) : (padS b).length % 64 = 0 := by
  rw [padS_length]; unfold zerosN; omega
theorem shaS_length (b : List Int) : (shaS b).length = 32 := rfl
/-- Only the block's own bytes count. -/
theorem be4_cong {b c : List Int} {p q : Nat} (h : ∀ j, j < 4 → rd b (p + j) = rd c (q + j)) : be4 b p = be4 c q := by
  have h0 := h 0 (by omega)
  have h1 := h 1 (by omega)
  have h2 := h 2 (by omega)
  have h3 := h 3 (by omega)
  unfold be4
  rw [Nat.add_zero, Nat.add_zero] at h0
  rw [h0, h1, h2, h3]
theorem sch_cong {b c : List Int} {p q : Nat} (h : ∀ j, j < 64 → rd b (p + j) = rd c (q + j)) : ∀ j, sch b p j = sch c q j := by
  intro j
  induction j using Nat.strongRecOn with
  | ind j ih =>
    by_cases hj : j < 16
    · rw [sch_low hj, sch_low hj]
      refine be4_cong (fun i hi => ?_)
      have := h (4 * j + i) (by omega)
      rw [Nat.add_assoc, Nat.add_assoc]
      exact this
    · rw [sch_high (b := b) (p := p) (j := j) (by omega), sch_high (b := c) (p := q) (j := j) (by omega), ih (j - 16) (by omega), ih (j - 15) (by omega), ih (j - 7) (by omega), ih (j - 2) (by omega)]
theorem rounds_cong {b c : List Int} {p q : Nat} (h : ∀ j, j < 64 → rd b (p + j) = rd c (q + j)) (s : S8) : ∀ n, roundsS b p s n = roundsS c q s n := by
  intro n
  induction n with
  | zero => rfl
  | succ n ih => rw [roundsS, roundsS, ih, sch_cong h]
theorem block_cong {b c : List Int} {p q : Nat} (h : ∀ j, j < 64 → rd b (p + j) = rd c (q + j)) (s : S8) : blockS8 b p s = blockS8 c q s := by
  unfold blockS8
  rw [rounds_cong h]
theorem blocks_app (b c : List Int) : ∀ n, 64 * n ≤ b.length → blocksS (b ++ c) n = blocksS b n := by
  intro n
  induction n with
  | zero => intro _; rfl
  | succ n ih =>
    intro h
    rw [blocksS, blocksS, ih (by omega)]
    refine block_cong (fun j hj => ?_) _
    unfold rd
    rw [List.getD_eq_getElem?_getD, List.getD_eq_getElem?_getD, List.getElem?_append_left (by omega)]
end Go.Proofs.YtendohnkhbgfbaaDoor
/-
  Words of 32 bits as numbers (no program).
-/
namespace Go.Proofs.YtendohnkhbgfbaaDoor
open Go.RowKit

/-- A word's number. -/
def wv (x : W32) : Int := (x.toNat : Int)
theorem wv_rng (x : W32) : 0 ≤ wv x ∧ wv x < 4294967296 := by
  have := x.isLt
  unfold wv
  omega
theorem wv_toNat (x : W32) : (wv x).toNat = x.toNat := rfl
theorem w32_wv (x : W32) : w32 (wv x) = x := by
  unfold w32 wv
  simp
theorem wv_w32 {z : Int} (h : 0 ≤ z ∧ z < 4294967296) : wv (w32 z) = z := by
  unfold w32 wv
  rw [BitVec.toNat_ofNat]
  omega
theorem wv_add (x y : W32) : IntKind.u32.wrap (wv x + wv y) = wv (x + y) := by
  unfold wv
  rw [BitVec.toNat_add, IntKind.wrap_u32]
  omega
theorem wv_addM (x y : W32) : (wv x + wv y) % (4294967296 : Int) = wv (x + y) := by rw [← IntKind.wrap_u32]; exact wv_add x y
theorem wv_add4 (x y z t : W32) : (wv x + wv y + wv z + wv t) % (4294967296 : Int) = wv (x + y + z + t) := by
  rw [← wv_addM, ← wv_addM, ← wv_addM]
  omega
theorem wv_add5 (x y z t u : W32) : (wv x + wv y + wv z + wv t + wv u) % (4294967296 : Int) = wv (x + y + z + t + u) := by
  rw [← wv_addM, ← wv_addM, ← wv_addM, ← wv_addM]
  omega
theorem wv_xor (x y : W32) : bits .xor .u32 (wv x) (wv y) = wv (x ^^^ y) := by
  unfold wv
  rw [u32_xor_nat _ _ x.isLt y.isLt, BitVec.toNat_xor]
theorem wv_and (x y : W32) : bits .and .u32 (wv x) (wv y) = wv (x &&& y) := by
  unfold wv
  rw [u32_and_nat _ _ x.isLt y.isLt, BitVec.toNat_and]
theorem wv_or (x y : W32) : bits .or .u32 (wv x) (wv y) = wv (x ||| y) := by
  unfold wv
  rw [u32_or_nat _ _ x.isLt y.isLt, BitVec.toNat_or]
theorem wv_shr (x : W32) (n : Nat) : wv x / 2 ^ n = wv (x >>> n) := by
  unfold wv
  rw [BitVec.toNat_ushiftRight, Nat.shiftRight_eq_div_pow]
  simp
theorem wv_shr3 (x : W32) : wv x / (8 : Int) = wv (x >>> 3) := wv_shr x 3

theorem wv_shr10 (x : W32) : wv x / (1024 : Int) = wv (x >>> 10) := wv_shr x 10
theorem wv_shl (x : W32) (n : Nat) : IntKind.u32.wrap (wv x * 2 ^ n) = wv (x <<< n) := by
  unfold wv
  rw [BitVec.toNat_shiftLeft, Nat.shiftLeft_eq, IntKind.wrap_u32]
  have e : ((x.toNat : Int) * 2 ^ n) = ((x.toNat * 2 ^ n : Nat) : Int) := by simp
  rw [e]
  omega
theorem wv_not (x : W32) : 4294967295 - wv x = wv (~~~x) := by
  have := x.isLt
  unfold wv
  rw [BitVec.toNat_not]
  omega
theorem wv_notx (x : W32) : bits .xor .u32 (if IntKind.u32.signed = true then -1 else IntKind.u32.max) (wv x) = wv (~~~x) := by
  have e : (if IntKind.u32.signed = true then -1 else IntKind.u32.max) = wv (BitVec.allOnes 32) := by decide
  rw [e, wv_xor]
  congr 1
/-- Turned right. -/
theorem rotr_eq (x : W32) {n : Nat} (h : n < 32) : rotr x n = (x >>> n) ||| (x <<< (32 - n)) := by
  unfold rotr
  rw [BitVec.rotateRight_def, Nat.mod_eq_of_lt h]
theorem rotr_zero (x : W32) : rotr x 0 = x := by
  rw [rotr_eq x (by omega)]
  ext i hi
  simp
theorem rotr_step (x : W32) {i : Nat} (h : i + 1 < 32) : rotr (rotr x i) 1 = rotr x (i + 1) := by
  unfold rotr
  ext j hj
  have e1 : (1 : Nat) % 32 = 1 := rfl
  have e2 : i % 32 = i := Nat.mod_eq_of_lt (by omega)
  have e3 : (i + 1) % 32 = i + 1 := Nat.mod_eq_of_lt h
  simp only [BitVec.getElem_rotateRight, e1, e2, e3]
  by_cases h1 : j < 32 - 1
  · rw [dif_pos h1]
    by_cases h2 : 1 + j < 32 - i
    · rw [dif_pos h2, dif_pos (by omega)]
      congr 1
      omega
    · rw [dif_neg h2, dif_neg (by omega)]
      congr 1
      omega
  · rw [dif_neg h1]
    rw [dif_pos (by omega), dif_neg (by omega)]
    congr 1
    omega
theorem turn_one (x : W32) : wv x / (2 : Int) + wv x % (2 : Int) * (2147483648 : Int) = wv (rotr x 1) := by
  rw [rotr_eq x (by omega)]
  unfold wv
  rw [BitVec.toNat_or, BitVec.toNat_ushiftRight, BitVec.toNat_shiftLeft, Nat.shiftRight_eq_div_pow, Nat.shiftLeft_eq]
  have hx := x.isLt
  have e1 : x.toNat * 2 ^ (32 - 1) % 2 ^ 32 = 2 ^ 31 * (x.toNat % 2) := by omega
  rw [e1, Nat.or_comm, ← Nat.two_pow_add_eq_or_of_lt (by omega)]
  omega
/-- Four bytes, moved and joined. -/
theorem word_or {x0 x1 x2 x3 : Int} (h0 : 0 ≤ x0 ∧ x0 ≤ 255) (h1 : 0 ≤ x1 ∧ x1 ≤ 255) (h2 : 0 ≤ x2 ∧ x2 ≤ 255) (h3 : 0 ≤ x3 ∧ x3 ≤ 255) :
    bits .or .u32 (bits .or .u32 (bits .or .u32 (x0 * 16777216) (x1 * 65536)) (x2 * 256)) x3 = wv (BitVec.ofNat 32 (((x0.toNat * 256 + x1.toNat) * 256 + x2.toNat) * 256 + x3.toNat)) := by
  obtain ⟨a, rfl⟩ := Int.eq_ofNat_of_zero_le h0.1
  obtain ⟨b, rfl⟩ := Int.eq_ofNat_of_zero_le h1.1
  obtain ⟨c, rfl⟩ := Int.eq_ofNat_of_zero_le h2.1
  obtain ⟨d, rfl⟩ := Int.eq_ofNat_of_zero_le h3.1
  have e1 : ((a : Int) * 16777216) = ((2 ^ 24 * a : Nat) : Int) := by omega
  have e2 : ((b : Int) * 65536) = ((2 ^ 16 * b : Nat) : Int) := by omega
  have e3 : ((c : Int) * 256) = ((2 ^ 8 * c : Nat) : Int) := by omega
  rw [e1, e2, u32_or_nat _ _ (by omega) (by omega), ← Nat.two_pow_add_eq_or_of_lt (by omega)]
  have e4 : 2 ^ 24 * a + 2 ^ 16 * b = 2 ^ 16 * (2 ^ 8 * a + b) := by omega
  rw [e4, e3, u32_or_nat _ _ (by omega) (by omega), ← Nat.two_pow_add_eq_or_of_lt (by omega)]
  have e5 : 2 ^ 16 * (2 ^ 8 * a + b) + 2 ^ 8 * c = 2 ^ 8 * (2 ^ 16 * a + 2 ^ 8 * b + c) := by omega
  rw [e5, u32_or_nat _ _ (by omega) (by omega), ← Nat.two_pow_add_eq_or_of_lt (by omega)]
  unfold wv
  simp only [Int.toNat_natCast, BitVec.toNat_ofNat]
  omega
end Go.Proofs.YtendohnkhbgfbaaDoor
/-
  The walk of math/bits.RotateLeft32.
-/
namespace Go.Proofs.YtendohnkhbgfbaaDoor
open Go.RowKit

theorem rot_count {k : Nat} (h : 0 < k ∧ k < 32) : bits BinOp.and IntKind.u64 (18446744073709551616 - (k : Int)) 31 = 32 - (k : Int) := by
  obtain ⟨m, hm⟩ : ∃ m : Nat, m = 18446744073709551616 - k := ⟨_, rfl⟩
  have e : (18446744073709551616 - (k : Int)) = (m : Int) := by omega
  rw [e]
  have h9 := bits_and_u64_nat m 31 (by omega) (by decide)
  have e2 : ((31 : Nat) : Int) = 31 := rfl
  rw [e2] at h9
  rw [h9, show (31 : Nat) = 2 ^ 5 - 1 from rfl, Nat.and_two_pow_sub_one_eq_mod]
  omega
set_option maxHeartbeats 1000000 in
theorem Rot_calls (x : W32) (k : Nat) (hk : 0 < k ∧ k < 32) (w : World) :
    Calls Tryd.prog 108 #[.int .u32 (wv x), .int .i64 (-(k : Int))] w fun e w' => e = .returned (.int .u32 (wv (rotr x k))) ∧ w' = w := by
  obtain ⟨z, hz⟩ : ∃ z : Int, z = -(k : Int) := ⟨_, rfl⟩
  have e1 : IntKind.u64.wrap z = 18446744073709551616 - (k : Int) := by rw [IntKind.wrap_u64]; omega
  have e2 := rot_count hk
  rw [← hz]
  clear hz
  go_enter Tryd.func108, Tryd.ntmps108
  go_wp2_with fail
  have e3 : wv x * 2 ^ (32 - k) % 4294967296 = wv (x <<< (32 - k)) := by rw [← IntKind.wrap_u32]; exact wv_shl x (32 - k)
  have e4 : wv x / 2 ^ (32 - (32 - k)) = wv (x >>> k) := by rw [show 32 - (32 - k) = k by omega]; exact wv_shr x k
  have e5 : bits .or .u32 (wv (x <<< (32 - k))) (wv (x >>> k)) = wv (rotr x k) := by
    rw [wv_or, rotr_eq x hk.2, BitVec.or_comm]
  rw [e3, e4, e5]
  go_ret
  exact ⟨rfl, rfl⟩
theorem Rots_calls (x : W32) (k : Nat) (z : Int) (hk : 0 < k ∧ k < 32) (hz : z = -(k : Int)) (w : World) :
    Calls Tryd.prog 108 #[.int .u32 (wv x), .int .i64 z] w fun e w' => e = .returned (.int .u32 (wv (rotr x k))) ∧ w' = w := by
  subst hz
  exact Rot_calls x k hk w
end Go.Proofs.YtendohnkhbgfbaaDoor
/-
  The walk of sha's block.
-/
namespace Go.Proofs.YtendohnkhbgfbaaDoor
open Go.RowKit

/-- The laid keys, and the words at first. -/
def KeysAt (w : World) : Prop := ∀ j, j < 64 → w.cell? ⟨3, j, none⟩ = some (.int .u32 (wv (keyS j)))
def s8L (s : S8) : List Int := [wv s.a, wv s.b, wv s.c, wv s.d, wv s.e, wv s.f, wv s.g, wv s.h]
theorem s8L_rd (s : S8) {j : Nat} (h : j < 8) : rd (s8L s) j = wv (s.at j) := by
  rcases (show j = 0 ∨ j = 1 ∨ j = 2 ∨ j = 3 ∨ j = 4 ∨ j = 5 ∨ j = 6 ∨ j = 7 by omega) with rfl | rfl | rfl | rfl | rfl | rfl | rfl | rfl <;> rfl
/-- A hasher. -/
structure HAt (w : World) (h : Nat) (s : S8) (rdy : Bool) (v : Value) (n : Nat) : Prop where
  at' : w.heap[h]? = some (.cells #[.int .u32 (wv s.a), .int .u32 (wv s.b), .int .u32 (wv s.c), .int .u32 (wv s.d), .int .u32 (wv s.e), .int .u32 (wv s.f), .int .u32 (wv s.g), .int .u32 (wv s.h), .bool rdy, v, .int .u64 n] 86 (0, 0))
theorem HAt.lt {w : World} {h : Nat} {s : S8} {rdy : Bool} {v : Value} {n : Nat} (H : HAt w h s rdy v n) : h < w.heap.size := (Array.getElem?_eq_some_iff.1 H.at').1
theorem HAt.cell {w : World} {h : Nat} {s : S8} {rdy : Bool} {v : Value} {n : Nat} (H : HAt w h s rdy v n) {j : Nat} (hj : j < 8) : w.cell? ⟨h, j, none⟩ = some (.int .u32 (wv (s.at j))) := by
  rw [cell_of_row w h j _ _ (0, 0) H.at']
  rcases (show j = 0 ∨ j = 1 ∨ j = 2 ∨ j = 3 ∨ j = 4 ∨ j = 5 ∨ j = 6 ∨ j = 7 by omega) with rfl | rfl | rfl | rfl | rfl | rfl | rfl | rfl <;> rfl
/-- So many words of a block, and 0s. -/
def schTo (b : List Int) (p i : Nat) : List Int := (List.range 64).map fun j => if j < i then wv (sch b p j) else 0
theorem schTo_length (b : List Int) (p i : Nat) : (schTo b p i).length = 64 := by simp [schTo]
theorem schTo_rd (b : List Int) (p i : Nat) {j : Nat} (h : j < 64) : rd (schTo b p i) j = if j < i then wv (sch b p j) else 0 := by
  rw [rd_getElem (by rw [schTo_length]; exact h)]
  simp [schTo]
theorem schTo_low (b : List Int) (p i : Nat) {j : Nat} (h : j < 64) (hi : j < i) : rd (schTo b p i) j = wv (sch b p j) := by
  rw [schTo_rd b p i h, if_pos hi]
theorem schTo_next (b : List Int) (p i : Nat) (h : i < 64) : schTo b p (i + 1) = (schTo b p i).set i (wv (sch b p i)) := by
  apply ext_rd (by rw [List.length_set, schTo_length, schTo_length])
  intro j hj
  rw [schTo_length] at hj
  rw [rd_set (by rw [schTo_length]; exact h), schTo_rd _ _ _ hj, schTo_rd _ _ _ hj]
  by_cases e : i = j
  · subst e; rw [if_pos rfl, if_pos (by omega)]
  · rw [if_neg e]
    by_cases g : j < i
    · rw [if_pos g, if_pos (by omega)]
    · rw [if_neg g, if_neg (by omega)]
theorem schTo_zero (b : List Int) (p : Nat) : schTo b p 0 = List.replicate 64 0 := by
  apply ext_rd (by rw [schTo_length, List.length_replicate])
  intro j hj
  rw [schTo_length] at hj
  rw [schTo_rd _ _ _ hj, if_neg (by omega)]
  rw [rd_getElem (by rw [List.length_replicate]; exact hj), List.getElem_replicate]
theorem Fr.blk {w w' : World} {S : List (Option Nat)} (h : Fr w w' S) {b : Nat} {T : TypeId} {k : IntKind} {l : List Int} (hB : Blk w b T k l) (hS : some b ∉ S) : Blk w' b T k l := (h.block b hB.lt (fun _ ho e => hS (e ▸ ho))).trans hB
theorem copy_shift (w : World) (gv : Nat) (r : S8) (h : Blk w gv 82 .u32 (s8L r)) :
    (Builtin.copy_ #[65, 65] 3 #[.slice (some ⟨gv, 1, none⟩) 7 7, .slice (some ⟨gv, 0, none⟩) 7 8]).run Tryd.prog w =
      .ok (.int .i64 7) (w.setRow gv (ints .u32 (s8L ⟨r.a, r.a, r.b, r.c, r.d, r.e, r.f, r.g⟩)).toArray) := by
  have e := run_copy_row Tryd.prog w 65 65 3 81 gv 1 7 7 ⟨gv, 0, none⟩ 7 8 (ints .u32 (s8L r)).toArray 82 ((ints .u32 (s8L r)).take 7) Tryd.underlying65 (by kernel_rfl) h rfl ?_ (by simp [ints, s8L]) (by simp [ints, s8L, Value.oneCell'])
  · exact e
  · intro j v hv
    have hj : j < 7 := by
      have := (List.getElem?_eq_some_iff.1 hv).1
      simp [ints, s8L] at this
      omega
    rw [List.getElem?_take_of_lt hj, ints_get (by simp [s8L]; omega)] at hv
    cases hv
    rw [addr_add, Nat.zero_add]
    exact h.cell (j := j) (by simp [s8L]; omega)
/-- The first so many words summed. -/
def plusTo (s r : S8) (k : Nat) : S8 := ⟨if 0 < k then s.a + r.a else s.a, if 1 < k then s.b + r.b else s.b, if 2 < k then s.c + r.c else s.c, if 3 < k then s.d + r.d else s.d, if 4 < k then s.e + r.e else s.e, if 5 < k then s.f + r.f else s.f, if 6 < k then s.g + r.g else s.g, if 7 < k then s.h + r.h else s.h⟩
theorem plusTo_at (s r : S8) {j : Nat} (h : j < 8) (k : Nat) : (plusTo s r k).at j = if j < k then s.at j + r.at j else s.at j := by
  rcases (show j = 0 ∨ j = 1 ∨ j = 2 ∨ j = 3 ∨ j = 4 ∨ j = 5 ∨ j = 6 ∨ j = 7 by omega) with rfl | rfl | rfl | rfl | rfl | rfl | rfl | rfl <;> rfl
theorem plusTo_all (s r : S8) : plusTo s r 8 = s.plus r := rfl
theorem s8_ext {s r : S8} (h : ∀ j, j < 8 → s.at j = r.at j) : s = r := by
  have h0 := h 0 (by omega)
  have h1 := h 1 (by omega)
  have h2 := h 2 (by omega)
  have h3 := h 3 (by omega)
  have h4 := h 4 (by omega)
  have h5 := h 5 (by omega)
  have h6 := h 6 (by omega)
  have h7 := h 7 (by omega)
  cases s
  cases r
  simp only [S8.at] at h0 h1 h2 h3 h4 h5 h6 h7
  rw [h0, h1, h2, h3, h4, h5, h6, h7]
/-- One word set. -/
def S8.put (s : S8) (j : Nat) (x : W32) : S8 := match j with
  | 0 => { s with a := x } | 1 => { s with b := x } | 2 => { s with c := x } | 3 => { s with d := x } | 4 => { s with e := x } | 5 => { s with f := x } | 6 => { s with g := x } | _ => { s with h := x }
theorem S8.put_at (s : S8) {j : Nat} (h : j < 8) (x : W32) {i : Nat} (hi : i < 8) : (s.put j x).at i = if i = j then x else s.at i := by
  rcases (show j = 0 ∨ j = 1 ∨ j = 2 ∨ j = 3 ∨ j = 4 ∨ j = 5 ∨ j = 6 ∨ j = 7 by omega) with rfl | rfl | rfl | rfl | rfl | rfl | rfl | rfl <;>
    rcases (show i = 0 ∨ i = 1 ∨ i = 2 ∨ i = 3 ∨ i = 4 ∨ i = 5 ∨ i = 6 ∨ i = 7 by omega) with rfl | rfl | rfl | rfl | rfl | rfl | rfl | rfl <;> rfl
theorem plusTo_next (s r : S8) {k : Nat} (h : k < 8) : plusTo s r (k + 1) = (plusTo s r k).put k (s.at k + r.at k) := by
  refine s8_ext (fun j hj => ?_)
  rw [plusTo_at s r hj, S8.put_at _ h _ hj, plusTo_at s r hj]
  by_cases e : j = k
  · subst e; rw [if_pos (by omega), if_pos rfl]
  · rw [if_neg e]
    by_cases g : j < k
    · rw [if_pos g, if_pos (by omega)]
    · rw [if_neg g, if_neg (by omega)]
theorem HAt.put {w : World} {h : Nat} {s : S8} {rdy : Bool} {v : Value} {n : Nat} (H : HAt w h s rdy v n) {j : Nat} (hj : j < 8) (x : W32) : HAt (w.setCell ⟨h, j, none⟩ (.int .u32 (wv x))) h (s.put j x) rdy v n := by
  constructor
  rw [heap_setCell_same w h j _ _ _ H.at']
  rcases (show j = 0 ∨ j = 1 ∨ j = 2 ∨ j = 3 ∨ j = 4 ∨ j = 5 ∨ j = 6 ∨ j = 7 by omega) with rfl | rfl | rfl | rfl | rfl | rfl | rfl | rfl <;> rfl
theorem run_index8 (R : S8) {k : Nat} (hk : k < 8) (w : World) : (Instr.index 82 (.agg (ints .u32 (s8L R)).toArray) (.int .i64 (k : Int))).run Tryd.prog w = .ok (.int .u32 (wv (R.at k))) w := by
  rcases (show k = 0 ∨ k = 1 ∨ k = 2 ∨ k = 3 ∨ k = 4 ∨ k = 5 ∨ k = 6 ∨ k = 7 by omega) with rfl | rfl | rfl | rfl | rfl | rfl | rfl | rfl <;> kernel_rfl
set_option maxHeartbeats 1000000 in
set_option maxRecDepth 100000 in
theorem block_calls (h : Nat) (s : S8) (rdy : Bool) (v : Value) (nn : Nat) (A : Option Addr) (n c : Nat) (b : List Int) (w : World) (hH : HAt w h s rdy v nn) (hR : Rd w .u8 A n b) (hb : ∀ j, j < n → 0 ≤ rd b j ∧ rd b j ≤ 255) (hn : 64 ≤ n) (hK : KeysAt w) :
    Calls Tryd.prog 78 #[.pointer (some ⟨h, 0, none⟩), .slice A n c] w fun e w' => e = .returned (.tuple #[]) ∧ HAt w' h (blockS8 b 0 s) rdy v nn ∧ Fr w w' [some h] := by
  have HH := Lib.hid hH
  have HR := Lib.hid hR
  have Hb := Lib.hid hb
  have HK := Lib.hid hK
  obtain ⟨g0, o0, rfl, hc0⟩ := hR.2 (by omega)
  have Hc0 := Lib.hid hc0
  clear hH hR hb hK hc0
  go_enter Tryd.func78, Tryd.ntmps78
  go_upto_region 1 with fail
  obtain ⟨g, hg⟩ : ∃ g, g = w.heap.size := ⟨_, rfl⟩
  obtain ⟨w1, hw1⟩ : ∃ W, W = w.alloc (.cells (ints .u32 (schTo b 0 0)).toArray 174) := ⟨_, rfl⟩
  have hB1 : Blk w1 g 174 .u32 (schTo b 0 0) := by rw [hw1, hg]; exact heap_alloc_new w _
  have hF1 : Fr w w1 [] := by rw [hw1]; exact (Fr.refl w []).alloc _
  have hz1 : w1.heap.size = g + 1 := by rw [hw1, hg]; simp
  rw [schTo_zero] at hw1
  simp only [ints, List.replicate, List.map] at hw1
  rw [← hw1, ← hg]
  have HB1 := Lib.hid hB1
  have HF1 := Lib.hid hF1
  have HG := Lib.hid hg
  clear hB1 hF1 hw1 hg
  go_wp2
  go_loopw [21] (fun i wr => ∃ k : Nat, k ≤ 16 ∧ i = .int .i64 k ∧ Hid (Blk wr g 174 .u32 (schTo b 0 k)) ∧ Hid (Fr w1 wr [some g])) (fun i _ => 16 - (intOf i).toNat)
  case atStart => exact ⟨0, by omega, rfl, HB1, Lib.hid (Fr.refl _ _)⟩
  case round =>
    obtain ⟨k, hk, rfl, HBk, HFk⟩ := hrel
    obtain ⟨W2, hW2⟩ : ∃ W, W = wr := ⟨_, rfl⟩
    subst hW2
    have hbw : Below w.heap.size w W2 := (HF1.out.trans HFk.out (fun o ho => .inr (fun j e => by simp at ho; subst ho; cases e; exact Nat.le_of_eq HG.out.symm))).below (Nat.le_refl _) (fun o ho => by cases ho)
    have HBW := Lib.hid hbw
    clear hbw
    by_cases hlt : k < 16
    · skip
      as_aux_lemma =>
        have hr2 := HR.out.below HBW.out
        obtain ⟨_, _, e3, hc2⟩ := hr2.2 (by omega)
        cases e3
        have y0 := Hb.out (4 * k) (by omega)
        have y1 := Hb.out (4 * k + 1) (by omega)
        have y2 := Hb.out (4 * k + 2) (by omega)
        have y3 := Hb.out (4 * k + 3) (by omega)
        have z0 := hc2 (4 * k) (by omega)
        have z1 := hc2 (4 * k + 1) (by omega)
        have z2 := hc2 (4 * k + 2) (by omega)
        have z3 := hc2 (4 * k + 3) (by omega)
        have hbe : Hid (sch b 0 k = be4 b (4 * k)) := by rw [sch_low hlt, Nat.zero_add]; exact Lib.hid rfl
        unfold be4 at hbe
        obtain ⟨x0, hx0⟩ : ∃ x, x = rd b (4 * k) := ⟨_, rfl⟩
        obtain ⟨x1, hx1⟩ : ∃ x, x = rd b (4 * k + 1) := ⟨_, rfl⟩
        obtain ⟨x2, hx2⟩ : ∃ x, x = rd b (4 * k + 2) := ⟨_, rfl⟩
        obtain ⟨x3, hx3⟩ : ∃ x, x = rd b (4 * k + 3) := ⟨_, rfl⟩
        rw [← hx0] at y0 z0 hbe
        rw [← hx1] at y1 z1 hbe
        rw [← hx2] at y2 z2 hbe
        rw [← hx3] at y3 z3 hbe
        have hcl := HBk.out.cell (j := k) (by rw [schTo_length]; omega)
        have hfz := HBk.out.frozen k
        have hHb := hbe
        clear hr2 hc2 hbe hx0 hx1 hx2 hx3
        go_wp2
        go_region
        rw [word_or y0 y1 y2 y3, ← hHb.out]
        go_wp2
        go_roundw
        case rel =>
          refine ⟨k + 1, by omega, by go_num, ?_, Lib.hid (HFk.out.set _ _ (.inl (by simp))).drew⟩
          rw [schTo_next b 0 k (by omega)]
          exact Lib.hid (HBk.out.set _ _)
        case measure => simp [intOf]; omega
    · obtain rfl : k = 16 := by omega
      go_wp2
      clear hz1 HB1
      as_aux_lemma =>
        go_loopw [6] (fun i wr => ∃ k : Nat, 16 ≤ k ∧ k ≤ 64 ∧ i = .int .i64 k ∧ Hid (Blk wr g 174 .u32 (schTo b 0 k)) ∧ Hid (Fr w1 wr [some g])) (fun i _ => 64 - (intOf i).toNat)
        case atStart => exact ⟨16, by omega, by omega, rfl, HBk, HFk⟩
        case round =>
          obtain ⟨j, hj16, hj, rfl, HBj, HFj⟩ := hrel
          obtain ⟨W3, hW3⟩ : ∃ W, W = wr := ⟨_, rfl⟩
          subst hW3
          by_cases hlt2 : j < 64
          · skip
            as_aux_lemma =>
              have z15 := HBj.out.cell (j := j - 15) (by rw [schTo_length]; omega)
              have z2 := HBj.out.cell (j := j - 2) (by rw [schTo_length]; omega)
              have z16 := HBj.out.cell (j := j - 16) (by rw [schTo_length]; omega)
              have z7 := HBj.out.cell (j := j - 7) (by rw [schTo_length]; omega)
              rw [schTo_low b 0 j (by omega) (by omega)] at z15 z2 z16 z7
              have hcl := HBj.out.cell (j := j) (by rw [schTo_length]; omega)
              have hfz := HBj.out.frozen j
              have hsc := Lib.hid (sch_high (b := b) (p := 0) (j := j) (by omega))
              obtain ⟨x15, hx15⟩ : ∃ x, x = sch b 0 (j - 15) := ⟨_, rfl⟩
              obtain ⟨x2, hx2⟩ : ∃ x, x = sch b 0 (j - 2) := ⟨_, rfl⟩
              obtain ⟨x16, hx16⟩ : ∃ x, x = sch b 0 (j - 16) := ⟨_, rfl⟩
              obtain ⟨x7, hx7⟩ : ∃ x, x = sch b 0 (j - 7) := ⟨_, rfl⟩
              rw [← hx15, ← hx2, ← hx16, ← hx7] at hsc
              rw [← hx15] at z15
              rw [← hx2] at z2
              rw [← hx16] at z16
              rw [← hx7] at z7
              clear hx15 hx2 hx16 hx7
              go_wp2
              go_region
              go_wp2_with fail
              refine (Rots_calls x15 7 _ (by decide) rfl _).mono ?_
              rintro e w4 ⟨rfl, rfl⟩
              go_wp2_with fail
              refine (Rots_calls x15 18 _ (by decide) rfl _).mono ?_
              rintro e w4 ⟨rfl, rfl⟩
              go_wp2_with fail
              refine (Rots_calls x2 17 _ (by decide) rfl _).mono ?_
              rintro e w4 ⟨rfl, rfl⟩
              go_wp2_with fail
              refine (Rots_calls x2 19 _ (by decide) rfl _).mono ?_
              rintro e w4 ⟨rfl, rfl⟩
              go_wp2
              rw [wv_xor (rotr x15 7) (rotr x15 18), wv_shr3, wv_xor _ (x15 >>> 3), wv_xor (rotr x2 17) (rotr x2 19), wv_shr10, wv_xor _ (x2 >>> 10)]
              go_region
              rw [wv_add4]
              go_wp2
              go_roundw
              case rel =>
                refine ⟨_, _, _, _, _, _, _, _, _, _, _, _, _, _, _, _, _, _, _, _, _, _, _, _, _, _, _, _, _, _, _, _, _, _, _, _, _, _, _, _, _, _, _, _, _, _, _, _, ⟨j + 1, by omega, by omega, ?_, ?_, ?_⟩, rfl⟩
                · go_num
                rotate_left
                · exact Lib.hid (HFj.out.set _ _ (.inl (by simp))).drew.drew
                rw [schTo_next b 0 j (by omega), hsc.out]
                exact Lib.hid (HBj.out.set _ _)
              case measure => simp [intOf]; omega
          · obtain rfl : j = 64 := by omega
            clear HBk HFk HBW
            have hf3 : Fr w W3 [] := HF1.out.trans HFj.out (fun o ho => .inr (fun i e => by simp at ho; subst ho; cases e; exact Nat.le_of_eq HG.out.symm))
            have hb3 : Below w.heap.size w W3 := hf3.below (Nat.le_refl _) (fun o ho => by cases ho)
            have hH3 : HAt W3 h s rdy v nn := ⟨(hb3.block h HH.out.lt).trans HH.out.at'⟩
            have q0 := hH3.cell (j := 0) (by omega)
            have q1 := hH3.cell (j := 1) (by omega)
            have q2 := hH3.cell (j := 2) (by omega)
            have q3 := hH3.cell (j := 3) (by omega)
            have q4 := hH3.cell (j := 4) (by omega)
            have q5 := hH3.cell (j := 5) (by omega)
            have q6 := hH3.cell (j := 6) (by omega)
            have q7 := hH3.cell (j := 7) (by omega)
            have HF3 := Lib.hid hf3
            have HB3 := Lib.hid hb3
            have HH3 := Lib.hid hH3
            have hs3 := hb3.size
            clear hf3 hb3 hH3
            go_wp2
            obtain ⟨gv, hgv⟩ : ∃ gv, gv = W3.heap.size := ⟨_, rfl⟩
            obtain ⟨w4, hw4⟩ : ∃ W, W = W3.alloc (.cells (ints .u32 (s8L s)).toArray 82) := ⟨_, rfl⟩
            have hB4 : Blk w4 gv 82 .u32 (s8L s) := by rw [hw4, hgv]; exact heap_alloc_new W3 _
            have hF4 : Fr W3 w4 [] := by rw [hw4]; exact (Fr.refl W3 []).alloc _
            have hBj4 : Blk w4 g 174 .u32 (schTo b 0 64) := by rw [hw4]; exact HBj.out.alloc _
            have hgg : g < gv := by rw [hgv]; exact HBj.out.lt
            have hwgv : w.heap.size ≤ gv := by rw [hgv]; exact hs3
            simp only [ints, s8L, List.map] at hw4
            simp only [S8.at]
            rw [← hw4, ← hgv]
            have HB4 := Lib.hid hB4
            have HF4 := Lib.hid hF4
            have HBj4 := Lib.hid hBj4
            have HGV := Lib.hid hgv
            clear hB4 hF4 hBj4 hw4 hgv q0 q1 q2 q3 q4 q5 q6 q7 hs3
            as_aux_lemma =>
              go_loopw [107] (fun i wr => ∃ k : Nat, k ≤ 64 ∧ i = .int .i64 k ∧ Hid (Blk wr gv 82 .u32 (s8L (roundsS b 0 s k))) ∧ Hid (Fr w4 wr [some gv])) (fun i _ => 64 - (intOf i).toNat)
              case atStart => exact ⟨0, by omega, rfl, HB4, Lib.hid (Fr.refl _ _)⟩
              case round =>
                obtain ⟨i, hi, rfl, HBi, HFi⟩ := hrel
                obtain ⟨W5, hW5⟩ : ∃ W, W = wr := ⟨_, rfl⟩
                subst hW5
                by_cases hlt3 : i < 64
                · skip
                  as_aux_lemma =>
                    obtain ⟨r, hr⟩ : ∃ r, r = roundsS b 0 s i := ⟨_, rfl⟩
                    have HR5 : Hid (roundsS b 0 s (i + 1) = roundS r (keyS i) (sch b 0 i)) := by rw [hr]; exact Lib.hid rfl
                    rw [← hr] at HBi
                    have v0 := HBi.out.cell (j := 0) (by simp [s8L])
                    have v1 := HBi.out.cell (j := 1) (by simp [s8L])
                    have v2 := HBi.out.cell (j := 2) (by simp [s8L])
                    have v3 := HBi.out.cell (j := 3) (by simp [s8L])
                    have v4 := HBi.out.cell (j := 4) (by simp [s8L])
                    have v5 := HBi.out.cell (j := 5) (by simp [s8L])
                    have v6 := HBi.out.cell (j := 6) (by simp [s8L])
                    have v7 := HBi.out.cell (j := 7) (by simp [s8L])
                    rw [s8L_rd r (by omega)] at v0 v1 v2 v3 v4 v5 v6 v7
                    simp only [S8.at] at v0 v1 v2 v3 v4 v5 v6 v7
                    have hfr := HBi.out.frozen
                    have hBj5 : Blk W5 g 174 .u32 (schTo b 0 64) := HFi.out.blk HBj4.out (by simp; omega)
                    have zw := hBj5.cell (j := i) (by rw [schTo_length]; omega)
                    rw [schTo_low b 0 64 hlt3 hlt3] at zw
                    have hk5 := kept_cell (HB3.out.trans ((HF4.out.trans HFi.out (fun o ho => .inr (fun j e => by simp at ho; subst ho; cases e; exact Nat.le_of_eq HGV.out.symm))).below HB3.out.size (fun o ho => by cases ho))) (HK.out i hlt3)
                    obtain ⟨kk, hkk⟩ : ∃ x, x = keyS i := ⟨_, rfl⟩
                    obtain ⟨ww, hww⟩ : ∃ x, x = sch b 0 i := ⟨_, rfl⟩
                    rw [← hkk, ← hww] at HR5
                    rw [← hkk] at hk5
                    rw [← hww] at zw
                    clear hr hBj5 hkk hww
                    obtain ⟨ra, hra⟩ : ∃ x, x = r.a := ⟨_, rfl⟩
                    obtain ⟨re, hre⟩ : ∃ x, x = r.e := ⟨_, rfl⟩
                    rw [← hra] at v0
                    rw [← hre] at v4
                    have HRA := Lib.hid hra
                    have HRE := Lib.hid hre
                    clear hra hre
                    go_wp2
                    go_region
                    go_wp2_with fail
                    refine (Rots_calls re 6 _ (by decide) rfl _).mono ?_
                    rintro e w6 ⟨rfl, rfl⟩
                    go_wp2_with fail
                    refine (Rots_calls re 11 _ (by decide) rfl _).mono ?_
                    rintro e w6 ⟨rfl, rfl⟩
                    go_wp2_with fail
                    refine (Rots_calls re 25 _ (by decide) rfl _).mono ?_
                    rintro e w6 ⟨rfl, rfl⟩
                    go_wp2
                    rw [wv_xor (rotr re 6) (rotr re 11), wv_xor _ (rotr re 25)]
                    go_region
                    rw [wv_notx, wv_and re r.f, wv_and (~~~re) r.g, wv_xor (re &&& r.f), wv_add4, wv_addM]
                    as_aux_lemma =>
                      obtain ⟨t, ht⟩ : ∃ t, t = r.h + (rotr re 6 ^^^ rotr re 11 ^^^ rotr re 25) + (re &&& r.f ^^^ ~~~re &&& r.g) + kk + ww := ⟨_, rfl⟩
                      have hT : tS r kk ww = t := by rw [ht, HRE.out]; rfl
                      rw [← ht]
                      clear ht
                      have HT := Lib.hid hT
                      clear hT
                      go_wp2_with fail
                      refine (Rots_calls ra 2 _ (by decide) rfl _).mono ?_
                      rintro e w6 ⟨rfl, rfl⟩
                      go_wp2_with fail
                      refine (Rots_calls ra 13 _ (by decide) rfl _).mono ?_
                      rintro e w6 ⟨rfl, rfl⟩
                      go_wp2_with fail
                      refine (Rots_calls ra 22 _ (by decide) rfl _).mono ?_
                      rintro e w6 ⟨rfl, rfl⟩
                      go_upto_region 22 with fail
                      rw [wv_xor (rotr ra 2) (rotr ra 13), wv_xor _ (rotr ra 22), wv_and ra r.b, wv_and ra r.c, wv_and r.b r.c, wv_xor (ra &&& r.b), wv_xor _ (r.b &&& r.c), wv_addM]
                      as_aux_lemma =>
                        obtain ⟨u, hu⟩ : ∃ u, u = (rotr ra 2 ^^^ rotr ra 13 ^^^ rotr ra 22) + (ra &&& r.b ^^^ ra &&& r.c ^^^ r.b &&& r.c) := ⟨_, rfl⟩
                        have hU : uS r = u := by rw [hu, HRA.out]; rfl
                        rw [← hu]
                        clear hu
                        have HU := Lib.hid hU
                        clear hU
                        obtain ⟨W6, hW6⟩ : ∃ W, W = W5.drew.drew := ⟨_, rfl⟩
                        rw [← hW6]
                        have hB6 : Blk W6 gv 82 .u32 (s8L r) := by rw [hW6]; exact HBi.out
                        have hF6 : Fr w4 W6 [some gv] := by rw [hW6]; exact HFi.out.drew.drew
                        have hcp := copy_shift W6.drew gv r hB6
                        have HB6 := Lib.hid hB6
                        have HF6 := Lib.hid hF6
                        clear hW6 hB6 hF6 v0 v1 v2 v3 v4 v5 v6 v7 hfr zw hk5
                        go_region
                        as_aux_lemma =>
                          obtain ⟨q, hq⟩ : ∃ q : S8, q = ⟨r.a, r.a, r.b, r.c, r.d, r.e, r.f, r.g⟩ := ⟨_, rfl⟩
                          rw [← hq]
                          obtain ⟨W7, hW7⟩ : ∃ W, W = W6.drew.setRow gv (ints .u32 (s8L q)).toArray := ⟨_, rfl⟩
                          have hB7 : Blk W7 gv 82 .u32 (s8L q) := by rw [hW7]; exact setRow_heap _ gv _ _ _ _ HB6.out
                          have hF7 : Fr w4 W7 [some gv] := by
                            rw [hW7]
                            exact ⟨HF6.out.os, HF6.out.tape, HF6.out.output, by simpa using HF6.out.size, fun k hk hS => (setRow_other _ gv k _ (fun e => hS (some gv) (by simp) (by rw [e]))).trans (HF6.out.block k hk hS)⟩
                          rw [← hW7]
                          have HB7 := Lib.hid hB7
                          have HF7 := Lib.hid hF7
                          have v0 := hB7.cell (j := 0) (by simp [s8L])
                          have v4 := hB7.cell (j := 4) (by simp [s8L])
                          rw [s8L_rd q (by omega)] at v0 v4
                          have HQ := Lib.hid hq
                          have hqd : q.at 4 = r.d := by rw [hq]; rfl
                          rw [hqd] at v4
                          have f0 := hB7.frozen 0
                          have f4 := hB7.frozen 4
                          clear hB7 hF7 hW7 hq hqd hcp
                          go_wp2
                          rw [wv_addM, wv_addM]
                          go_roundw
                          case rel =>
                            refine ⟨_, _, _, _, _, _, _, _, _, _, _, _, _, _, _, _, _, _, _, _, _, _, _, _, _, _, _, _, _, _, _, _, _, _, _, _, _, _, _, _, _, _, _, _, _, _, _, _, _, _, _, _, _, _, _, _, _, _, _, _, _, _, _, _, _, _, _, _, _, _, _, _, _, _, _, _, _, _, _, _, _, _, _, ⟨i + 1, by omega, ?_, ?_, ?_⟩, rfl⟩
                            · go_num
                            rotate_left
                            · exact Lib.hid ((HF7.out.set _ _ (.inl (by simp))).set _ _ (.inl (by simp)))
                            have h9 := (HB7.out.set 4 (wv (r.d + t))).set 0 (wv (t + u))
                            have e9 : ((s8L q).set 4 (wv (r.d + t))).set 0 (wv (t + u)) = s8L (roundsS b 0 s (i + 1)) := by
                              rw [HR5.out, HQ.out]
                              unfold roundS
                              rw [HT.out, HU.out]
                              rfl
                            rw [e9] at h9
                            exact Lib.hid h9
                          case measure => simp [intOf]; omega
                · obtain rfl : i = 64 := by omega
                  obtain ⟨R, hR⟩ : ∃ R, R = roundsS b 0 s 64 := ⟨_, rfl⟩
                  have HRR := Lib.hid hR
                  rw [← hR] at HBi
                  have hs : (ints .u32 (s8L R)).toArray.size = 8 := by simp [ints, s8L]
                  have Hs := Lib.hid hs
                  have hf5 : Fr w W5 [] := HF3.out.trans (HF4.out.trans HFi.out (fun o ho => .inr (fun j e => by simp at ho; subst ho; cases e; exact Nat.le_of_eq HGV.out.symm))) (fun o ho => .inl ho)
                  have hH5 : HAt W5 h s rdy v nn := ⟨((hf5.below (Nat.le_refl _) (fun o ho => by cases ho)).block h HH.out.lt).trans HH.out.at'⟩
                  have HF5 := Lib.hid (hf5.mono (T := [some h]) (fun o ho => by cases ho))
                  have HH5 := Lib.hid hH5
                  have hhg : h < w.heap.size := HH.out.lt
                  clear hR hs hf5 hH5
                  as_aux_lemma =>
                    go_wp2_with (refine wpList_load_row rfl 82 _ rfl gv rfl 82 _ (0, 0) _ HBi.out Tryd.underlying82 rfl (by rw [Hs.out]; kernel_rfl) ?_)
                    go_loopw [184] (fun i wr => ∃ k : Nat, k ≤ 8 ∧ i = .int .i64 k ∧ Hid (HAt wr h (plusTo s R k) rdy v nn) ∧ Hid (Fr W5 wr [some h])) (fun i _ => 8 - (intOf i).toNat)
                    case atStart => exact ⟨0, by omega, rfl, HH5, Lib.hid (Fr.refl _ _)⟩
                    case round =>
                      obtain ⟨k, hk, rfl, HHk, HFk⟩ := hrel
                      obtain ⟨W8, hW8⟩ : ∃ W, W = wr := ⟨_, rfl⟩
                      subst hW8
                      by_cases hlt4 : k < 8
                      · have hix := run_index8 R hlt4
                        have z0 := HHk.out.cell hlt4
                        rw [plusTo_at s R hlt4, if_neg (Nat.lt_irrefl k)] at z0
                        have f0 := frozen_of_row W8 h k _ _ HHk.out.at'
                        go_wp2
                        go_region
                        rw [wv_addM]
                        go_wp2
                        go_roundw
                        case rel =>
                          refine ⟨k + 1, by omega, by go_num, ?_, Lib.hid (HFk.out.set _ _ (.inl (by simp))).drew⟩
                          rw [plusTo_next s R hlt4]
                          have h9 := HHk.out.put hlt4 (s.at k + R.at k)
                          exact Lib.hid ⟨h9.at'⟩
                        case measure => simp [intOf]; omega
                      · obtain rfl : k = 8 := by omega
                        go_wp2
                        go_end0
                        refine ⟨rfl, ?_, ?_⟩
                        · rw [plusTo_all, HRR.out] at HHk
                          exact HHk.out
                        · exact HF5.out.trans HFk.out (fun o ho => .inl ho)
end Go.Proofs.YtendohnkhbgfbaaDoor
/-
  An append of a read slice, as one operation of a region that draws its order.
-/
namespace Go.Proofs.YtendohnkhbgfbaaDoor
open Go.RowKit

theorem step_appRd {P : Program} {w : World} {ops : Array Oper} {o : Oper} {a : Act} {K : Act → World → Prop} {Q : Exit → Act → World → Prop} {E : Prop} (hgd : o.guard = none) (s x : Operand) {t : TypeId}
    (ho : o.op = .call { callee := .builtin .append, args := #[s, x], argTypes := #[t, t] })
    {base : Nat} {e : TypeId} {k : IntKind} {bytes : Nat} (El : ElT P t e (.int k 0) 1 bytes) {v : Value} {n : Nat} {ys : List Int} (hown : w.ownsRow base e 1 v n (ints k ys)) (hs : a.eval s = v)
    {A : Option Addr} {m c : Nat} {zs : List Int} (hx : a.eval x = .slice A m c) (hR : Rd w k A m zs) (hA : A = none → m = 0 ∧ c = 0) (hbytes : (n + m) * bytes ≤ 140737488355328) (hbase : base ≤ w.heap.size)
    (h : ∀ v' w', w'.ownsRow base e 1 v' (n + m) (ints k (ys ++ zs)) → w.grownBy w' v.ownBlock → K (a.put o.dst v') w') : if Region.wanted o (yielded ops a.tmps) = true then Oper.wp P o a w K Q else E := by
  have hw : Region.wanted o (yielded ops a.tmps) = true := by simp [Region.wanted, hgd]
  rw [if_pos hw]
  obtain ⟨i0, hi, hz0, hz1, hz2⟩ := info_parts El.info
  have hn : n + m ≤ maxLen := by
    have := Nat.mul_le_mul_left (n + m) El.bpos
    unfold maxLen
    omega
  have hl := hR.1
  cases A with
  | none =>
    obtain ⟨rfl, rfl⟩ := hA rfl
    have hz : zs = [] := List.length_eq_zero_iff.1 hl
    subst hz
    have hrun := run_append_owned_none (P := P) (w := w) base t o.type e i0 1 El.und hi v n _ hown
    have h9 := h v w (by simpa using hown) ⟨rfl, rfl, rfl, Nat.le_refl _, fun _ _ _ => rfl⟩
    unfold Oper.wp
    simp [execOp, ho, resolve, invoke, builtin, hs, hx, hrun, Result.andThen]
    exact h9
  | some ad =>
    refine wp_append_own _ s x t ho base e i0 (.int k 0) 1 bytes El.und hi hz0 hz1 hz2 El.zs El.pos v n _ hs hown ad m c (ints k zs) hx (by rw [ints_length]; omega) ?_ (fun u hu => ?_) hn hbytes hbase ?_
    · intro j u hu
      have hj : j < zs.length := by
        have := (List.getElem?_eq_some_iff.1 hu).1
        rwa [ints_length] at this
      obtain ⟨b, o', e', hc⟩ := hR.2 (by omega)
      cases e'
      rw [ints_get hj] at hu
      cases hu
      rw [addr_add]
      exact hc j (by omega)
    · obtain ⟨q, _, rfl⟩ := List.mem_map.1 hu
      rfl
    · intro v' w' h1 h2 _
      exact h v' w' (by rw [ints_append]; exact h1) h2
end Go.Proofs.YtendohnkhbgfbaaDoor
/-
  The walks of sha's Hasher.
-/
namespace Go.Proofs.YtendohnkhbgfbaaDoor
open Go.RowKit

def BeginAt (w : World) : Prop := ∀ j, j < 8 → w.cell? ⟨2, j, none⟩ = some (.int .u32 (wv (firstS.at j)))
theorem HAt.c8 {w : World} {h : Nat} {s : S8} {rdy : Bool} {v : Value} {n : Nat} (H : HAt w h s rdy v n) : w.cell? ⟨h, 8, none⟩ = some (.bool rdy) := by rw [cell_of_row w h 8 _ _ (0, 0) H.at']; rfl
theorem HAt.c9 {w : World} {h : Nat} {s : S8} {rdy : Bool} {v : Value} {n : Nat} (H : HAt w h s rdy v n) : w.cell? ⟨h, 9, none⟩ = some v := by rw [cell_of_row w h 9 _ _ (0, 0) H.at']; rfl
theorem HAt.c10 {w : World} {h : Nat} {s : S8} {rdy : Bool} {v : Value} {n : Nat} (H : HAt w h s rdy v n) : w.cell? ⟨h, 10, none⟩ = some (.int .u64 n) := by rw [cell_of_row w h 10 _ _ (0, 0) H.at']; rfl
theorem HAt.frozen {w : World} {h : Nat} {s : S8} {rdy : Bool} {v : Value} {n : Nat} (H : HAt w h s rdy v n) (j : Nat) : w.frozen? ⟨h, j, none⟩ = false := frozen_of_row w h j _ _ H.at'
theorem HAt.setR {w : World} {h : Nat} {s : S8} {rdy : Bool} {v : Value} {n : Nat} (H : HAt w h s rdy v n) (b : Bool) : HAt (w.setCell ⟨h, 8, none⟩ (.bool b)) h s b v n := by
  constructor
  rw [heap_setCell_same w h 8 _ _ _ H.at']
  rfl
theorem HAt.setV {w : World} {h : Nat} {s : S8} {rdy : Bool} {v : Value} {n : Nat} (H : HAt w h s rdy v n) (v' : Value) : HAt (w.setCell ⟨h, 9, none⟩ v') h s rdy v' n := by
  constructor
  rw [heap_setCell_same w h 9 _ _ _ H.at']
  rfl
theorem HAt.setN {w : World} {h : Nat} {s : S8} {rdy : Bool} {v : Value} {n : Nat} (H : HAt w h s rdy v n) (m : Nat) : HAt (w.setCell ⟨h, 10, none⟩ (.int .u64 m)) h s rdy v m := by
  constructor
  rw [heap_setCell_same w h 10 _ _ _ H.at']
  rfl
theorem HAt.fr {w w' : World} {h : Nat} {s : S8} {rdy : Bool} {v : Value} {n : Nat} {S : List (Option Nat)} (H : HAt w h s rdy v n) (hf : Fr w w' S) (hS : some h ∉ S) : HAt w' h s rdy v n :=
  ⟨(hf.block h H.lt (fun _ ho e => hS (e ▸ ho))).trans H.at'⟩
def zeroS : S8 := ⟨0, 0, 0, 0, 0, 0, 0, 0⟩
set_option maxHeartbeats 1000000 in
set_option maxRecDepth 100000 in
theorem start_calls (h : Nat) (s : S8) (rdy : Bool) (v : Value) (nn : Nat) (w : World) (hH : HAt w h s rdy v nn) (hB : BeginAt w) :
    Calls Tryd.prog 77 #[.pointer (some ⟨h, 0, none⟩)] w fun e w' => e = .returned (.tuple #[]) ∧ HAt w' h (if rdy then s else firstS) true v nn ∧ Fr w w' [some h] := by
  have HH := Lib.hid hH
  have c8 := hH.c8
  have f8 := hH.frozen 8
  cases rdy
  · have b0 := hB 0 (by omega)
    have b1 := hB 1 (by omega)
    have b2 := hB 2 (by omega)
    have b3 := hB 3 (by omega)
    have b4 := hB 4 (by omega)
    have b5 := hB 5 (by omega)
    have b6 := hB 6 (by omega)
    have b7 := hB 7 (by omega)
    have z0 := hH.cell (j := 0) (by omega)
    have z1 := hH.cell (j := 1) (by omega)
    have z2 := hH.cell (j := 2) (by omega)
    have z3 := hH.cell (j := 3) (by omega)
    have z4 := hH.cell (j := 4) (by omega)
    have z5 := hH.cell (j := 5) (by omega)
    have z6 := hH.cell (j := 6) (by omega)
    have z7 := hH.cell (j := 7) (by omega)
    have f0 := hH.frozen 0
    have f1 := hH.frozen 1
    have f2 := hH.frozen 2
    have f3 := hH.frozen 3
    have f4 := hH.frozen 4
    have f5 := hH.frozen 5
    have f6 := hH.frozen 6
    have f7 := hH.frozen 7
    clear hH hB
    go_enter Tryd.func77, Tryd.ntmps77
    go_wp2
    go_end0
    refine ⟨rfl, ?_, ?_⟩
    · have h9 := ((((((((HH.out.put (j := 0) (by omega) (firstS.at 0)).put (j := 1) (by omega) (firstS.at 1)).put (j := 2) (by omega) (firstS.at 2)).put (j := 3) (by omega) (firstS.at 3)).put (j := 4) (by omega) (firstS.at 4)).put (j := 5) (by omega) (firstS.at 5)).put (j := 6) (by omega) (firstS.at 6)).put (j := 7) (by omega) (firstS.at 7)).setR true
      exact ⟨h9.at'⟩
    · exact (((((((((Fr.refl _ _).set _ _ (.inl (by simp))).set _ _ (.inl (by simp))).set _ _ (.inl (by simp))).set _ _ (.inl (by simp))).set _ _ (.inl (by simp))).set _ _ (.inl (by simp))).set _ _ (.inl (by simp))).set _ _ (.inl (by simp))).set _ _ (.inl (by simp))
  · clear hH hB
    go_enter Tryd.func77, Tryd.ntmps77
    go_wp2
    go_end0
    exact ⟨rfl, HH.out, Fr.refl _ _⟩
theorem wpList_appRdF {P : Program} {w : World} {ops : Array Oper} {rest : List Oper} {o : Oper} {a : Act} {Q : Exit → Act → World → Prop} (hgd : o.guard = none) (s x : Operand) {t : TypeId}
    (ho : o.op = .call { callee := .builtin .append, args := #[s, x], argTypes := #[t, t] })
    {base : Nat} {e : TypeId} {k : IntKind} {bytes : Nat} (El : ElT P t e (.int k 0) 1 bytes) {v : Value} {n : Nat} {ys : List Int} (hown : w.ownsRow base e 1 v n (ints k ys)) (hs : a.eval s = v)
    {A : Option Addr} {m c : Nat} {zs : List Int} (hx : a.eval x = .slice A m c) (hR : Rd w k A m zs) (hA : A = none → m = 0 ∧ c = 0) (hbytes : (n + m) * bytes ≤ 140737488355328) (hbase : base ≤ w.heap.size)
    (h : ∀ v' w', w'.ownsRow base e 1 v' (n + m) (ints k (ys ++ zs)) → Fr w w' [v.ownBlock] → (v'.ownBlock = v.ownBlock ∨ ∀ k, v'.ownBlock = some k → w.heap.size ≤ k) → wpList P ops Q rest (a.put o.dst v') w') : wpList P ops Q (o :: rest) a w := by
  obtain ⟨i0, hi, hz0, hz1, hz2⟩ := info_parts El.info
  have hn : n + m ≤ maxLen := by
    have := Nat.mul_le_mul_left (n + m) El.bpos
    unfold maxLen
    omega
  have hl := hR.1
  cases A with
  | none =>
    obtain ⟨rfl, rfl⟩ := hA rfl
    have hz : zs = [] := List.length_eq_zero_iff.1 hl
    subst hz
    refine wpList_append_own_none hgd s x t ho base e i0 1 El.und hi v n _ hs hown hx (h v w ?_ (Fr.refl _ _) (.inl rfl))
    simpa using hown
  | some ad =>
    refine wpList_append_own_at _ hgd s x t ho base e i0 (.int k 0) 1 bytes El.und hi hz0 hz1 hz2 El.zs El.pos v n _ hs hown ad m c (ints k zs) hx (by rw [ints_length]; omega) ?_ (fun u hu => ?_) hn hbytes hbase ?_
    · intro j u hu
      have hj : j < zs.length := by
        have := (List.getElem?_eq_some_iff.1 hu).1
        rwa [ints_length] at this
      obtain ⟨b, o', e', hc⟩ := hR.2 (by omega)
      cases e'
      rw [ints_get hj] at hu
      cases hu
      rw [addr_add]
      exact hc j (by omega)
    · unfold ints at hu
      obtain ⟨y, _, rfl⟩ := List.mem_map.1 hu
      rfl
    · intro v' w' h2 h3 _ h5
      rw [← ints_append] at h2
      exact h v' w' h2 (Fr.ofGrown h3) (h5.imp id (fun e k hk => by rw [e] at hk; cases hk; exact Nat.le_refl _))
theorem cell_fr {w w' : World} {S : List (Option Nat)} (hf : Fr w w' S) {b o : Nat} {v : Value} (hc : w.cell? ⟨b, o, none⟩ = some v) (hb : some b ∉ S) : w'.cell? ⟨b, o, none⟩ = some v := by
  have hlt : b < w.heap.size := by
    rcases Nat.lt_or_ge b w.heap.size with h | h
    · exact h
    · have : w.heap[b]? = none := Array.getElem?_eq_none h
      simp [World.cell?, this] at hc
  have := hf.block b hlt (fun _ ho e => hb (e ▸ ho))
  unfold World.cell? at hc ⊢
  rw [this]
  exact hc
theorem rd_fr {w w' : World} {S : List (Option Nat)} (hf : Fr w w' S) {k : IntKind} {A : Option Addr} {n : Nat} {xs : List Int} (h : Rd w k A n xs) (hA : ∀ b o, A = some ⟨b, o, none⟩ → 0 < n → some b ∉ S) : Rd w' k A n xs :=
  ⟨h.1, fun h0 => by
    obtain ⟨b, o, e, hc⟩ := h.2 h0
    exact ⟨b, o, e, fun j hj => cell_fr hf (hc j hj) (hA b o e h0)⟩⟩
/-- Slices of bytes behind each other. -/
structure PartsAt (w : World) (A : Option Addr) (n : Nat) (P : List (List Int)) : Prop where
  len : P.length = n
  at' : 0 < n → ∃ b o, A = some ⟨b, o, none⟩ ∧ ∀ j, j < n → ∃ A' n' c', w.cell? ⟨b, o + j, none⟩ = some (.slice A' n' c') ∧ Rd w .u8 A' n' (P.getD j []) ∧ (A' = none → n' = 0 ∧ c' = 0) ∧ n' ≤ c'
def flat (P : List (List Int)) (j : Nat) : List Int := (P.take j).flatten
theorem flatP_next {P : List (List Int)} {j : Nat} (h : j < P.length) : flat P (j + 1) = flat P j ++ P.getD j [] := by
  unfold flat
  rw [List.take_add_one, List.getElem?_eq_getElem h, List.flatten_append, List.getD_eq_getElem?_getD, List.getElem?_eq_getElem h]
  simp
theorem flatP_le (P : List (List Int)) (j : Nat) : (flat P j).length ≤ P.flatten.length := by
  have h : P.flatten = (P.take j).flatten ++ (P.drop j).flatten := by rw [← List.flatten_append, List.take_append_drop]
  rw [h, List.length_append]
  exact Nat.le_add_right _ _
theorem flatP_all (P : List (List Int)) : flat P P.length = P.flatten := by unfold flat; rw [List.take_length]
/-- A hasher that has taken bytes in. -/
structure HSt (w : World) (h : Nat) (b : List Int) (A : Option Addr) (m c : Nat) : Prop where
  at' : HAt w h (blocksS b (b.length / 64)) true (.slice A m c) b.length
  rd : Rd w .u8 A m (b.drop (64 * (b.length / 64)))
  nil : A = none → m = 0 ∧ c = 0
  cap : m ≤ c
end Go.Proofs.YtendohnkhbgfbaaDoor
