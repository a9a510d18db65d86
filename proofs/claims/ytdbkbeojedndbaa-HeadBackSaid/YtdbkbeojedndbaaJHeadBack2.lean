/-
  Texts joined into one file: UtfR, RActor.
-/
import Derived.Test.YtdbkbeojedndbaaJHeadG8
import Derived.Test.YtdbkbeojedndbaaJHeadG3
import Derived.Test.YtdbkbeojedndbaaJHeadG4
import Derived.Deep.RegionHeld3
import Derived.Deep.Cut
import Derived.Deep.CutRange
import Derived.Deep.CutBlock
import Derived.Test.YtdbkbeojedndbaaJAw201
/-
  The walks of the reference's package for UTF-8. Printed by gen_utf.py.
-/
namespace Go.Proofs.Ytdbkbeojedndbaa
open Go.RowKit

theorem conv_lit (w : World) (T : TypeId) (ns : List Int) (c : Array Value) (n : Nat) (hc : c.toList = ints .u8 ns) (hn : n = ns.length) : (convert 22 9 (.slice (some ⟨w.heap.size, 0, none⟩) n n)).run Try.prog (w.alloc (.cells c T)) = .ok (.string (strOfNums ns)) (w.alloc (.cells c T)) := by
  subst hn
  refine conv_all ⟨rfl, fun _ => ⟨w.heap.size, 0, rfl, fun j hj => ?_⟩⟩
  have h := news_at w c T j (.int .u8 (rd ns j)) (by
    rw [hc]
    unfold ints rd
    rw [List.getElem?_map, List.getD_eq_getElem?_getD, List.getElem?_eq_getElem hj]
    rfl)
  rw [addr_add] at h
  exact h
set_option maxHeartbeats 1000000 in
set_option maxRecDepth 100000 in
theorem chPut_calls (n : Int) (w : World) (hn : -1000000000 ≤ n ∧ n ≤ 1000000000) :
    Calls Try.prog 94 #[.int .i64 n] w fun e w' => e = .returned (.string (strOfNums (rPut n))) ∧ Below w.heap.size w w' := by
  obtain ⟨hn0, hn1⟩ := hn
  go_enter Try.func94, Try.ntmps94
  obtain ⟨r, hr⟩ : ∃ r, r = rPut n := ⟨_, rfl⟩
  rw [← hr]
  have Hr := Lib.hid hr
  clear hr
  by_cases h0 : n < 0
  · have hrz : r = [] := by rw [Hr.out]; unfold rPut; rw [if_pos (by omega)]
    rw [hrz]
    go_wp2_with fail
    go_ret
    exact ⟨rfl, Below.refl _ _⟩
  · by_cases h1 : 1114111 < n
    · have hrz : r = [] := by rw [Hr.out]; unfold rPut; rw [if_pos (by omega)]
      rw [hrz]
      go_wp2_with fail
      go_ret
      exact ⟨rfl, Below.refl _ _⟩
    · have key : ∀ l, rPut n = l → (∀ (v : ByteArray) , v = strOfNums l → strOfNums r = v) := fun l h v hv => by rw [hv, Hr.out, h]
      have Key := Lib.hid key
      clear key
      have hn2 : 0 ≤ n := by omega
      by_cases h2 : n < 128
      · have h9 : ¬ 55296 ≤ n := by omega
        have cv := conv_lit w 5 [n] #[.int .u8 n] 1 rfl rfl
        have hrz := Lib.hid (Key.out [n] (by unfold rPut; rw [if_neg (by omega), if_pos (by omega)]) _ rfl)
        go_wp2_with fail
        go_ret
        exact ⟨by rw [hrz.out]; rfl, (Below.refl _ _).alloc (Nat.le_refl _) _⟩
      · by_cases h3 : n < 2048
        · have h9 : ¬ 55296 ≤ n := by omega
          obtain ⟨a, ha⟩ : ∃ a : Int, n.tdiv 64 = a := ⟨_, rfl⟩
          obtain ⟨d, hd⟩ : ∃ d : Int, n.tmod 64 = d := ⟨_, rfl⟩
          have pa : n / 64 = a := by rw [← ha, Int.tdiv_eq_ediv_of_nonneg (by omega)]
          have pd : n % 64 = d := by rw [← hd, Int.tmod_eq_emod_of_nonneg (by omega)]
          have a0 : 0 ≤ a := by omega
          have a1 : a ≤ 31 := by omega
          have d0 : 0 ≤ d := by omega
          have d1 : d ≤ 63 := by omega
          have cv := conv_lit w 5 [192 + a, 128 + d] #[.int .u8 (192 + a), .int .u8 (128 + d)] 2 rfl rfl
          have HE := Lib.hid (show ([192 + a, 128 + d] : List Int) = [192 + n / 64, 128 + n % 64] by rw [pa, pd])
          have hrz := Lib.hid (Key.out [192 + a, 128 + d] (by rw [HE.out]; unfold rPut; rw [if_neg (by omega), if_neg (by omega), if_pos (by omega)]) _ rfl)
          clear pa pd
          go_wp2_with fail
          go_ret
          exact ⟨by rw [hrz.out]; rfl, (Below.refl _ _).alloc (Nat.le_refl _) _⟩
        · by_cases h4 : n < 65536
          · by_cases h5 : 55296 ≤ n
            · by_cases h6 : n ≤ 57343
              · have hrz := Lib.hid (Key.out [] (by unfold rPut; rw [if_pos (by omega)]) _ rfl)
                go_wp2_with fail
                go_ret
                exact ⟨by rw [hrz.out]; rfl, Below.refl _ _⟩
              · obtain ⟨a, ha⟩ : ∃ a : Int, n.tdiv 4096 = a := ⟨_, rfl⟩
                obtain ⟨b, hb⟩ : ∃ b : Int, n.tdiv 64 = b := ⟨_, rfl⟩
                obtain ⟨c, hc⟩ : ∃ c : Int, b.tmod 64 = c := ⟨_, rfl⟩
                obtain ⟨d, hd⟩ : ∃ d : Int, n.tmod 64 = d := ⟨_, rfl⟩
                have pa : n / 4096 = a := by rw [← ha, Int.tdiv_eq_ediv_of_nonneg (by omega)]
                have pb : n / 64 = b := by rw [← hb, Int.tdiv_eq_ediv_of_nonneg (by omega)]
                have pc : b % 64 = c := by rw [← hc, Int.tmod_eq_emod_of_nonneg (by omega)]
                have pd : n % 64 = d := by rw [← hd, Int.tmod_eq_emod_of_nonneg (by omega)]
                have a0 : 0 ≤ a := by omega
                have a1 : a ≤ 15 := by omega
                have b0 : 0 ≤ b := by omega
                have b1 : b ≤ 1023 := by omega
                have c0 : 0 ≤ c := by omega
                have c1 : c ≤ 63 := by omega
                have d0 : 0 ≤ d := by omega
                have d1 : d ≤ 63 := by omega
                have cv := conv_lit w 5 [224 + a, 128 + c, 128 + d] #[.int .u8 (224 + a), .int .u8 (128 + c), .int .u8 (128 + d)] 3 rfl rfl
                have HE := Lib.hid (show ([224 + a, 128 + c, 128 + d] : List Int) = [224 + n / 4096, 128 + n / 64 % 64, 128 + n % 64] by rw [pa, pb, pc, pd])
                have hrz := Lib.hid (Key.out [224 + a, 128 + c, 128 + d] (by rw [HE.out]; unfold rPut; rw [if_neg (by omega), if_neg (by omega), if_neg (by omega), if_pos (by omega)]) _ rfl)
                clear pa pb pc pd
                go_wp2_with fail
                go_ret
                exact ⟨by rw [hrz.out]; rfl, (Below.refl _ _).alloc (Nat.le_refl _) _⟩
            · obtain ⟨a, ha⟩ : ∃ a : Int, n.tdiv 4096 = a := ⟨_, rfl⟩
              obtain ⟨b, hb⟩ : ∃ b : Int, n.tdiv 64 = b := ⟨_, rfl⟩
              obtain ⟨c, hc⟩ : ∃ c : Int, b.tmod 64 = c := ⟨_, rfl⟩
              obtain ⟨d, hd⟩ : ∃ d : Int, n.tmod 64 = d := ⟨_, rfl⟩
              have pa : n / 4096 = a := by rw [← ha, Int.tdiv_eq_ediv_of_nonneg (by omega)]
              have pb : n / 64 = b := by rw [← hb, Int.tdiv_eq_ediv_of_nonneg (by omega)]
              have pc : b % 64 = c := by rw [← hc, Int.tmod_eq_emod_of_nonneg (by omega)]
              have pd : n % 64 = d := by rw [← hd, Int.tmod_eq_emod_of_nonneg (by omega)]
              have a0 : 0 ≤ a := by omega
              have a1 : a ≤ 15 := by omega
              have b0 : 0 ≤ b := by omega
              have b1 : b ≤ 1023 := by omega
              have c0 : 0 ≤ c := by omega
              have c1 : c ≤ 63 := by omega
              have d0 : 0 ≤ d := by omega
              have d1 : d ≤ 63 := by omega
              have cv := conv_lit w 5 [224 + a, 128 + c, 128 + d] #[.int .u8 (224 + a), .int .u8 (128 + c), .int .u8 (128 + d)] 3 rfl rfl
              have HE := Lib.hid (show ([224 + a, 128 + c, 128 + d] : List Int) = [224 + n / 4096, 128 + n / 64 % 64, 128 + n % 64] by rw [pa, pb, pc, pd])
              have hrz := Lib.hid (Key.out [224 + a, 128 + c, 128 + d] (by rw [HE.out]; unfold rPut; rw [if_neg (by omega), if_neg (by omega), if_neg (by omega), if_pos (by omega)]) _ rfl)
              clear pa pb pc pd
              go_wp2_with fail
              go_ret
              exact ⟨by rw [hrz.out]; rfl, (Below.refl _ _).alloc (Nat.le_refl _) _⟩
          · have h6 : ¬ n ≤ 57343 := by omega
            obtain ⟨a, ha⟩ : ∃ a : Int, n.tdiv 262144 = a := ⟨_, rfl⟩
            obtain ⟨e, he⟩ : ∃ e : Int, n.tdiv 4096 = e := ⟨_, rfl⟩
            obtain ⟨f, hf⟩ : ∃ f : Int, e.tmod 64 = f := ⟨_, rfl⟩
            obtain ⟨b, hb⟩ : ∃ b : Int, n.tdiv 64 = b := ⟨_, rfl⟩
            obtain ⟨c, hc⟩ : ∃ c : Int, b.tmod 64 = c := ⟨_, rfl⟩
            obtain ⟨d, hd⟩ : ∃ d : Int, n.tmod 64 = d := ⟨_, rfl⟩
            have pa : n / 262144 = a := by rw [← ha, Int.tdiv_eq_ediv_of_nonneg (by omega)]
            have pe : n / 4096 = e := by rw [← he, Int.tdiv_eq_ediv_of_nonneg (by omega)]
            have pf : e % 64 = f := by rw [← hf, Int.tmod_eq_emod_of_nonneg (by omega)]
            have pb : n / 64 = b := by rw [← hb, Int.tdiv_eq_ediv_of_nonneg (by omega)]
            have pc : b % 64 = c := by rw [← hc, Int.tmod_eq_emod_of_nonneg (by omega)]
            have pd : n % 64 = d := by rw [← hd, Int.tmod_eq_emod_of_nonneg (by omega)]
            have a0 : 0 ≤ a := by omega
            have a1 : a ≤ 4 := by omega
            have e0 : 0 ≤ e := by omega
            have e1 : e ≤ 1000 := by omega
            have f0 : 0 ≤ f := by omega
            have f1 : f ≤ 63 := by omega
            have b0 : 0 ≤ b := by omega
            have b1 : b ≤ 100000 := by omega
            have c0 : 0 ≤ c := by omega
            have c1 : c ≤ 63 := by omega
            have d0 : 0 ≤ d := by omega
            have d1 : d ≤ 63 := by omega
            have cv := conv_lit w 5 [240 + a, 128 + f, 128 + c, 128 + d] #[.int .u8 (240 + a), .int .u8 (128 + f), .int .u8 (128 + c), .int .u8 (128 + d)] 4 rfl rfl
            have HE := Lib.hid (show ([240 + a, 128 + f, 128 + c, 128 + d] : List Int) = [240 + n / 262144, 128 + n / 4096 % 64, 128 + n / 64 % 64, 128 + n % 64] by rw [pa, pe, pf, pb, pc, pd])
            have hrz := Lib.hid (Key.out [240 + a, 128 + f, 128 + c, 128 + d] (by rw [HE.out]; unfold rPut; rw [if_neg (by omega), if_neg (by omega), if_neg (by omega), if_neg (by omega)]) _ rfl)
            clear pa pe pf pb pc pd
            go_wp2_with fail
            go_ret
            exact ⟨by rw [hrz.out]; rfl, (Below.refl _ _).alloc (Nat.le_refl _) _⟩
theorem rFirst_bd {k : Nat} {x : Int} (h : 0 ≤ x ∧ x ≤ 255) : -255 ≤ rFirst k x ∧ rFirst k x ≤ 255 := by
  unfold rFirst
  repeat' split
  all_goals omega
theorem rNum_bd {l : List Int} (h : ∀ i, i < l.length → 0 ≤ rd l i ∧ rd l i ≤ 255) (k : Nat) : ∀ i, i < l.length → i ≤ 3 → -(300 * 70 ^ i) ≤ rNum l k i ∧ rNum l k i ≤ 300 * 70 ^ i := by
  intro i
  induction i with
  | zero =>
    intro hi _
    have := rFirst_bd (k := k) (h 0 hi)
    show -(300 * 1) ≤ rFirst k (rd l 0) ∧ rFirst k (rd l 0) ≤ 300 * 1
    omega
  | succ i ih =>
    intro hi h3
    have h1 := ih (by omega) (by omega)
    have h2 := h (i + 1) hi
    show -(300 * 70 ^ (i + 1)) ≤ rNum l k i * 64 + rd l (i + 1) - 128 ∧ rNum l k i * 64 + rd l (i + 1) - 128 ≤ 300 * 70 ^ (i + 1)
    have e : (70 : Int) ^ (i + 1) = 70 ^ i * 70 := Int.pow_succ ..
    have p : (1 : Int) ≤ 70 ^ i := by
      rcases (show i = 0 ∨ i = 1 ∨ i = 2 by omega) with rfl | rfl | rfl <;> decide
    rw [e]
    omega
theorem rNum_bd8 {l : List Int} (h : ∀ i, i < l.length → 0 ≤ rd l i ∧ rd l i ≤ 255) (k i : Nat) (hi : i < l.length) (h3 : i ≤ 3) : -150000000 ≤ rNum l k i ∧ rNum l k i ≤ 150000000 := by
  have h1 := rNum_bd h k i hi h3
  rcases (show i = 0 ∨ i = 1 ∨ i = 2 ∨ i = 3 by omega) with rfl | rfl | rfl | rfl
  · rw [show (300 : Int) * 70 ^ 0 = 300 by decide] at h1; omega
  · rw [show (300 : Int) * 70 ^ 1 = 21000 by decide] at h1; omega
  · rw [show (300 : Int) * 70 ^ 2 = 1470000 by decide] at h1; omega
  · rw [show (300 : Int) * 70 ^ 3 = 102900000 by decide] at h1; omega
theorem rPut_byte {n : Int} : ∀ x ∈ rPut n, 0 ≤ x ∧ x ≤ 255 := by
  intro x hx
  unfold rPut at hx
  split at hx
  · cases hx
  · split at hx
    · simp at hx; omega
    · split at hx
      · simp at hx; omega
      · split at hx
        · simp at hx; omega
        · simp at hx; omega
set_option maxHeartbeats 1000000 in
set_option maxRecDepth 100000 in
theorem chNext_calls (s : ByteArray) (w : World) (hs : s.size ≤ 140737488355328) :
    Calls Try.prog 71 #[.string s] w fun e w' => e = .returned (.int .i64 (uNext (nums s) : Nat)) ∧ Below w.heap.size w w' := by
  go_enter Try.func71, Try.ntmps71
  obtain ⟨r, hr⟩ : ∃ r, r = uNext (nums s) := ⟨_, rfl⟩
  rw [← hr]
  have Hr := Lib.hid hr
  have Hb : Hid (∀ i, i < (nums s).length → 0 ≤ rd (nums s) i ∧ rd (nums s) i ≤ 255) := Lib.hid (fun i hi => byte_rng s (by rw [nums_length] at hi; exact hi))
  clear hr
  go_wp2_with fail
  go_loopw [3] (fun i wr => ∃ k : Nat, k ≤ 5 ∧ 1 ≤ k ∧ i = .int .i64 k ∧ Hid (∀ j, 1 ≤ j → j < k → ¬ uIs (nums s) j) ∧ Hid (Below w.heap.size w wr)) (fun i _ => 5 - (intOf i).toNat)
  case atStart => exact ⟨1, by omega, by omega, rfl, Lib.hid (fun j h1 h2 => by omega), Below.refl _ _⟩
  case round =>
    obtain ⟨k, hk, hk1, rfl, HN, HB⟩ := hrel
    obtain ⟨W, hW⟩ : ∃ W, W = wr := ⟨_, rfl⟩
    subst hW
    have hsz := HB.out.size
    by_cases h4 : k ≤ 4
    · by_cases hks : k ≤ s.size
      · have h0 : 0 < s.size := by omega
        obtain ⟨x, hx⟩ : ∃ x : Int, (s[0].toNat : Int) = x := ⟨_, rfl⟩
        have hxr := byte_rng s h0
        rw [rd_nums h0, hx] at hxr
        have Hx := Lib.hid (show rd (nums s) 0 = x by rw [rd_nums h0, hx])
        obtain ⟨hx0, hx1⟩ := hxr
        obtain ⟨z1, hz1⟩ : ∃ z : Int, z = if k = 2 then x - 192 else x := ⟨_, rfl⟩
        have Hz1 := Lib.hid hz1
        clear hz1
        go_upto_if 22 with fail
        go_cut [5] from 7 to 56 (fun v wx => v = .int .i64 z1 ∧ wx = W)
        case first =>
          by_cases hk9 : k = 2
          · subst hk9
            have e9 : z1 = x - 192 := by rw [Hz1.out, if_pos rfl]
            go_wp2_with fail
            go_meet
            exact ⟨by rw [e9], rfl⟩
          · have hk8 : ((k : Int) == 2) = false := by simp; omega
            have e9 : z1 = x := by rw [Hz1.out, if_neg hk9]
            go_wp2_with fail
            go_meet
            exact ⟨by rw [e9], rfl⟩
        case rest =>
          obtain ⟨rfl, hw⟩ := hcut
          obtain ⟨W2, hW2⟩ : ∃ W, W = wc := ⟨_, rfl⟩
          rw [← hW2] at hw ⊢
          subst hw
          clear hW2
          obtain ⟨z2, hz2⟩ : ∃ z : Int, z = if k = 3 then x - 224 else z1 := ⟨_, rfl⟩
          have Hz2 := Lib.hid hz2
          clear hz2
          go_upto_if 26 with fail
          go_cut [5] from 7 to 56 (fun v wx => v = .int .i64 z2 ∧ wx = W2)
          case first =>
            by_cases hk9 : k = 3
            · subst hk9
              have e9 : z2 = x - 224 := by rw [Hz2.out, if_pos rfl]
              go_wp2_with fail
              go_meet
              exact ⟨by rw [e9], rfl⟩
            · have hk8 : ((k : Int) == 3) = false := by simp; omega
              have e9 : z2 = z1 := by rw [Hz2.out, if_neg hk9]
              go_wp2_with fail
              go_meet
              exact ⟨by rw [e9], rfl⟩
          case rest =>
            obtain ⟨rfl, hw⟩ := hcut
            obtain ⟨W3, hW3⟩ : ∃ W, W = wc := ⟨_, rfl⟩
            rw [← hW3] at hw ⊢
            subst hw
            clear hW3
            obtain ⟨z, hz⟩ : ∃ z : Int, z = if k = 4 then x - 240 else z2 := ⟨_, rfl⟩
            have Hz := Lib.hid hz
            clear hz
            go_upto_if 30 with fail
            go_cut [5] from 7 to 56 (fun v wx => v = .int .i64 z ∧ wx = W3)
            case first =>
              by_cases hk9 : k = 4
              · subst hk9
                have e9 : z = x - 240 := by rw [Hz.out, if_pos rfl]
                go_wp2_with fail
                go_meet
                exact ⟨by rw [e9], rfl⟩
              · have hk8 : ((k : Int) == 4) = false := by simp; omega
                have e9 : z = z2 := by rw [Hz.out, if_neg hk9]
                go_wp2_with fail
                go_meet
                exact ⟨by rw [e9], rfl⟩
            case rest =>
              obtain ⟨rfl, hw⟩ := hcut
              obtain ⟨W4, hW4⟩ : ∃ W, W = wc := ⟨_, rfl⟩
              rw [← hW4] at hw ⊢
              subst hw
              clear hW4
              have Hz0 : Hid (rNum (nums s) k 0 = z) := Lib.hid (by
                rw [Hz.out, Hz2.out, Hz1.out]
                show rFirst k (rd (nums s) 0) = _
                rw [Hx.out]
                unfold rFirst
                rcases (show k = 1 ∨ k = 2 ∨ k = 3 ∨ k = 4 by omega) with rfl | rfl | rfl | rfl <;> rfl)
              clear hx
              go_wp2_with fail
              go_loopw [5, 6] (fun v i wr => ∃ (j : Nat) (N : Int), j ≤ k ∧ 1 ≤ j ∧ i = .int .i64 j ∧ v = .int .i64 N ∧ Hid (N = rNum (nums s) k (j - 1)) ∧ wr = W4) (fun _ i _ => k - (intOf i).toNat)
              case atStart => exact ⟨1, z, by omega, by omega, rfl, rfl, Lib.hid Hz0.out.symm, rfl⟩
              case round =>
                obtain ⟨j, N, hj, hj1, rfl, rfl, HNj, hw⟩ := hrel
                obtain ⟨W, hW⟩ : ∃ W, W = wr := ⟨_, rfl⟩
                rw [← hW] at hw ⊢
                subst hw
                clear hW
                have hN := rNum_bd8 Hb.out k (j - 1) (by rw [nums_length]; omega) (by omega)
                rw [← HNj.out] at hN
                by_cases hlt : j < k
                · have hjs : j < s.size := by omega
                  obtain ⟨y, hy⟩ : ∃ y : Int, (s[j].toNat : Int) = y := ⟨_, rfl⟩
                  have hyr := byte_rng s hjs
                  rw [rd_nums hjs, hy] at hyr
                  have Hy := Lib.hid (show rd (nums s) j = y by rw [rd_nums hjs, hy])
                  obtain ⟨hy0, hy1⟩ := hyr
                  obtain ⟨hN0, hN1⟩ := hN
                  go_wp2_with fail
                  go_roundw
                  case rel =>
                    refine ⟨j + 1, N * 64 + y - 128, by omega, by omega, by go_num, rfl, Lib.hid ?_, trivial⟩
                    obtain ⟨i, rfl⟩ : ∃ i, j = i + 1 := ⟨j - 1, by omega⟩
                    rw [HNj.out, ← Hy.out]
                    rfl
                  case measure => simp [intOf]; omega
                · obtain rfl : j = k := by omega
                  have hNb : -1000000000 ≤ N ∧ N ≤ 1000000000 := by omega
                  have hN := hNb
                  have Hiff : Hid (strOfNums (rPut N) = s.extract 0 j ↔ uIs (nums s) j) := Lib.hid (by
                    rw [← put_is (fun x hx => nums_byte s x hx) hj1 h4 (by rw [nums_length]; exact hks), ← HNj.out]
                    have e : nums (s.extract 0 j) = (nums s).take j := by rw [nums_extract s 0 hks]; rfl
                    constructor
                    · intro h; rw [← e, ← h, nums_strOf rPut_byte]
                    · intro h; rw [h, ← e, strOf_nums])
                  have L0 : Later W W.drew := (Later.refl W).drew
                  by_cases hi : uIs (nums s) j
                  · have heq : ((strOfNums (rPut N)).toList == (s.extract 0 j).toList) = true := by rw [tl_beq]; exact decide_eq_true (Hiff.out.2 hi)
                    have hrj : r = j := by rw [Hr.out]; exact uNext_is hj1 (by rw [nums_length]; exact hks) hi
                    subst hrj
                    clear hi
                    go_upto_region 16 with fail
                    refine wp_region_noPanic ?_
                    refine wp_region_held_drew (S := fun W' => Later W W') (by kernel_rfl) (L0) (fun hHeld => ?_)
                    refine' wpAnyH_take (i := 0) (oi := ⟨_, _, _, _, _, _⟩) (v := _) rfl (by kernel_rfl) (by kernel_rfl) (by kernel_rfl) (fun _ _ _ h => h) (Or.inl ⟨by rfl, ?hya0⟩) (by assumption) ?resta0
                    case hya0 => (intro w hSw; (try dsimp only at hSw); go_simp; try with_reducible rfl)
                    try simp only [Act.put, List.setIfInBounds_toArray, List.set_cons_zero, List.set_cons_succ]
                    refine' wpAnyH_take (i := 2) (oi := ⟨_, _, _, _, _, _⟩) (v := _) rfl (by kernel_rfl) (by kernel_rfl) (by kernel_rfl) (fun _ _ _ h => h) (Or.inl ⟨by rfl, ?hya2⟩) (by assumption) ?resta2
                    case hya2 => (intro w hSw; (try dsimp only at hSw); go_simp; try with_reducible rfl)
                    try simp only [Act.put, List.setIfInBounds_toArray, List.set_cons_zero, List.set_cons_succ]
                    refine' wpAnyH_take (i := 3) (oi := ⟨_, _, _, _, _, _⟩) (v := _) rfl (by kernel_rfl) (by kernel_rfl) (by kernel_rfl) (fun _ _ _ h => h) (Or.inl ⟨by rfl, ?hya3⟩) (by assumption) ?resta3
                    case hya3 => (intro w hSw; (try dsimp only at hSw); go_simp; try with_reducible rfl)
                    try simp only [Act.put, List.setIfInBounds_toArray, List.set_cons_zero, List.set_cons_succ]
                    refine' wpAnyH_take (i := 4) (oi := ⟨_, _, _, _, _, _⟩) (v := _) rfl (by kernel_rfl) (by kernel_rfl) (by kernel_rfl) (fun _ _ _ h => h) (Or.inl ⟨by rfl, ?hya4⟩) (by assumption) ?resta4
                    case hya4 => (intro w hSw; (try dsimp only at hSw); go_simp; try with_reducible rfl)
                    try simp only [Act.put, List.setIfInBounds_toArray, List.set_cons_zero, List.set_cons_succ]
                    refine wpAnyH_ready (rs := [1]) (by kernel_rfl) (by simp) ?_
                    refine AllReadyH.cons (o := ⟨_, _, _, _, _, _⟩) rfl (fun K hK => ?_) AllReadyH.nil
                    go_simp
                    go_at_call 94
                    refine (chPut_calls N _ hN).mono ?_
                    rintro e wA ⟨rfl, hbA⟩
                    have LA : Later W wA := Later.step L0 hbA
                    clear hbA
                    refine hK.out _ _ (LA) (fun hHeldN => ?_)
                    clear hK K hHeld
                    have hHeld := hHeldN
                    clear hHeldN
                    try simp only [Act.put, List.setIfInBounds_toArray, List.set_cons_zero, List.set_cons_succ]
                    refine' wpAnyH_take (i := 5) (oi := ⟨_, _, _, _, _, _⟩) (v := _) rfl (by kernel_rfl) (by kernel_rfl) (by kernel_rfl) (fun _ _ _ h => h) (Or.inl ⟨by rfl, ?hya5⟩) (by assumption) ?resta5
                    case hya5 => (intro w hSw; (try dsimp only at hSw); go_simp; try with_reducible rfl)
                    try simp only [Act.put, List.setIfInBounds_toArray, List.set_cons_zero, List.set_cons_succ]
                    refine' wpAnyH_take (i := 6) (oi := ⟨_, _, _, _, _, _⟩) (v := _) rfl (by kernel_rfl) (by kernel_rfl) (by kernel_rfl) (fun _ _ _ h => h) (Or.inl ⟨by rfl, ?hya6⟩) (by assumption) ?resta6
                    case hya6 => (intro w hSw; (try dsimp only at hSw); go_simp; try with_reducible rfl)
                    try simp only [Act.put, List.setIfInBounds_toArray, List.set_cons_zero, List.set_cons_succ]
                    refine' wpAnyH_take (i := 7) (oi := ⟨_, _, _, _, _, _⟩) (v := _) rfl (by kernel_rfl) (by kernel_rfl) (by kernel_rfl) (fun _ _ _ h => h) (Or.inl ⟨by rfl, ?hya7⟩) (by assumption) ?resta7
                    case hya7 => (intro w hSw; (try dsimp only at hSw); go_simp; try with_reducible rfl)
                    try simp only [Act.put, List.setIfInBounds_toArray, List.set_cons_zero, List.set_cons_succ]
                    refine' wpAnyH_take (i := 8) (oi := ⟨_, _, _, _, _, _⟩) (v := _) rfl (by kernel_rfl) (by kernel_rfl) (by kernel_rfl) (fun _ _ _ h => h) (Or.inl ⟨by rfl, ?hya8⟩) (by assumption) ?resta8
                    case hya8 => (intro w hSw; (try dsimp only at hSw); go_simp; try with_reducible rfl)
                    try simp only [Act.put, List.setIfInBounds_toArray, List.set_cons_zero, List.set_cons_succ]
                    refine' wpAnyH_take (i := 9) (oi := ⟨_, _, _, _, _, _⟩) (v := _) rfl (by kernel_rfl) (by kernel_rfl) (by kernel_rfl) (fun _ _ _ h => h) (Or.inl ⟨by rfl, ?hya9⟩) (by assumption) ?resta9
                    case hya9 => (intro w hSw; (try dsimp only at hSw); go_simp; try with_reducible rfl)
                    try simp only [Act.put, List.setIfInBounds_toArray, List.set_cons_zero, List.set_cons_succ]
                    refine wpAnyH_done (by kernel_rfl) ?_ _
                    refine NoPanic.normal ?_
                    have HBz := Lib.hid (Later.bel LA)
                    go_wp2_with fail
                    go_ret
                    exact ⟨rfl, HB.out.trans (HBz.out.mono hsz)⟩
                  · have heq : ((strOfNums (rPut N)).toList == (s.extract 0 j).toList) = false := by rw [tl_beq]; exact decide_eq_false (fun h => hi (Hiff.out.1 h))
                    have Hi := Lib.hid hi
                    clear hi
                    go_upto_region 16 with fail
                    refine wp_region_noPanic ?_
                    refine wp_region_held_drew (S := fun W' => Later W W') (by kernel_rfl) (L0) (fun hHeld => ?_)
                    refine' wpAnyH_take (i := 0) (oi := ⟨_, _, _, _, _, _⟩) (v := _) rfl (by kernel_rfl) (by kernel_rfl) (by kernel_rfl) (fun _ _ _ h => h) (Or.inl ⟨by rfl, ?hyb0⟩) (by assumption) ?restb0
                    case hyb0 => (intro w hSw; (try dsimp only at hSw); go_simp; try with_reducible rfl)
                    try simp only [Act.put, List.setIfInBounds_toArray, List.set_cons_zero, List.set_cons_succ]
                    refine' wpAnyH_take (i := 2) (oi := ⟨_, _, _, _, _, _⟩) (v := _) rfl (by kernel_rfl) (by kernel_rfl) (by kernel_rfl) (fun _ _ _ h => h) (Or.inl ⟨by rfl, ?hyb2⟩) (by assumption) ?restb2
                    case hyb2 => (intro w hSw; (try dsimp only at hSw); go_simp; try with_reducible rfl)
                    try simp only [Act.put, List.setIfInBounds_toArray, List.set_cons_zero, List.set_cons_succ]
                    refine' wpAnyH_take (i := 3) (oi := ⟨_, _, _, _, _, _⟩) (v := _) rfl (by kernel_rfl) (by kernel_rfl) (by kernel_rfl) (fun _ _ _ h => h) (Or.inl ⟨by rfl, ?hyb3⟩) (by assumption) ?restb3
                    case hyb3 => (intro w hSw; (try dsimp only at hSw); go_simp; try with_reducible rfl)
                    try simp only [Act.put, List.setIfInBounds_toArray, List.set_cons_zero, List.set_cons_succ]
                    refine' wpAnyH_take (i := 4) (oi := ⟨_, _, _, _, _, _⟩) (v := _) rfl (by kernel_rfl) (by kernel_rfl) (by kernel_rfl) (fun _ _ _ h => h) (Or.inl ⟨by rfl, ?hyb4⟩) (by assumption) ?restb4
                    case hyb4 => (intro w hSw; (try dsimp only at hSw); go_simp; try with_reducible rfl)
                    try simp only [Act.put, List.setIfInBounds_toArray, List.set_cons_zero, List.set_cons_succ]
                    refine wpAnyH_ready (rs := [1]) (by kernel_rfl) (by simp) ?_
                    refine AllReadyH.cons (o := ⟨_, _, _, _, _, _⟩) rfl (fun K hK => ?_) AllReadyH.nil
                    go_simp
                    go_at_call 94
                    refine (chPut_calls N _ hN).mono ?_
                    rintro e wA ⟨rfl, hbA⟩
                    have LA : Later W wA := Later.step L0 hbA
                    clear hbA
                    refine hK.out _ _ (LA) (fun hHeldN => ?_)
                    clear hK K hHeld
                    have hHeld := hHeldN
                    clear hHeldN
                    try simp only [Act.put, List.setIfInBounds_toArray, List.set_cons_zero, List.set_cons_succ]
                    refine' wpAnyH_take (i := 5) (oi := ⟨_, _, _, _, _, _⟩) (v := _) rfl (by kernel_rfl) (by kernel_rfl) (by kernel_rfl) (fun _ _ _ h => h) (Or.inl ⟨by rfl, ?hyb5⟩) (by assumption) ?restb5
                    case hyb5 => (intro w hSw; (try dsimp only at hSw); go_simp; try with_reducible rfl)
                    try simp only [Act.put, List.setIfInBounds_toArray, List.set_cons_zero, List.set_cons_succ]
                    refine' wpAnyH_take (i := 6) (oi := ⟨_, _, _, _, _, _⟩) (v := _) rfl (by kernel_rfl) (by kernel_rfl) (by kernel_rfl) (fun _ _ _ h => h) (Or.inl ⟨by rfl, ?hyb6⟩) (by assumption) ?restb6
                    case hyb6 => (intro w hSw; (try dsimp only at hSw); go_simp; try with_reducible rfl)
                    try simp only [Act.put, List.setIfInBounds_toArray, List.set_cons_zero, List.set_cons_succ]
                    refine' wpAnyH_take (i := 7) (oi := ⟨_, _, _, _, _, _⟩) (v := undef) rfl (by kernel_rfl) (by kernel_rfl) (by kernel_rfl) (fun _ _ _ h => h) (Or.inr ⟨by rfl, rfl⟩) (by assumption) ?_
                    try simp only [Act.put, List.setIfInBounds_toArray, List.set_cons_zero, List.set_cons_succ]
                    refine' wpAnyH_take (i := 8) (oi := ⟨_, _, _, _, _, _⟩) (v := undef) rfl (by kernel_rfl) (by kernel_rfl) (by kernel_rfl) (fun _ _ _ h => h) (Or.inr ⟨by rfl, rfl⟩) (by assumption) ?_
                    try simp only [Act.put, List.setIfInBounds_toArray, List.set_cons_zero, List.set_cons_succ]
                    refine' wpAnyH_take (i := 9) (oi := ⟨_, _, _, _, _, _⟩) (v := _) rfl (by kernel_rfl) (by kernel_rfl) (by kernel_rfl) (fun _ _ _ h => h) (Or.inl ⟨by rfl, ?hyb9⟩) (by assumption) ?restb9
                    case hyb9 => (intro w hSw; (try dsimp only at hSw); go_simp; try with_reducible rfl)
                    try simp only [Act.put, List.setIfInBounds_toArray, List.set_cons_zero, List.set_cons_succ]
                    refine wpAnyH_done (by kernel_rfl) ?_ _
                    refine NoPanic.normal ?_
                    have HBz := Lib.hid (Later.bel LA)
                    go_wp2_with fail
                    go_roundw
                    case rel =>
                      refine ⟨j + 1, by omega, by omega, by go_num, Lib.hid (fun i h1 h2 => ?_), Lib.hid (HB.out.trans (HBz.out.mono hsz))⟩
                      rcases Nat.lt_or_ge i j with g | g
                      · exact HN.out i h1 g
                      · obtain rfl : i = j := by omega
                        exact Hi.out
                    case measure => simp [intOf]; omega
      · have hr0 : r = 0 := by
          rw [Hr.out]
          refine uNext_none (fun j h1 h2 h3 => ?_)
          rw [nums_length] at h3
          exact HN.out j h1 (by omega)
        subst hr0
        go_wp2_with fail
        go_ret
        exact ⟨rfl, HB.out⟩
    · have hr0 : r = 0 := by
        rw [Hr.out]
        exact uNext_none (fun j h1 h2 h3 => HN.out j h1 (by omega))
      subst hr0
      go_wp2_with fail
      go_ret
      exact ⟨rfl, HB.out⟩
set_option maxHeartbeats 1000000 in
set_option maxRecDepth 100000 in
theorem chWhere_calls (s : ByteArray) (w : World) (hs : s.size ≤ 140737488355328) :
    Calls Try.prog 38 #[.string s] w fun e w' => e = .returned (.int .i64 (uWhere (nums s) : Nat)) ∧ Below w.heap.size w w' := by
  go_enter Try.func38, Try.ntmps38
  obtain ⟨r, hr⟩ : ∃ r, r = uWhere (nums s) := ⟨_, rfl⟩
  rw [← hr]
  have Hr := Lib.hid hr
  clear hr
  go_wp2_with fail
  go_loopw [3] (fun i wr => ∃ k : Nat, k ≤ s.size ∧ i = .int .i64 k ∧ Hid (r = k + uWhere ((nums s).drop k)) ∧ Hid (Below w.heap.size w wr)) (fun i _ => s.size - (intOf i).toNat)
  case atStart => exact ⟨0, by omega, rfl, Lib.hid (by rw [Hr.out]; simp), Below.refl _ _⟩
  case round =>
    obtain ⟨k, hk, rfl, HF, HB⟩ := hrel
    obtain ⟨W, hW⟩ : ∃ W, W = wr := ⟨_, rfl⟩
    subst hW
    by_cases hlt : k < s.size
    · have hsz : (s.extract k s.size).size ≤ 140737488355328 := by rw [ByteArray.size_extract]; omega
      have HN := Lib.hid (nums_extract s k (Nat.le_refl _))
      have HT : Hid (nums (s.extract k s.size) = (nums s).drop k) := Lib.hid (by rw [HN.out, List.take_of_length_le]; rw [List.length_drop, nums_length]; omega)
      have Hsz := Lib.hid hsz
      obtain ⟨n, hn⟩ : ∃ n, n = uNext (nums (s.extract k s.size)) := ⟨_, rfl⟩
      have hle := uNext_le (nums (s.extract k s.size))
      rw [← hn] at hle
      have Hn1 := Lib.hid hn
      rw [HT.out] at hn hle
      rw [List.length_drop, nums_length] at hle
      have Hn := Lib.hid hn
      clear hn hsz
      go_wp2_with fail
      refine (chNext_calls _ _ Hsz.out).mono ?_
      rintro e w3 ⟨rfl, hb3⟩
      have HB3 := Lib.hid (below_seq HB.out (Nat.le_refl _) hb3)
      rw [← Hn1.out]
      clear hb3
      by_cases h1 : n = 0
      · subst h1
        have hrk : r = k := by rw [HF.out, uWhere, ← Hn.out, if_pos rfl]; rfl
        subst hrk
        go_wp2_with fail
        go_ret
        exact ⟨rfl, HB3.out⟩
      · have h1b : 0 < n := by omega
        go_wp2_with fail
        refine (chNext_calls _ _ Hsz.out).mono ?_
        rintro e w4 ⟨rfl, hb4⟩
        have HB4 := Lib.hid (below_seq HB3.out (Nat.le_refl _) hb4)
        rw [← Hn1.out]
        clear hb4
        go_wp2_with fail
        go_roundw
        case rel =>
          refine ⟨k + n, by omega, by go_num, Lib.hid ?_, HB4⟩
          rw [HF.out, uWhere, ← Hn.out, if_neg h1, List.drop_drop, Nat.add_assoc]
        case measure => simp [intOf]; omega
    · obtain rfl : k = s.size := by omega
      have hrk : r = s.size := by
        rw [HF.out, List.drop_of_length_le (by rw [nums_length]; omega), uWhere, if_pos (by rfl)]
        rfl
      go_wp2_with fail
      go_ret
      exact ⟨by rw [hrk]; rfl, HB.out⟩
end Go.Proofs.Ytdbkbeojedndbaa
/-
  The reference's word on an actor.
-/
namespace Go.Proofs.Ytdbkbeojedndbaa
open Go.RowKit

theorem Actor_calls (x : ByteArray) (w : World) (hx : x.size ≤ 140737488351232) :
    Calls Try.prog 41 #[.string x] w (BoolEnd w (1 ≤ x.size ∧ x.size ≤ 16)) := by
  go_enter Try.func41, Try.ntmps41
  by_cases h0 : 0 < x.size
  · by_cases h1 : x.size < 17
    · go_wp2
      go_ret
      exact ⟨.inr ⟨by simp; omega, by omega⟩, rfl⟩
    · go_wp2
      go_ret
      exact ⟨.inl (by simp; omega), rfl⟩
  · go_wp2
    go_ret
    exact ⟨.inl rfl, rfl⟩
end Go.Proofs.Ytdbkbeojedndbaa
