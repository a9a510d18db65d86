/-
  Texts joined into one file: HeapW, OnceD, OnceS.
-/
import Derived.Test.YtdbkbeojedndbaaGreatDoorJRefCo14
import Derived.Test.YtdbkbeojedndbaaGreatDoorJRefCo12
namespace Go.Proofs.YtdbkbeojedndbaaGreatDoor
open Go.RowKit

theorem ltF_ord (flat : List Int) : Ord (ltF flat) := by
 refine ⟨fun x y z h k => ?_, fun x y h => ?_⟩
 ·simp only [ltF, Bool.or_eq_false_iff, Bool.and_eq_false_iff, decide_eq_false_iff_not, beq_eq_false_iff_ne] at *
  omega
 ·simp only [ltF, Bool.or_eq_false_iff, Bool.and_eq_false_iff, decide_eq_false_iff_not, beq_eq_false_iff_ne, Bool.or_eq_true, Bool.and_eq_true, decide_eq_true_eq, beq_iff_eq] at *
  omega
abbrev nv (h : Nat) : Value := .iface 158 (.pointer (some ⟨h, 0, none⟩))
theorem m_less (k : Nat) (a : Addr) (w : World) : (method (k + 1) 158 (.pointer (some a)) "Less").run Tryz.prog w = .ok (121, .pointer (some a)) w := by kernel_rfl
theorem m_swap (k : Nat) (a : Addr) (w : World) : (method (k + 1) 158 (.pointer (some a)) "Swap").run Tryz.prog w = .ok (124, .pointer (some a)) w := by kernel_rfl
theorem m_len (k : Nat) (a : Addr) (w : World) : (method (k + 1) 158 (.pointer (some a)) "Len").run Tryz.prog w = .ok (98, .pointer (some a)) w := by kernel_rfl
theorem m_push (k : Nat) (a : Addr) (w : World) : (method (k + 1) 158 (.pointer (some a)) "Push").run Tryz.prog w = .ok (123, .pointer (some a)) w := by kernel_rfl
theorem m_pop (k : Nat) (a : Addr) (w : World) : (method (k + 1) 158 (.pointer (some a)) "Pop").run Tryz.prog w = .ok (122, .pointer (some a)) w := by kernel_rfl
theorem Less_at (h n i k : Nat) (va vw : Value) (flat wait : List Int) (xi xk : Int) (w : World) (H : NodesAt w h va vw n flat wait) (hi : i < wait.length) (hk : k < wait.length) (hx : ∀ j, j < wait.length → 0 ≤ rd wait j ∧ rd wait j < n) (hn : n ≤ 1000000) (hm : wait.length ≤ 1000000) (ei : xi = i) (ek : xk = k) :
  Calls Tryz.prog 121 #[.pointer (some ⟨h, 0, none⟩), .int .i64 xi, .int .i64 xk] w fun e w' => e = .returned (.bool (ltF flat (rd wait i) (rd wait k))) ∧ Below w.heap.size w w' := by
 subst ei ek
 exact Less_calls h n i k va vw flat wait w H hi hk hx hn hm
theorem Swap_at (h n i k : Nat) (va vw : Value) (flat wait : List Int) (xi xk : Int) (w : World) (H : NodesAt w h va vw n flat wait) (hi : i < wait.length) (hk : k < wait.length) (ei : xi = i) (ek : xk = k) :
  Calls Tryz.prog 124 #[.pointer (some ⟨h, 0, none⟩), .int .i64 xi, .int .i64 xk] w fun e w' => e = .returned (.tuple #[]) ∧ NodesAt w' h va vw n flat (swp wait i k) ∧ Fr w w' [vw.ownBlock] ∧ w'.heap.size = w.heap.size := by
 subst ei ek
 exact Swap_calls h n i k va vw flat wait w H hi hk
theorem swp_range {l : List Int} {i k m : Nat} {n : Int} (hi : i < l.length) (hk : k < l.length) (hx : ∀ j, j < m → 0 ≤ rd l j ∧ rd l j < n) (hi2 : i < m := by omega) (hk2 : k < m := by omega) : ∀ j, j < m → 0 ≤ rd (swp l i k) j ∧ rd (swp l i k) j < n := by
 intro j hj
 rw [rd_swp hi hk]
 split
 ·exact hx i hi2
 ·split
  ·exact hx k hk2
  ·exact hx j hj
def SomeBool (e : Ending) : Prop := ∃ b, e = .returned (.bool b)
theorem Fr.sub {w w1 w2 : World} {S T : List (Option Nat)} (h : Fr w w1 S) (k : Fr w1 w2 T) (hT : ∀ o ∈ T, o ∈ S) : Fr w w2 S := h.trans k (fun o ho => .inl (hT o ho))
set_option maxHeartbeats 1000000 in
theorem down_calls (h n i m : Nat) (va vw : Value) (flat wait : List Int) (w : World) (H : NodesAt w h va vw n flat wait) (hm : m ≤ wait.length) (hi : i ≤ m) (hx : ∀ j, j < wait.length → 0 ≤ rd wait j ∧ rd wait j < n) (hn : n ≤ 1000000) (hl : wait.length ≤ 1000000) (f : Nat) (hf : m ≤ i + f) :
  Calls Tryz.prog 103 #[nv h, .int .i64 i, .int .i64 m] w fun e w' => SomeBool e ∧ NodesAt w' h va vw n flat (downM (ltF flat) f wait i m) ∧ Fr w w' [vw.ownBlock] := by
 have HH := Lib.hid H
 clear H
 obtain ⟨R, hR⟩ : ∃ R, downM (ltF flat) f wait i m = R := ⟨_, rfl⟩
 rw [hR]
 have HR := Lib.hid hR
 clear hR
 have ml := m_less
 have ms := m_swap
 go_enter Tryz.func103, Tryz.ntmps103
 go_wp2
 go_loopw [7, 9] (fun x _ wr => ∃ (i : Nat) (f' : Nat) (l : List Int), i ≤ m ∧ m ≤ i + f' ∧ x = .int .i64 i ∧ NodesAt wr h va vw n flat l ∧ l.length = wait.length ∧ Hid (∀ j, j < wait.length → 0 ≤ rd l j ∧ rd l j < n) ∧ Hid (downM (ltF flat) f' l i m = R) ∧ Hid (Fr w wr [vw.ownBlock])) (fun x _ _ => m - (intOf x).toNat)
 case atStart => exact ⟨i, f, wait, hi, hf, rfl, HH.out, rfl, hx, HR.out, Fr.refl _ _⟩
 case round =>
  obtain ⟨i', f', l, hi2, hf2, rfl, hN, hll, Hx, Hd, Hf⟩ := hrel
  have HN := Lib.hid hN
  have Hll := Lib.hid hll
  clear hN hll hx
  by_cases hend : m ≤ 2 * i' + 1
  ·have hR : R = l := by
    rw [← Hd.out]
    cases f' with
    | zero => rfl
    | succ f' => unfold downM; rw [if_pos hend]
   have HR2 := Lib.hid hR
   clear hR
   go_wp2
   go_ret
   refine ⟨⟨_, rfl⟩, ?_, Hf.out⟩
   rw [HR2.out]
   exact HN.out
  ·obtain ⟨f2, hf3⟩ : ∃ f2, f' = f2 + 1 := ⟨f' - 1, by omega⟩
   by_cases hj2 : 2 * i' + 2 < m
   ·go_wp2_with fail
    refine (Less_at h n (2 * i' + 2) (2 * i' + 1) va vw flat l _ _ _ HN.out (by rw [Hll.out]; omega) (by rw [Hll.out]; omega) (by rw [Hll.out]; exact Hx.out) hn (by rw [Hll.out]; exact hl) (by omega) (by omega)).mono ?_
    rintro e w1 ⟨rfl, hb1⟩
    have HN1 := Lib.hid (HN.out.keep hb1)
    have Hf1 := Lib.hid (Hf.out.sub (Fr.ofBelow hb1 []) (fun o ho => by simp at ho))
    clear hb1 HN Hf
    cases hb1 : ltF flat (rd l (2 * i' + 2)) (rd l (2 * i' + 1))
    ·have Hb1 := Lib.hid hb1
     clear hb1
     go_wp2_with fail
     have Hch : Hid (childOf (ltF flat) l i' m = 2 * i' + 1) := by show childOf (ltF flat) l i' m = 2 * i' + 1; unfold childOf; rw [if_neg (by rw [Hb1.out]; simp)]
     refine (Less_at h n (2 * i' + 1) i' va vw flat l _ _ _ HN1.out (by rw [Hll.out]; omega) (by rw [Hll.out]; omega) (by rw [Hll.out]; exact Hx.out) hn (by rw [Hll.out]; exact hl) (by omega) (by omega)).mono ?_
     rintro e w2 ⟨rfl, hb2⟩
     have HN2 := Lib.hid (HN1.out.keep hb2)
     have Hf2 := Lib.hid (Hf1.out.sub (Fr.ofBelow hb2 []) (fun o ho => by simp at ho))
     have Hd2 : Hid (downM (ltF flat) (f2 + 1) l i' m = R) := by rw [← hf3]; exact Hd.out
     clear hb2 HN1 Hf1
     cases hb2 : ltF flat (rd l (2 * i' + 1)) (rd l i')
     ·have hR : R = l := by
       rw [← Hd2.out]
       unfold downM
       rw [if_neg (by omega), Hch.out, hb2, if_neg (by decide)]
      have HR2 := Lib.hid hR
      clear hb2 hR
      go_wp2
      go_ret
      refine ⟨⟨_, rfl⟩, ?_, Hf2.out⟩
      rw [HR2.out]
      exact HN2.out
     ·have Hn : Hid (downM (ltF flat) f2 (swp l i' (2 * i' + 1)) (2 * i' + 1) m = R) := by
       show downM (ltF flat) f2 (swp l i' (2 * i' + 1)) (2 * i' + 1) m = R
       rw [← Hd2.out]
       conv => rhs; unfold downM
       rw [if_neg (by omega), Hch.out, hb2, if_pos rfl]
      clear hb2
      go_wp2_with fail
      refine (Swap_at h n i' (2 * i' + 1) va vw flat l _ _ _ HN2.out (by rw [Hll.out]; omega) (by rw [Hll.out]; omega) (by omega) (by omega)).mono ?_
      rintro e w3 ⟨rfl, hN3, hf3', _⟩
      have HN3 := Lib.hid hN3
      have Hf3 := Lib.hid (Hf2.out.sub hf3' (fun o ho => ho))
      clear hN3 hf3'
      go_wp2
      go_roundw
      case rel => exact ⟨2 * i' + 1, f2, swp l i' (2 * i' + 1), by omega, by omega, by go_num, HN3.out, by rw [swp_length]; exact Hll.out, swp_range (by rw [Hll.out]; omega) (by rw [Hll.out]; omega) Hx.out, Hn.out, Hf3.out⟩
      case measure => simp [intOf]; omega
    ·have Hb1 := Lib.hid hb1
     clear hb1
     go_wp2_with fail
     have Hch : Hid (childOf (ltF flat) l i' m = 2 * i' + 2) := by show childOf (ltF flat) l i' m = 2 * i' + 2; unfold childOf; rw [if_pos ⟨hj2, Hb1.out⟩]
     refine (Less_at h n (2 * i' + 2) i' va vw flat l _ _ _ HN1.out (by rw [Hll.out]; omega) (by rw [Hll.out]; omega) (by rw [Hll.out]; exact Hx.out) hn (by rw [Hll.out]; exact hl) (by omega) (by omega)).mono ?_
     rintro e w2 ⟨rfl, hb2⟩
     have HN2 := Lib.hid (HN1.out.keep hb2)
     have Hf2 := Lib.hid (Hf1.out.sub (Fr.ofBelow hb2 []) (fun o ho => by simp at ho))
     have Hd2 : Hid (downM (ltF flat) (f2 + 1) l i' m = R) := by rw [← hf3]; exact Hd.out
     clear hb2 HN1 Hf1
     cases hb2 : ltF flat (rd l (2 * i' + 2)) (rd l i')
     ·have hR : R = l := by
       rw [← Hd2.out]
       unfold downM
       rw [if_neg (by omega), Hch.out, hb2, if_neg (by decide)]
      have HR2 := Lib.hid hR
      clear hb2 hR
      go_wp2
      go_ret
      refine ⟨⟨_, rfl⟩, ?_, Hf2.out⟩
      rw [HR2.out]
      exact HN2.out
     ·have Hn : Hid (downM (ltF flat) f2 (swp l i' (2 * i' + 2)) (2 * i' + 2) m = R) := by
       show downM (ltF flat) f2 (swp l i' (2 * i' + 2)) (2 * i' + 2) m = R
       rw [← Hd2.out]
       conv => rhs; unfold downM
       rw [if_neg (by omega), Hch.out, hb2, if_pos rfl]
      clear hb2
      go_wp2_with fail
      refine (Swap_at h n i' (2 * i' + 2) va vw flat l _ _ _ HN2.out (by rw [Hll.out]; omega) (by rw [Hll.out]; omega) (by omega) (by omega)).mono ?_
      rintro e w3 ⟨rfl, hN3, hf3', _⟩
      have HN3 := Lib.hid hN3
      have Hf3 := Lib.hid (Hf2.out.sub hf3' (fun o ho => ho))
      clear hN3 hf3'
      go_wp2
      go_roundw
      case rel => exact ⟨2 * i' + 2, f2, swp l i' (2 * i' + 2), by omega, by omega, by go_num, HN3.out, by rw [swp_length]; exact Hll.out, swp_range (by rw [Hll.out]; omega) (by rw [Hll.out]; omega) Hx.out, Hn.out, Hf3.out⟩
      case measure => simp [intOf]; omega
   ·have HN1 := Lib.hid HN.out
    have Hf1 := Lib.hid Hf.out
    clear HN Hf
    go_wp2_with fail
    have Hch : Hid (childOf (ltF flat) l i' m = 2 * i' + 1) := by show childOf (ltF flat) l i' m = 2 * i' + 1; unfold childOf; rw [if_neg (fun h => hj2 h.1)]
    refine (Less_at h n (2 * i' + 1) i' va vw flat l _ _ _ HN1.out (by rw [Hll.out]; omega) (by rw [Hll.out]; omega) (by rw [Hll.out]; exact Hx.out) hn (by rw [Hll.out]; exact hl) (by omega) (by omega)).mono ?_
    rintro e w2 ⟨rfl, hb2⟩
    have HN2 := Lib.hid (HN1.out.keep hb2)
    have Hf2 := Lib.hid (Hf1.out.sub (Fr.ofBelow hb2 []) (fun o ho => by simp at ho))
    have Hd2 : Hid (downM (ltF flat) (f2 + 1) l i' m = R) := by rw [← hf3]; exact Hd.out
    clear hb2 HN1 Hf1
    cases hb2 : ltF flat (rd l (2 * i' + 1)) (rd l i')
    ·have hR : R = l := by
      rw [← Hd2.out]
      unfold downM
      rw [if_neg (by omega), Hch.out, hb2, if_neg (by decide)]
     have HR2 := Lib.hid hR
     clear hb2 hR
     go_wp2
     go_ret
     refine ⟨⟨_, rfl⟩, ?_, Hf2.out⟩
     rw [HR2.out]
     exact HN2.out
    ·have Hn : Hid (downM (ltF flat) f2 (swp l i' (2 * i' + 1)) (2 * i' + 1) m = R) := by
      show downM (ltF flat) f2 (swp l i' (2 * i' + 1)) (2 * i' + 1) m = R
      rw [← Hd2.out]
      conv => rhs; unfold downM
      rw [if_neg (by omega), Hch.out, hb2, if_pos rfl]
     clear hb2
     go_wp2_with fail
     refine (Swap_at h n i' (2 * i' + 1) va vw flat l _ _ _ HN2.out (by rw [Hll.out]; omega) (by rw [Hll.out]; omega) (by omega) (by omega)).mono ?_
     rintro e w3 ⟨rfl, hN3, hf3', _⟩
     have HN3 := Lib.hid hN3
     have Hf3 := Lib.hid (Hf2.out.sub hf3' (fun o ho => ho))
     clear hN3 hf3'
     go_wp2
     go_roundw
     case rel => exact ⟨2 * i' + 1, f2, swp l i' (2 * i' + 1), by omega, by omega, by go_num, HN3.out, by rw [swp_length]; exact Hll.out, swp_range (by rw [Hll.out]; omega) (by rw [Hll.out]; omega) Hx.out, Hn.out, Hf3.out⟩
     case measure => simp [intOf]; omega
set_option maxHeartbeats 1000000 in
theorem up_calls (h n j : Nat) (va vw : Value) (flat wait : List Int) (w : World) (H : NodesAt w h va vw n flat wait) (hj : j < wait.length) (hx : ∀ j, j < wait.length → 0 ≤ rd wait j ∧ rd wait j < n) (hn : n ≤ 1000000) (hl : wait.length ≤ 1000000) (f : Nat) (hf : j < f) :
  Calls Tryz.prog 104 #[nv h, .int .i64 j] w fun e w' => e = .returned (.tuple #[]) ∧ NodesAt w' h va vw n flat (upM (ltF flat) f wait j) ∧ Fr w w' [vw.ownBlock] := by
 have HH := Lib.hid H
 clear H
 obtain ⟨R, hR⟩ : ∃ R, upM (ltF flat) f wait j = R := ⟨_, rfl⟩
 rw [hR]
 have HR := Lib.hid hR
 clear hR
 have ml := m_less
 have ms := m_swap
 go_enter Tryz.func104, Tryz.ntmps104
 go_wp2
 go_loopw [1] (fun x wr => ∃ (j : Nat) (f' : Nat) (l : List Int), j < wait.length ∧ j < f' ∧ x = .int .i64 j ∧ NodesAt wr h va vw n flat l ∧ l.length = wait.length ∧ Hid (∀ j, j < wait.length → 0 ≤ rd l j ∧ rd l j < n) ∧ Hid (upM (ltF flat) f' l j = R) ∧ Hid (Fr w wr [vw.ownBlock])) (fun x _ => (intOf x).toNat)
 case atStart => exact ⟨j, f, wait, hj, hf, rfl, HH.out, rfl, hx, HR.out, Fr.refl _ _⟩
 case round =>
  obtain ⟨j', f', l, hj2, hf2, rfl, hN, hll, Hx, Hd, Hf⟩ := hrel
  have HN := Lib.hid hN
  have Hll := Lib.hid hll
  clear hN hll hx
  obtain ⟨f2, hf3⟩ : ∃ f2, f' = f2 + 1 := ⟨f' - 1, by omega⟩
  by_cases h0 : j' = 0
  ·have hR : R = l := by
    rw [← Hd.out, hf3]
    unfold upM
    rw [if_pos (by omega)]
   have HR2 := Lib.hid hR
   clear hR
   subst h0
   go_wp2
   go_end0
   refine ⟨rfl, ?_, Hf.out⟩
   rw [HR2.out]
   exact HN.out
  ·obtain ⟨p, hp⟩ : ∃ p, p = (j' - 1) / 2 := ⟨_, rfl⟩
   have s1 : ((j' : Int) - 1) / 2 = (p : Int) := by omega
   have s2 : (0 : Int) ≤ (j' : Int) - 1 := by omega
   have s3 : ¬ (p : Int) = (j' : Int) := by omega
   have s4 : ((p : Int) == (j' : Int)) = false := by simpa using s3
   have s5 : ¬ p = j' := by omega
   have Hp := Lib.hid hp
   have hpj : p < j' := by omega
   clear hp
   go_wp2_with fail
   refine (Less_at h n j' p va vw flat l _ _ _ HN.out (by rw [Hll.out]; omega) (by rw [Hll.out]; omega) (by rw [Hll.out]; exact Hx.out) hn (by rw [Hll.out]; exact hl) (by omega) (by omega)).mono ?_
   rintro e w2 ⟨rfl, hb2⟩
   have HN2 := Lib.hid (HN.out.keep hb2)
   have Hf2 := Lib.hid (Hf.out.sub (Fr.ofBelow hb2 []) (fun o ho => by simp at ho))
   have Hd2 : Hid (upM (ltF flat) (f2 + 1) l j' = R) := by rw [← hf3]; exact Hd.out
   clear hb2 HN Hf
   cases hb2 : ltF flat (rd l j') (rd l p)
   ·have hR : R = l := by
     rw [← Hd2.out]
     unfold upM
     rw [← Hp.out, if_neg s5, hb2, if_neg (by decide)]
    have HR2 := Lib.hid hR
    clear hb2 hR
    go_wp2
    go_end0
    refine ⟨rfl, ?_, Hf2.out⟩
    rw [HR2.out]
    exact HN2.out
   ·have Hn : Hid (upM (ltF flat) f2 (swp l p j') p = R) := by
     show upM (ltF flat) f2 (swp l p j') p = R
     rw [← Hd2.out]
     conv => rhs; unfold upM
     rw [← Hp.out, if_neg s5, hb2, if_pos rfl]
    clear hb2
    go_wp2_with fail
    refine (Swap_at h n p j' va vw flat l _ _ _ HN2.out (by rw [Hll.out]; omega) (by rw [Hll.out]; omega) (by omega) (by omega)).mono ?_
    rintro e w3 ⟨rfl, hN3, hf3', _⟩
    have HN3 := Lib.hid hN3
    have Hf3 := Lib.hid (Hf2.out.sub hf3' (fun o ho => ho))
    clear hN3 hf3'
    go_wp2
    go_roundw
    case rel => exact ⟨p, f2, swp l p j', by omega, by omega, rfl, HN3.out, by rw [swp_length]; exact Hll.out, swp_range (by rw [Hll.out]; omega) (by rw [Hll.out]; omega) Hx.out, Hn.out, Hf3.out⟩
    case measure => simp [intOf]; omega
set_option maxHeartbeats 1000000 in
theorem Push_calls (h n : Nat) (x : Int) (va vw : Value) (flat wait : List Int) (w : World) (H : NodesAt w h va vw n flat wait) (hx : ∀ j, j < wait.length → 0 ≤ rd wait j ∧ rd wait j < n) (h0 : 0 ≤ x) (hxn : x < n) (hn : n ≤ 1000000) (hl : wait.length < 1000000) :
  Calls Tryz.prog 100 #[nv h, .iface 3 (.int .i64 x)] w fun e w' => e = .returned (.tuple #[]) ∧ ∃ vw', NodesAt w' h va vw' n flat (pushM (ltF flat) wait x) ∧ (vw'.ownBlock = vw.ownBlock ∨ ∀ k, vw'.ownBlock = some k → w.heap.size ≤ k) ∧ Fr w w' [some h, vw.ownBlock] := by
 have HH := Lib.hid H
 have Hx := Lib.hid hx
 clear H hx
 have m1 := m_push
 have m2 := m_len
 go_enter Tryz.func100, Tryz.ntmps100
 go_wp2_with fail
 refine (NPush_calls h n va vw flat wait x _ HH.out (by omega)).mono ?_
 rintro e w1 ⟨rfl, vw', hN, hat, hf⟩
 have HN := Lib.hid hN
 have Hat := Lib.hid hat
 have Hf := Lib.hid hf
 clear hN hat hf
 go_wp2_with fail
 refine (Len_calls h n va vw' flat _ _ HN.out).mono ?_
 rintro e w2 ⟨rfl, rfl⟩
 have hlen : (wait ++ [x]).length = wait.length + 1 := by simp
 rw [hlen]
 clear hlen
 go_wp2_with fail
 refine (up_calls h n wait.length va vw' flat _ _ HN.out (by simp) (fun j hj => ?_) hn (by simp; omega) (wait.length + 1) (by omega)).mono ?_
 ·rcases Nat.lt_or_ge j wait.length with h1 | h1
  ·rw [rd_append_left h1]; exact Hx.out j h1
  ·have : j = wait.length := by simp at hj; omega
   subst this
   rw [show rd (wait ++ [x]) wait.length = x from by simp [rd]]
   exact ⟨h0, hxn⟩
 rintro e w3 ⟨rfl, hN3, hf3⟩
 have HN3 := Lib.hid hN3
 have hf4 := Hf.out.trans hf3 (fun o ho => by
  simp at ho
  subst ho
  rcases Hat.out with h1 | h1
  ·left; rw [h1]; simp
  ·exact .inr h1)
 have Hf4 := Lib.hid hf4
 clear hN3 hf3 hf4
 go_wp2
 go_end0
 exact ⟨rfl, vw', HN3.out, Hat.out, Hf4.out⟩
set_option maxHeartbeats 1000000 in
theorem Pop_calls (h n : Nat) (va vw : Value) (flat wait : List Int) (w : World) (H : NodesAt w h va vw n flat wait) (hx : ∀ j, j < wait.length → 0 ≤ rd wait j ∧ rd wait j < n) (hn : n ≤ 1000000) (hl : wait.length ≤ 1000000) (h0 : 0 < wait.length) :
  Calls Tryz.prog 99 #[nv h] w fun e w' => e = .returned (.iface 3 (.int .i64 (rd (popM (ltF flat) wait) (wait.length - 1)))) ∧ ∃ vw', NodesAt w' h va vw' n flat ((popM (ltF flat) wait).take (wait.length - 1)) ∧ vw'.ownBlock = vw.ownBlock ∧ Fr w w' [some h, vw.ownBlock] := by
 have HH := Lib.hid H
 have Hx := Lib.hid hx
 clear H hx
 obtain ⟨m, hm⟩ : ∃ m, wait.length = m + 1 := ⟨wait.length - 1, by omega⟩
 have Hm := Lib.hid hm
 have hmb : m ≤ 1000000 := by omega
 have hpop : popM (ltF flat) wait = downM (ltF flat) (m + 1) (swp wait 0 m) 0 m := by unfold popM; rw [hm]; rfl
 have Hpop := Lib.hid hpop
 clear hpop
 have m1 := m_len
 have m2 := m_swap
 have m3 := m_pop
 go_enter Tryz.func99, Tryz.ntmps99
 go_wp2_with fail
 refine (Len_calls h n va vw flat _ _ HH.out).mono ?_
 rintro e w2 ⟨rfl, rfl⟩
 rw [Hm.out]
 clear hm
 go_wp2_with fail
 refine (Swap_at h n 0 m va vw flat wait _ _ _ HH.out h0 (by rw [Hm.out]; omega) (by first | rfl | omega) (by omega)).mono ?_
 rintro e w3 ⟨rfl, hN3, hf3, _⟩
 have HN3 := Lib.hid hN3
 have Hf3 := Lib.hid hf3
 clear hN3 hf3
 go_wp2_with fail
 refine (down_calls h n 0 m va vw flat _ _ HN3.out (by rw [swp_length, Hm.out]; omega) (Nat.zero_le _) (by rw [swp_length]; exact swp_range h0 (by rw [Hm.out]; omega) Hx.out h0 (by rw [Hm.out]; omega)) hn (by rw [swp_length]; exact hl) (m + 1) (by omega)).mono ?_
 rintro e w4 ⟨⟨b, rfl⟩, hN4, hf4⟩
 rw [← Hpop.out] at hN4
 have hlen : (popM (ltF flat) wait).length = m + 1 := by
  have h1 := (downM_keeps (ltF flat) (m + 1) (swp wait 0 m) 0 m (by rw [swp_length, Hm.out]; omega)).1.length_eq
  rw [Hpop.out, h1, swp_length, Hm.out]
 have Hlen := Lib.hid hlen
 have HN4 := Lib.hid hN4
 have Hf4 := Lib.hid (Hf3.out.sub hf4 (fun o ho => ho))
 clear hN4 hf4 hlen
 go_wp2_with fail
 refine (NPop_calls h n va vw flat _ _ HN4.out (by rw [Hlen.out]; omega)).mono ?_
 rintro e w5 ⟨rfl, vw', hN5, hat, hf5, _⟩
 rw [Hlen.out] at hN5
 rw [Hlen.out]
 have HN5 := Lib.hid hN5
 have Hat := Lib.hid hat
 have Hf5 := Lib.hid ((Hf4.out.mono (T := [some h, vw.ownBlock]) (fun o ho => by simp at ho ⊢; exact .inr ho)).sub hf5 (fun o ho => by simp at ho ⊢; exact .inl ho))
 clear hN5 hat hf5
 go_wp2
 go_ret
 rw [Hm.out]
 exact ⟨rfl, vw', HN5.out, Hat.out, Hf5.out⟩
set_option maxHeartbeats 1000000 in
theorem Init_calls (h n : Nat) (va vw : Value) (flat wait : List Int) (w : World) (H : NodesAt w h va vw n flat wait) (hx : ∀ j, j < wait.length → 0 ≤ rd wait j ∧ rd wait j < n) (hn : n ≤ 1000000) (hl : wait.length ≤ 1000000) :
  Calls Tryz.prog 97 #[nv h] w fun e w' => e = .returned (.tuple #[]) ∧ NodesAt w' h va vw n flat (initM (ltF flat) wait.length (wait.length / 2) wait) ∧ Fr w w' [vw.ownBlock] := by
 have HH := Lib.hid H
 have Hx := Lib.hid hx
 clear H hx
 obtain ⟨R, hR⟩ : ∃ R, initM (ltF flat) wait.length (wait.length / 2) wait = R := ⟨_, rfl⟩
 rw [hR]
 have HR := Lib.hid hR
 clear hR
 have m1 := m_len
 go_enter Tryz.func97, Tryz.ntmps97
 go_wp2_with fail
 refine (Len_calls h n va vw flat _ _ HH.out).mono ?_
 rintro e w2 ⟨rfl, rfl⟩
 have hhalf : ((wait.length : Int)) / 2 = ((wait.length / 2 : Nat) : Int) := by omega
 have hh2 : wait.length / 2 ≤ wait.length := by omega
 generalize hL : wait.length / 2 = c0 at *
 generalize hW : wait.length = L at *
 have HW := Lib.hid hW
 have HL := Lib.hid hL
 clear hW hL
 go_wp2
 go_loopw [3] (fun x wr => ∃ (c : Nat) (l : List Int), c ≤ c0 ∧ x = .int .i64 ((c : Int) - 1) ∧ NodesAt wr h va vw n flat l ∧ l.length = L ∧ Hid (∀ j, j < L → 0 ≤ rd l j ∧ rd l j < n) ∧ Hid (initM (ltF flat) L c l = R) ∧ Hid (Fr w wr [vw.ownBlock])) (fun x _ => (intOf x + 1).toNat)
 case atStart => exact ⟨c0, wait, Nat.le_refl _, rfl, HH.out, HW.out, Hx.out, HR.out, Fr.refl _ _⟩
 case round =>
  obtain ⟨c, l, hc, rfl, hN, hll, Hx2, Hd, Hf⟩ := hrel
  have HN := Lib.hid hN
  have Hll := Lib.hid hll
  clear hN hll
  by_cases h0 : c = 0
  ·subst h0
   go_wp2
   go_end0
   have h1 : l = R := Hd.out
   rw [← h1]
   exact ⟨rfl, HN.out, Hf.out⟩
  ·obtain ⟨q, hq⟩ : ∃ q, c = q + 1 := ⟨c - 1, by omega⟩
   subst hq
   have s1 : ((q + 1 : Nat) : Int) - 1 = q := by omega
   rw [s1]
   clear s1
   go_wp2_with fail
   refine (down_calls h n q L va vw flat l _ HN.out (by rw [Hll.out]; exact Nat.le_refl _) (by omega) (by rw [Hll.out]; exact Hx2.out) hn (by rw [Hll.out]; exact hl) L (by omega)).mono ?_
   rintro e w4 ⟨⟨b, rfl⟩, hN4, hf4⟩
   have hk := downM_keeps (ltF flat) L l q L (by rw [Hll.out]; exact Nat.le_refl _)
   have HN4 := Lib.hid hN4
   have Hlen := Lib.hid (hk.1.length_eq.trans Hll.out)
   have Hx3 : Hid (∀ j, j < L → 0 ≤ rd (downM (ltF flat) L l q L) j ∧ rd (downM (ltF flat) L l q L) j < n) := by
    intro j hj
    have h1 : rd (downM (ltF flat) L l q L) j ∈ l := by
     rw [rd_getElem (by rw [Hlen.out]; exact hj)]
     exact hk.1.mem_iff.1 (List.getElem_mem _)
    obtain ⟨i, hi, e⟩ := List.getElem_of_mem h1
    rw [← e, ← rd_getElem hi]
    exact Hx2.out i (by rw [← Hll.out]; exact hi)
   have Hf4 := Lib.hid (Hf.out.sub hf4 (fun o ho => ho))
   clear hN4 hf4 hk
   go_wp2
   go_roundw
   case rel => exact ⟨q, _, by omega, rfl, HN4.out, Hlen.out, Hx3.out, Hd.out, Hf4.out⟩
   case measure => simp [intOf]
end Go.Proofs.YtdbkbeojedndbaaGreatDoor
namespace Go.Proofs.YtdbkbeojedndbaaGreatDoor
open Go.RowKit

theorem Rd.fr {w w' : World} {k : IntKind} {A : Option Addr} {n : Nat} {xs : List Int} {S : List (Option Nat)} (h : Rd w k A n xs) (hf : Fr w w' S) (hS : ∀ b o, A = some ⟨b, o, none⟩ → some b ∉ S) : Rd w' k A n xs :=
  ⟨h.1, fun hn => by
    obtain ⟨b, o, e, hc⟩ := h.2 hn
    exact ⟨b, o, e, fun j hj => by
      have h1 := hc j hj
      have hlt := World.block_lt_of_cell? _ _ h1
      rw [World.cell?_of_block (a := ⟨b, o + j, none⟩) (hf.block b hlt (fun q hq e2 => hS b o e (e2 ▸ hq)))]
      exact h1⟩⟩
set_option maxHeartbeats 1000000 in
theorem depths_calls (h n bo N co : Nat) (va vw : Value) (A : Option Addr) (m cs : Nat) (flat wait sy : List Int) (hn : n ≤ 1000000) (hh : h ≠ bo) (hSb : ∀ b o, A = some ⟨b, o, none⟩ → b ≠ bo) : ∀ (t : HT) (i d : Nat) (out : List Int) (w : World),
    NodesAt w h va vw n flat wait → Apart va.ownBlock (some bo) → Apart vw.ownBlock (some bo) → w.ownsRow 0 3 1 (.slice (some ⟨bo, 0, none⟩) N co) N (ints .i64 out) → Rd w .i64 A m sy → i < n → TreeAt flat sy t i → (∀ s ∈ t.syms, s < N) → d + i ≤ 2000000 →
    Calls Tryz.prog 101 #[.pointer (some ⟨h, 0, none⟩), .int .i64 i, .int .i64 d, .slice (some ⟨bo, 0, none⟩) N co, .slice A m cs] w fun e w' => e = .returned (.tuple #[]) ∧ w'.ownsRow 0 3 1 (.slice (some ⟨bo, 0, none⟩) N co) N (ints .i64 (writeD t d out)) ∧ Fr w w' [some bo] := by
  intro t
  induction t with
  | leaf wt s =>
    intro i d out w H apa apw hO hS hi hT hs hd
    obtain ⟨t1, t2, t3, t4⟩ := hT
    have hsN := hs s (by simp [HT.syms])
    have c0 := H.c0
    have hfl : flat.length = n * 4 := by have := H.all.1; rwa [ints_length] at this
    obtain ⟨ga, ca, rfl, _, _, hca, hacell, _⟩ := own_form H.all (by omega)
    have x0 := hacell (i * 4) _ (ints_get (by omega))
    have x1 := hacell (i * 4 + 1) _ (ints_get (by omega))
    have x2 := hacell (i * 4 + 2) _ (ints_get (by omega))
    have x3 := hacell (i * 4 + 3) _ (ints_get (by omega))
    rw [t2] at x2
    obtain ⟨b, o, rfl, hc⟩ := hS.2 (by rw [← hS.1]; omega)
    have hm := hS.1
    have z := hc i (by omega)
    rw [t4] at z
    have hol : out.length = N := by have := hO.1; rw [ints_length] at this; omega
    have oc := hO.cellAt s (by omega)
    rw [ints_get (by omega)] at oc
    have of' := hO.frozenAt s
    have him : i < m := by omega
    have Z := fun o' => kept_new z o'
    have OC := fun o' => kept_new oc o'
    have hbo := World.block_lt_of_cell? _ _ oc
    have OF := fun o' => kept_new_f of' hbo o'
    have HO := Lib.hid hO
    clear H hO hS hc hacell t1 t2 t3 t4 hs hfl hm hol apa apw z oc of' hSb
    go_enter Tryz.func101, Tryz.ntmps101
    go_wp2
    all_goals
      go_end0
      have hst := fun v : Int => own_store HO.out s (.int .i64 v)
      have hfr := fun (v : Value) => (Fr.refl w [some bo]).set ⟨bo, s, none⟩ v (.inl (by simp))
      have hwr : ∀ v : Int, v = (max d 1 : Nat) → (ints .i64 out).set s (.int .i64 v) = ints .i64 (writeD (HT.leaf wt s) d out) := fun v hv => by
        rw [← ints_set, hv]
        rfl
      refine ⟨rfl, ?_, (hfr _).alloc _⟩
      first
      | (have hd1 : 1 ≤ d := by omega
         have e := hwr (d : Int) (by omega)
         rw [← e]
         exact (hst _).alloc _)
      | (have hd1 : d ≤ 1 := by omega
         have e := hwr 1 (by omega)
         rw [← e]
         exact (hst _).alloc _)
  | node l r il ir =>
    intro i d out w H apa apw hO hS hi hT hs hd
    obtain ⟨a, b, t1, t2, t3, ha, hb, tl, tr⟩ := hT
    have c0 := H.c0
    have hfl : flat.length = n * 4 := by have := H.all.1; rwa [ints_length] at this
    have HH := Lib.hid H
    obtain ⟨ga, ca, rfl, _, _, hca, hacell, _⟩ := own_form H.all (by omega)
    have x0 := hacell (i * 4) _ (ints_get (by omega))
    have x1 := hacell (i * 4 + 1) _ (ints_get (by omega))
    have x2 := hacell (i * 4 + 2) _ (ints_get (by omega))
    have x3 := hacell (i * 4 + 3) _ (ints_get (by omega))
    rw [t2] at x2
    rw [t3] at x3
    have HO := Lib.hid hO
    have HS := Lib.hid hS
    have Apa := Lib.hid apa
    have Apw := Lib.hid apw
    have Tl := Lib.hid tl
    have Tr := Lib.hid tr
    have Hs := Lib.hid hs
    have HSb := Lib.hid hSb
    clear H hO hS hacell t1 t2 t3 tl tr hs hfl apa apw hSb
    have il' := Lib.hid il
    have ir' := Lib.hid ir
    clear il ir
    go_enter Tryz.func101, Tryz.ntmps101
    go_wp2_with fail
    have F1 : ∀ o', Fr w (w.alloc o') [some bo] := fun o' => (Fr.refl w _).alloc o'
    refine (il'.out a (d + 1) out _ (HH.out.keep ((Below.refl _ _).alloc (Nat.le_refl _) _)) Apa.out Apw.out (HO.out.alloc _) (HS.out.alloc _) (by omega) Tl.out (fun s h => Hs.out s (by simp [HT.syms, h])) (by omega)).mono ?_
    rintro e w1 ⟨rfl, hO1, hf1⟩
    have hbo : bo < w.heap.size := (HO.out.lt bo rfl).2
    have hF1 : Fr w w1 [some bo] := (F1 _).sub hf1 (fun o ho => ho)
    have hcellb : w1.cell? ⟨w.heap.size, 3, none⟩ = some (.int .i64 (b : Nat)) := by
      rw [World.cell?_of_block (a := ⟨w.heap.size, 3, none⟩) (hf1.block w.heap.size (by simp) (fun o ho => by simp at ho; subst ho; simp; omega))]
      simp
    have HO1 := Lib.hid hO1
    have HF1 := Lib.hid hF1
    have HN1 := Lib.hid (HH.out.fr hF1 (fun o ho => by
      simp at ho
      subst ho
      exact ⟨Apa.out, Apw.out, fun e => hh (by cases e; rfl)⟩))
    have HS1 := Lib.hid (HS.out.fr hF1 (fun b' o' e hm => by
      simp at hm
      exact HSb.out b' o' e hm))
    clear hO1 hF1 hf1 F1
    go_wp2_with fail
    refine (ir'.out b (d + 1) _ _ HN1.out Apa.out Apw.out HO1.out HS1.out (by omega) Tr.out (fun s h => Hs.out s (by simp [HT.syms, h])) (by omega)).mono ?_
    rintro e w2 ⟨rfl, hO2, hf2⟩
    have HO2 := Lib.hid hO2
    have HF2 := Lib.hid (HF1.out.sub hf2 (fun o ho => ho))
    clear hO2 hf2
    go_wp2
    exact bodyPost_ret (v := .tuple #[]) (by simp [results, Tryz.results101, go_sem]) rfl ⟨rfl, HO2.out, HF2.out⟩
end Go.Proofs.YtdbkbeojedndbaaGreatDoor
namespace Go.Proofs.YtdbkbeojedndbaaGreatDoor
open Go.RowKit

def Hi (B : Nat) (o : Option Nat) : Prop := ∀ k, o = some k → B ≤ k
structure OnceSt (w wr : World) (h bo N co : Nat) (va vw vs : Value) (n : Nat) (flat wait sy : List Int) : Prop where
 nodes : NodesAt wr h va vw n flat wait
 out : wr.ownsRow 0 3 1 (.slice (some ⟨bo, 0, none⟩) N co) N (ints .i64 (List.replicate N 0))
 syms : wr.ownsRow 0 3 1 vs sy.length (ints .i64 sy)
 bel : Below w.heap.size w wr
 hh : w.heap.size ≤ h
 hbo : w.heap.size ≤ bo
 hva : Hi w.heap.size va.ownBlock
 hvw : Hi w.heap.size vw.ownBlock
 hvs : Hi w.heap.size vs.ownBlock
 a1 : Apart vw.ownBlock (some bo)
 a2 : Apart vs.ownBlock (some bo)
 a3 : Apart vs.ownBlock vw.ownBlock
theorem OnceSt.ab {w wr : World} {h bo N co n : Nat} {va vw vs : Value} {flat wait sy : List Int} (H : OnceSt w wr h bo N co va vw vs n flat wait sy) : Apart va.ownBlock (some bo) := own_apart2 (by decide) H.nodes.all H.out
theorem OnceSt.hb {w wr : World} {h bo N co n : Nat} {va vw vs : Value} {flat wait sy : List Int} (H : OnceSt w wr h bo N co va vw vs n flat wait sy) : h ≠ bo := fun e => own_apart H.nodes.at' (by decide) H.out bo rfl (by rw [e])
theorem OnceSt.avs {w wr : World} {h bo N co n : Nat} {va vw vs : Value} {flat wait sy : List Int} (H : OnceSt w wr h bo N co va vw vs n flat wait sy) : Apart va.ownBlock vs.ownBlock := own_apart2 (by decide) H.nodes.all H.syms
theorem OnceSt.hs {w wr : World} {h bo N co n : Nat} {va vw vs : Value} {flat wait sy : List Int} (H : OnceSt w wr h bo N co va vw vs n flat wait sy) : Apart vs.ownBlock (some h) := own_apart H.nodes.at' (by decide) H.syms
theorem OnceSt.turn {w wr w2 : World} {h bo N co n n' : Nat} {va vw vs va' vw' : Value} {flat wait sy flat' wait' : List Int} (H : OnceSt w wr h bo N co va vw vs n flat wait sy)
  (hN : NodesAt w2 h va' vw' n' flat' wait') (hf : Fr wr w2 [some h, va.ownBlock, vw.ownBlock]) (ha : va'.ownBlock = va.ownBlock ∨ Hi wr.heap.size va'.ownBlock) (hw : vw'.ownBlock = vw.ownBlock ∨ Hi wr.heap.size vw'.ownBlock) : OnceSt w w2 h bo N co va' vw' vs n' flat' wait' sy := by
 have hsz := H.bel.size
 have hbl : bo < wr.heap.size := (H.out.lt bo rfl).2
 have ab := H.ab
 have hav := H.avs
 have hs := H.hs
 have hb := H.hb
 refine ⟨hN, own_fr H.out hf ?_, own_fr H.syms hf ?_, H.bel.trans (hf.below hsz ?_), H.hh, H.hbo, ?_, ?_, H.hvs, ?_, H.a2, ?_⟩
 ·intro o ho
  simp only [List.mem_cons, List.not_mem_nil, or_false] at ho
  rcases ho with rfl | rfl | rfl
  ·intro k hk e
   cases e
   exact hb (by simpa [Value.ownBlock] using hk.symm)
  ·exact ab.symm
  ·exact H.a1.symm
 ·intro o ho
  simp only [List.mem_cons, List.not_mem_nil, or_false] at ho
  rcases ho with rfl | rfl | rfl
  ·exact hs
  ·exact hav.symm
  ·exact H.a3
 ·intro o ho
  simp only [List.mem_cons, List.not_mem_nil, or_false] at ho
  rcases ho with rfl | rfl | rfl
  ·intro j e
   cases e
   exact H.hh
  ·exact H.hva
  ·exact H.hvw
 ·rcases ha with e | e
  ·rw [e]; exact H.hva
  ·exact fun k hk => Nat.le_trans hsz (e k hk)
 ·rcases hw with e | e
  ·rw [e]; exact H.hvw
  ·exact fun k hk => Nat.le_trans hsz (e k hk)
 ·rcases hw with e | e
  ·rw [e]; exact H.a1
  ·intro k hk e2
   cases e2
   have := e bo hk
   omega
 ·rcases hw with e | e
  ·rw [e]; exact H.a3
  ·intro k hk e2
   have h1 := e k e2
   have h2 := (H.syms.lt k hk).2
   omega
theorem OnceSt.grow {w wr w2 : World} {h bo N co n : Nat} {va vw vs vs' : Value} {flat wait sy sy' : List Int} (H : OnceSt w wr h bo N co va vw vs n flat wait sy)
  (hS : w2.ownsRow 0 3 1 vs' sy'.length (ints .i64 sy')) (hf : Fr wr w2 [vs.ownBlock]) (hs : vs'.ownBlock = vs.ownBlock ∨ Hi wr.heap.size vs'.ownBlock) : OnceSt w w2 h bo N co va vw vs' n flat wait sy' := by
 have hsz := H.bel.size
 have hbl : bo < wr.heap.size := (H.out.lt bo rfl).2
 refine ⟨H.nodes.fr hf ?_, own_fr H.out hf ?_, hS, H.bel.trans (hf.below hsz ?_), H.hh, H.hbo, H.hva, H.hvw, ?_, H.a1, ?_, ?_⟩
 ·intro o ho
  simp only [List.mem_cons, List.not_mem_nil, or_false] at ho
  subst ho
  exact ⟨H.avs, H.a3.symm, fun e => H.hs h e rfl⟩
 ·intro o ho
  simp only [List.mem_cons, List.not_mem_nil, or_false] at ho
  subst ho
  exact H.a2.symm
 ·intro o ho
  simp only [List.mem_cons, List.not_mem_nil, or_false] at ho
  subst ho
  exact H.hvs
 ·rcases hs with e | e
  ·rw [e]; exact H.hvs
  ·exact fun k hk => Nat.le_trans hsz (e k hk)
 ·rcases hs with e | e
  ·rw [e]; exact H.a2
  ·intro k hk e2
   cases e2
   have := e bo hk
   omega
 ·rcases hs with e | e
  ·rw [e]; exact H.a3
  ·intro k hk e2
   have h1 := e k hk
   have h2 := (H.nodes.wait.lt k e2).2
   omega
theorem OnceSt.keep {w wr w2 : World} {h bo N co n : Nat} {va vw vs : Value} {flat wait sy : List Int} (H : OnceSt w wr h bo N co va vw vs n flat wait sy) (hb : Below wr.heap.size wr w2) : OnceSt w w2 h bo N co va vw vs n flat wait sy :=
 H.turn (H.nodes.keep hb) (Fr.ofBelow hb _) (.inl rfl) (.inl rfl)
theorem NodesAt.pushed {w w1 : World} {h n g cap : Nat} {va vw : Value} {flat wait : List Int} {x : Int} (H : NodesAt w h va vw n flat wait) (hown : w1.ownsRow 0 3 1 (.slice (some ⟨g, 0, none⟩) (wait.length + 1) cap) (wait.length + 1) (ints .i64 wait ++ [.int .i64 x])) (hf : Fr w w1 [vw.ownBlock]) :
  NodesAt (w1.setCell ⟨h, 1, none⟩ (.slice (some ⟨g, 0, none⟩) (wait.length + 1) cap)) h va (.slice (some ⟨g, 0, none⟩) (wait.length + 1) cap) n flat (wait ++ [x]) ∧ Fr w (w1.setCell ⟨h, 1, none⟩ (.slice (some ⟨g, 0, none⟩) (wait.length + 1) cap)) [some h, va.ownBlock, vw.ownBlock] := by
 have hW1 : w1.heap[h]? = some (.cells #[va, vw] 161 (0, 0)) := (hf.block h H.lt (fun o ho e => by
  simp only [List.mem_cons, List.not_mem_nil, or_false] at ho
  subst ho
  exact H.wh h e rfl)).trans H.at'
 have FB : Fr w (w1.setCell ⟨h, 1, none⟩ (.slice (some ⟨g, 0, none⟩) (wait.length + 1) cap)) [some h, vw.ownBlock] := (hf.mono (fun o ho => by simp at ho ⊢; exact .inr ho)).set _ _ (.inl (by simp))
 refine ⟨⟨heap_setCell_same w1 h 1 _ _ _ hW1, ?_, ?_⟩, FB.mono (fun o ho => by simp at ho ⊢; rcases ho with h1 | h1 <;> simp [h1])⟩
 ·refine own_fr H.all FB (fun o ho => ?_)
  simp only [List.mem_cons, List.not_mem_nil, or_false] at ho
  rcases ho with rfl | rfl
  ·exact H.ah
  ·exact H.aw
 ·have h9 := own_fr hown ((Fr.refl w1 [some h]).set ⟨h, 1, none⟩ (Value.slice (some ⟨g, 0, none⟩) (wait.length + 1) cap) (.inl (by simp))) (fun o ho => by
   simp only [List.mem_cons, List.not_mem_nil, or_false] at ho
   subst ho
   exact own_apart hW1 (by decide) hown)
  rw [List.length_append, ints_append]
  exact h9
theorem NodesAt.noded {w w1 : World} {h n g cap : Nat} {va vw : Value} {flat wait : List Int} {x0 x1 x2 x3 : Int} (H : NodesAt w h va vw n flat wait) (hown : w1.ownsRow 0 163 4 (.slice (some ⟨g, 0, none⟩) (n + 1) cap) (n + 1) (ints .i64 flat ++ [.int .i64 x0, .int .i64 x1, .int .i64 x2, .int .i64 x3])) (hf : Fr w w1 [va.ownBlock]) :
  NodesAt (w1.setCell ⟨h, 0, none⟩ (.slice (some ⟨g, 0, none⟩) (n + 1) cap)) h (.slice (some ⟨g, 0, none⟩) (n + 1) cap) vw (n + 1) (flat ++ [x0, x1, x2, x3]) wait ∧ Fr w (w1.setCell ⟨h, 0, none⟩ (.slice (some ⟨g, 0, none⟩) (n + 1) cap)) [some h, va.ownBlock, vw.ownBlock] := by
 have hW1 : w1.heap[h]? = some (.cells #[va, vw] 161 (0, 0)) := (hf.block h H.lt (fun o ho e => by
  simp only [List.mem_cons, List.not_mem_nil, or_false] at ho
  subst ho
  exact H.ah h e rfl)).trans H.at'
 have FB : Fr w (w1.setCell ⟨h, 0, none⟩ (.slice (some ⟨g, 0, none⟩) (n + 1) cap)) [some h, va.ownBlock] := (hf.mono (fun o ho => by simp at ho ⊢; exact .inr ho)).set _ _ (.inl (by simp))
 refine ⟨⟨heap_setCell_same w1 h 0 _ _ _ hW1, ?_, ?_⟩, FB.mono (fun o ho => by simp at ho ⊢; rcases ho with h1 | h1 <;> simp [h1])⟩
 ·have h9 := own_fr hown ((Fr.refl w1 [some h]).set ⟨h, 0, none⟩ (Value.slice (some ⟨g, 0, none⟩) (n + 1) cap) (.inl (by simp))) (fun o ho => by
   simp only [List.mem_cons, List.not_mem_nil, or_false] at ho
   subst ho
   exact own_apart hW1 (by decide) hown)
  rw [ints_append]
  exact h9
 ·refine own_fr H.wait FB (fun o ho => ?_)
  simp only [List.mem_cons, List.not_mem_nil, or_false] at ho
  rcases ho with rfl | rfl
  ·exact H.wh
  ·exact H.aw.symm
theorem own_raise {w : World} {b B : Nat} {e : TypeId} {size n : Nat} {v : Value} {xs : List Value} (h : w.ownsRow b e size v n xs) (hB : Hi B v.ownBlock) : w.ownsRow B e size v n xs := by
 refine ⟨h.1, ?_⟩
 rcases h.2 with h2 | ⟨g, cap, cur, rfl, _, r⟩
 ·exact .inl h2
 ·exact .inr ⟨g, cap, cur, rfl, hB g rfl, r⟩
def waitLen (h : Nat) (w : World) : Nat := match w.cell? ⟨h, 1, none⟩ with
 | some (.slice _ n _) => n
 | _ => 0
theorem waitLen_of {w : World} {h n : Nat} {va vw : Value} {flat wait : List Int} (H : NodesAt w h va vw n flat wait) : waitLen h w = wait.length := by
 obtain ⟨A, c, rfl⟩ := own_slice H.wait
 unfold waitLen
 rw [H.c1]
theorem elNode : ElT Tryz.prog 159 163 (.agg #[.int .i64 0, .int .i64 0, .int .i64 0, .int .i64 0]) 4 32 := ⟨Tryz.underlying159, by kernel_rfl, rfl, by decide, by decide⟩
end Go.Proofs.YtdbkbeojedndbaaGreatDoor
