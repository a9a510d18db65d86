/-
  Texts joined into one file: DefQ, DefW.
-/
import Derived.Test.YtdbkbeojedndbaaGreatDoorJRefCo14
import Derived.Test.YtdbkbeojedndbaaGreatDoorJRefCo17
namespace Go.Proofs.YtdbkbeojedndbaaGreatDoor
open Go.RowKit

theorem pressB_cases (b : List Int) : pressB b = storedB b ∨ pressB b = packB (fixedS b) ∨ pressB b = packB (dynS b) := by
 unfold pressB
 split
 ·split
  ·exact .inr (.inr rfl)
  ·exact .inr (.inl rfl)
 ·split
  ·exact .inr (.inr rfl)
  ·exact .inl rfl
theorem pressB_le (b : List Int) : (pressB b).length ≤ (storedB b).length ∧ (pressB b).length ≤ (packB (fixedS b)).length ∧ (pressB b).length ≤ (packB (dynS b)).length := by
 unfold pressB
 split
 ·split
  ·simp only [packB_length]; omega
  ·simp only [packB_length]; omega
 ·split
  ·simp only [packB_length]; omega
  ·simp only [packB_length]; omega
theorem storedB_length {b : List Int} (h : b.length ≤ 65535) : (storedB b).length = b.length + 5 := by
 unfold storedB stoB
 rw [if_pos h]
 simp only [List.length_append, List.length_cons, List.length_nil]
 omega
theorem rd_rep {k j : Nat} {c : Int} (h : j < k) : rd (List.replicate k c) j = c := by
 rw [rd_getElem (by rw [List.length_replicate]; exact h), List.getElem_replicate]
theorem same_rep (k : Nat) (c : Int) (p q : Nat) (hp : p ≤ q) : ∀ f n, q + n ≤ k → sameFrom (List.replicate k c) p q f n = min (n + f) (k - q) := by
 intro f
 induction f with
 | zero => intro n hn; unfold sameFrom; omega
 | succ f ih =>
  intro n hn
  unfold sameFrom
  rw [List.length_replicate]
  rcases Nat.lt_or_ge (q + n) k with g | g
  ·rw [if_pos ⟨g, by rw [rd_rep (by omega), rd_rep g]⟩, ih (n + 1) (by omega)]
   omega
  ·rw [if_neg (fun h => absurd h.1 (by omega))]
   omega
theorem sameN_rep (k : Nat) (c : Int) (p q : Nat) (hp : p ≤ q) (hq : q ≤ k) : sameN (List.replicate k c) p q = min 258 (k - q) := by
 unfold sameN
 rw [same_rep k c p q hp 258 0 (by omega)]
theorem best_rep (k : Nat) (c : Int) (i : Nat) (_hi : 1 ≤ i) (hk : i < k) : ∀ d, 1 ≤ d → d ≤ i → bestTo (List.replicate k c) i d = (min 258 (k - i), 1) := by
 intro d
 induction d with
 | zero => intro h; omega
 | succ d ih =>
  intro _ h2
  unfold bestTo
  rw [sameN_rep k c _ i (by omega) (by omega)]
  rcases Nat.eq_zero_or_pos d with h0 | h0
  ·subst h0
   rw [if_pos (by show 0 < _; omega)]
  ·rw [ih h0 (by omega), if_neg (Nat.lt_irrefl _)]
theorem bestM_rep (k : Nat) (c : Int) (i : Nat) (hi : 1 ≤ i) (hk : i < k) : bestM (List.replicate k c) i = (min 258 (k - i), 1) := best_rep k c i hi hk _ (by omega) (by omega)
theorem lit_bits {c : Int} : (tokBits fixA fixB (c, 0, 0)).length ≤ 9 := by
 unfold tokBits
 rw [if_pos rfl]
 unfold symCode
 rw [hiOf_length]
 show (rd fixA c.toNat).toNat ≤ 9
 rcases Nat.lt_or_ge c.toNat 288 with g | g
 ·rw [rd_fixA _ g]
  unfold fixAt
  split <;> (try split) <;> (try split) <;> omega
 ·rw [rd_out (L := fixA) (by rw [fixA_length]; exact g)]
  decide
theorem end_bits : (symCode fixA 256).length = 7 := by
 unfold symCode
 rw [hiOf_length, rd_fixA _ (by decide)]
 decide
theorem match_bits {l : Int} (h1 : 3 ≤ l) (h2 : l ≤ 258) : (tokBits fixA fixB (0, l, 1)).length ≤ 18 ∧ (l = 258 → (tokBits fixA fixB (0, l, 1)).length = 13) := by
 unfold tokBits
 rw [if_neg (by show ¬ l = 0; omega)]
 simp only [List.length_append, lowOf_length]
 unfold symCode
 rw [hiOf_length, hiOf_length]
 have r := symL_range l h1 h2
 have e0 : symS 0 dists 1 = 0 := by decide
 have e1 : symB dists 1 = 0 := by decide
 rw [e0, e1]
 have eb : rd fixB (0 : Int).toNat = 5 := rd_fixB 0 (by decide)
 rw [eb]
 obtain ⟨s, hs⟩ : ∃ s : Nat, symS 257 lens l = s := ⟨(symS 257 lens l).toNat, by omega⟩
 have hx : rd fixA (symS 257 lens l).toNat ≤ 8 := by
  rw [hs, Int.toNat_natCast, rd_fixA s (by omega)]
  unfold fixAt
  rw [if_neg (by omega), if_neg (by omega)]
  split <;> omega
 refine ⟨?_, fun e => ?_⟩
 ·omega
 ·subst e
  have q0 : symS 257 lens 258 = 285 := by decide
  have q1 : symB lens 258 = 0 := by decide
  rw [q0, q1]
  have ea : rd fixA (285 : Int).toNat = 8 := by rw [show (285 : Int).toNat = 285 from rfl, rd_fixA 285 (by decide)]; decide
  rw [ea]
  decide
theorem rep_bits (k : Nat) (c : Int) : ∀ f i, 1 ≤ i → ((pressFrom (List.replicate k c) f i).flatMap (tokBits fixA fixB)).length ≤ 13 * ((k - i) / 258) + 18 := by
 intro f
 induction f with
 | zero => intro i _; show 0 ≤ _; omega
 | succ f ih =>
  intro i hi
  unfold pressFrom
  rw [List.length_replicate]
  split
  ·rename_i hk
   rw [bestM_rep k c i hi hk]
   split
   ·rename_i h3
    rw [List.flatMap_cons, List.length_append]
    have h1 := lit_bits (c := rd (List.replicate k c) i)
    have h3' : k - i < 3 := by simp only at h3; omega
    -- at most two literals are left
    cases f with
    | zero => show _ + 0 ≤ _; omega
    | succ f =>
     unfold pressFrom
     rw [List.length_replicate]
     split
     ·rename_i hk2
      rw [bestM_rep k c (i + 1) (by omega) hk2, if_pos (by show min 258 (k - (i + 1)) < 3; omega), pressFrom_end _ _ _ (by rw [List.length_replicate]; omega), List.flatMap_cons, List.length_append]
      have h2 := lit_bits (c := rd (List.replicate k c) (i + 1))
      show _ + (_ + 0) ≤ _
      omega
     ·show _ + 0 ≤ _; omega
   ·rename_i h3
    rw [List.flatMap_cons, List.length_append]
    simp only at h3 ⊢
    have hm := match_bits (l := ((min 258 (k - i) : Nat) : Int)) (by omega) (by omega)
    rcases Nat.lt_or_ge (k - i) 258 with g | g
    ·rw [pressFrom_end _ _ _ (by rw [List.length_replicate]; omega)]
     have h1 := hm.1
     show _ + 0 ≤ _
     have e1 : ((1 : Nat) : Int) = 1 := rfl
     rw [e1]
     omega
    ·have h1 := hm.2 (by omega)
     have h2 := ih (i + min 258 (k - i)) (by omega)
     have e1 : ((1 : Nat) : Int) = 1 := rfl
     rw [e1, h1]
     have e2 : i + min 258 (k - i) = i + 258 := by omega
     rw [e2] at h2 ⊢
     have e3 : (k - i) / 258 = (k - (i + 258)) / 258 + 1 := by omega
     omega
  ·show 0 ≤ _; omega
theorem press_rep (k : Nat) (c : Int) (hk : k < 6000) : (pressB (List.replicate k c)).length ≤ 12 + k / 100 := by
 have h := (pressB_le (List.replicate k c)).2.1
 rw [packB_length] at h
 have hb : (fixedS (List.replicate k c)).length ≤ 3 + 9 + 13 * ((k - 1) / 258) + 18 + 7 := by
  unfold fixedS toksS
  rw [List.length_append, List.length_append, end_bits]
  have e : (pressL (List.replicate k c)).flatMap (tokBits fixA fixB) = (pressFrom (List.replicate k c) k 0).flatMap (tokBits fixA fixB) := by unfold pressL; rw [List.length_replicate]
  rw [e]
  show 3 + (_ + 7) ≤ _
  cases k with
  | zero => show 3 + (0 + 7) ≤ _; omega
  | succ k =>
   unfold pressFrom
   rw [List.length_replicate, if_pos (by omega), if_pos (by rw [show (bestM (List.replicate (k + 1) c) 0).1 = 0 from rfl]; decide), List.flatMap_cons, List.length_append]
   have h1 := lit_bits (c := rd (List.replicate (k + 1) c) 0)
   have h2 := rep_bits (k + 1) c k (0 + 1) (by omega)
   omega
 omega
end Go.Proofs.YtdbkbeojedndbaaGreatDoor
namespace Go.Proofs.YtdbkbeojedndbaaGreatDoor
open Go.RowKit

set_option maxHeartbeats 2000000 in
set_option maxRecDepth 100000 in
theorem dput_calls (B h n1 c1 n2 c2 s bt ex : Nat) (L : List Int) (v : Value) (A C : Option Addr) (xs cs : List Int) (w : World) (H : WrAt w B h L v) (hA : Rd w .i64 A n1 xs) (hC : Rd w .u64 C n2 cs) (hs1 : s < n1) (hs2 : s < n2) (hn1 : n1 ≤ 1000) (hn2 : n2 ≤ 1000) (hx : 0 ≤ rd xs s ∧ rd xs s ≤ 15) (hc : 0 ≤ rd cs s ∧ rd cs s < 18446744073709551616) (hb : bt ≤ 64) (hex : ex < 18446744073709551616) (hL : L.length ≤ 90000000) (hB : B ≤ w.heap.size) :
  Calls Tryz.prog 71 #[.pointer (some ⟨h, 0, none⟩), .slice A n1 c1, .slice C n2 c2, .agg #[.int .i64 s, .int .i64 bt, .int .u64 ex]] w fun e w' => ∃ v', e = .returned (.tuple #[]) ∧ WrAt w' B h (L ++ (hiOf (rd cs s).toNat (rd xs s).toNat ++ lowOf ex bt)) v' ∧ WStep w w' h v v' := by
 obtain ⟨ba, oa, rfl, hca⟩ := hA.2 (by omega)
 obtain ⟨bc, oc, rfl, hcc⟩ := hC.2 (by omega)
 have za := kept_new (hca s hs1) (.cells #[.int .i64 s, .int .i64 bt, .int .u64 ex] 118)
 have zc := kept_new (hcc s hs2) (.cells #[.int .i64 s, .int .i64 bt, .int .u64 ex] 118)
 obtain ⟨y, hy⟩ : ∃ y : Nat, rd xs s = y := ⟨(rd xs s).toNat, by omega⟩
 obtain ⟨cd, hcd⟩ : ∃ cd : Nat, rd cs s = cd := ⟨(rd cs s).toNat, by omega⟩
 rw [hy] at za hx
 rw [hcd] at zc hc
 rw [hy, hcd, Int.toNat_natCast, Int.toNat_natCast]
 obtain ⟨W, hW⟩ : ∃ W, W = w.alloc (.cells #[.int .i64 s, .int .i64 bt, .int .u64 ex] 118) := ⟨_, rfl⟩
 obtain ⟨sb, hsb⟩ : ∃ q, q = w.heap.size := ⟨_, rfl⟩
 have hba : Below w.heap.size w W := by rw [hW]; exact (Below.refl _ _).alloc (Nat.le_refl _) _
 have hnb : W.heap[sb]? = some (.cells #[.int .i64 s, .int .i64 bt, .int .u64 ex] 118 (0, 0)) := by rw [hW, hsb]; exact heap_alloc_new w _
 have hfresh : sb ≠ h ∧ v.ownBlock ≠ some sb := by
  rw [hsb]
  exact ⟨fun e => by have := H.lt; omega, fun e => by have := (H.own.lt _ e).2; omega⟩
 have Hfresh := Lib.hid hfresh
 have Hba := Lib.hid hba
 have HW := Lib.hid (H.below hba)
 have Hnb := Lib.hid hnb
 rw [← hW] at za zc
 have hszW := hba.size
 have HWe := Lib.hid hW
 have Hsb := Lib.hid hsb
 have hs19 : (s : Int) < n1 := by omega
 have hs20 : (s : Int) < n2 := by omega
 clear hca hcc hA hC H hy hcd hW hsb hba hnb hfresh
 go_enter Tryz.func71, Tryz.ntmps71
 go_upto_region 1 with fail
 rw [← HWe.out, ← Hsb.out]
 have n0 := cell_of_row W sb 0 _ _ (0, 0) Hnb.out
 simp only [List.getElem?_toArray, List.getElem?_cons_zero] at n0
 refine wp_region_last (n := 11) (on := ⟨_, _, _, _, _, _⟩) (S := fun W => W.cell? ⟨sb, 0, none⟩ = some (.int .i64 s) ∧ W.cell? ⟨ba, oa + s, none⟩ = some (.int .i64 y) ∧ W.cell? ⟨bc, oc + s, none⟩ = some (.int .u64 cd)) (by kernel_rfl) rfl (by kernel_rfl) (⟨n0, za, zc⟩) (fun hHeld => ?_)
 refine' wpAnyH_take (i := 0) (oi := ⟨_, _, _, _, _, _⟩) rfl (by kernel_rfl) (by kernel_rfl) (by kernel_rfl) (fun _ _ _ h => h) (Or.inl ⟨by rfl, ?a0⟩) (by assumption) ?b0
 case a0 => (intro w hSw; (try dsimp only at hSw); go_simp; try with_reducible rfl)
 try simp only [Act.put, List.setIfInBounds_toArray, List.set_cons_zero, List.set_cons_succ]
 refine' wpAnyH_take (i := 1) (oi := ⟨_, _, _, _, _, _⟩) rfl (by kernel_rfl) (by kernel_rfl) (by kernel_rfl) (fun _ _ _ h => h) (Or.inl ⟨by rfl, ?a1⟩) (by assumption) ?b1
 case a1 => (intro w hSw; (try dsimp only at hSw); go_simp; try with_reducible rfl)
 try simp only [Act.put, List.setIfInBounds_toArray, List.set_cons_zero, List.set_cons_succ]
 refine' wpAnyH_take (i := 2) (oi := ⟨_, _, _, _, _, _⟩) rfl (by kernel_rfl) (by kernel_rfl) (by kernel_rfl) (fun _ _ _ h => h) (Or.inl ⟨by rfl, ?a2⟩) (by assumption) ?b2
 case a2 => (intro w hSw; (try dsimp only at hSw); go_simp; try with_reducible rfl)
 try simp only [Act.put, List.setIfInBounds_toArray, List.set_cons_zero, List.set_cons_succ]
 refine' wpAnyH_take (i := 3) (oi := ⟨_, _, _, _, _, _⟩) rfl (by kernel_rfl) (by kernel_rfl) (by kernel_rfl) (fun _ _ _ h => h) (Or.inl ⟨by rfl, ?a3⟩) (by assumption) ?b3
 case a3 => (intro w hSw; (try dsimp only at hSw); go_simp; try with_reducible rfl)
 try simp only [Act.put, List.setIfInBounds_toArray, List.set_cons_zero, List.set_cons_succ]
 refine' wpAnyH_take (i := 4) (oi := ⟨_, _, _, _, _, _⟩) rfl (by kernel_rfl) (by kernel_rfl) (by kernel_rfl) (fun _ _ _ h => h) (Or.inl ⟨by rfl, ?a4⟩) (by assumption) ?b4
 case a4 => (intro w hSw; (try dsimp only at hSw); go_simp; try with_reducible rfl)
 try simp only [Act.put, List.setIfInBounds_toArray, List.set_cons_zero, List.set_cons_succ]
 refine' wpAnyH_take (i := 5) (oi := ⟨_, _, _, _, _, _⟩) rfl (by kernel_rfl) (by kernel_rfl) (by kernel_rfl) (fun _ _ _ h => h) (Or.inl ⟨by rfl, ?a5⟩) (by assumption) ?b5
 case a5 => (intro w hSw; (try dsimp only at hSw); go_simp; try with_reducible rfl)
 try simp only [Act.put, List.setIfInBounds_toArray, List.set_cons_zero, List.set_cons_succ]
 refine' wpAnyH_take (i := 6) (oi := ⟨_, _, _, _, _, _⟩) rfl (by kernel_rfl) (by kernel_rfl) (by kernel_rfl) (fun _ _ _ h => h) (Or.inl ⟨by rfl, ?a6⟩) (by assumption) ?b6
 case a6 => (intro w hSw; (try dsimp only at hSw); go_simp; try with_reducible rfl)
 try simp only [Act.put, List.setIfInBounds_toArray, List.set_cons_zero, List.set_cons_succ]
 refine' wpAnyH_take (i := 7) (oi := ⟨_, _, _, _, _, _⟩) rfl (by kernel_rfl) (by kernel_rfl) (by kernel_rfl) (fun _ _ _ h => h) (Or.inl ⟨by rfl, ?a7⟩) (by assumption) ?b7
 case a7 => (intro w hSw; (try dsimp only at hSw); go_simp; try with_reducible rfl)
 try simp only [Act.put, List.setIfInBounds_toArray, List.set_cons_zero, List.set_cons_succ]
 refine' wpAnyH_take (i := 8) (oi := ⟨_, _, _, _, _, _⟩) rfl (by kernel_rfl) (by kernel_rfl) (by kernel_rfl) (fun _ _ _ h => h) (Or.inl ⟨by rfl, ?a8⟩) (by assumption) ?b8
 case a8 => (intro w hSw; (try dsimp only at hSw); go_simp; try with_reducible rfl)
 try simp only [Act.put, List.setIfInBounds_toArray, List.set_cons_zero, List.set_cons_succ]
 refine' wpAnyH_take (i := 9) (oi := ⟨_, _, _, _, _, _⟩) rfl (by kernel_rfl) (by kernel_rfl) (by kernel_rfl) (fun _ _ _ h => h) (Or.inl ⟨by rfl, ?a9⟩) (by assumption) ?b9
 case a9 => (intro w hSw; (try dsimp only at hSw); go_simp; try with_reducible rfl)
 try simp only [Act.put, List.setIfInBounds_toArray, List.set_cons_zero, List.set_cons_succ]
 refine' wpAnyH_take (i := 10) (oi := ⟨_, _, _, _, _, _⟩) rfl (by kernel_rfl) (by kernel_rfl) (by kernel_rfl) (fun _ _ _ h => h) (Or.inl ⟨by rfl, ?a10⟩) (by assumption) ?b10
 case a10 => (intro w hSw; (try dsimp only at hSw); go_simp; try with_reducible rfl)
 try simp only [Act.put, List.setIfInBounds_toArray, List.set_cons_zero, List.set_cons_succ]
 refine wpAnyH_done (by kernel_rfl) ?_ _
 change wpList _ _ _ _ _ _
 clear n0 za zc hHeld
 go_wp2_with fail
 have HB := Lib.hid (HW.out.below (Below.refl _ _).drew)
 refine (Code_calls B h y cd _ v _ HB.out (by omega) (by omega) (by omega) (by simp; omega)).mono ?_
 rintro e w9 ⟨v9, rfl, hw9, hs9⟩
 have hS : ∀ o ∈ [some h, v.ownBlock], o ≠ some sb := fun o ho e => by
  simp at ho
  rcases ho with rfl | rfl
  ·cases e; exact Hfresh.out.1 rfl
  ·exact Hfresh.out.2 e
 have hnb9 : w9.heap[sb]? = some (.cells #[.int .i64 s, .int .i64 bt, .int .u64 ex] 118 (0, 0)) := (hs9.fr.block sb (Array.getElem?_eq_some_iff.1 Hnb.out).1 hS).trans Hnb.out
 have q1 := cell_of_row w9 sb 1 _ _ (0, 0) hnb9
 have q2 := cell_of_row w9 sb 2 _ _ (0, 0) hnb9
 simp only [List.getElem?_toArray, List.getElem?_cons_succ, List.getElem?_cons_zero] at q1 q2
 have hsz9 := hs9.fr.size
 simp at hsz9
 have HW9 := Lib.hid hw9
 have HS9 := Lib.hid (WStep.after (Hba.out.trans ((Below.refl W.heap.size W).drew.mono hszW)) hs9)
 clear hw9 hs9 hnb9 hS
 go_wp2_with fail
 refine (Put_calls B h bt _ v9 (some ⟨w9.heap.size, 0, none⟩) 1 1 [(ex : Int)] _ (HW9.out.below ((Below.refl _ _).alloc (Nat.le_refl _) _)) (Blk.rd (heap_alloc_new w9 _) rfl) (fun j hj => ?_) (by omega) (fun b o e => HW9.out.fresh e) (by rw [List.length_append, hiOf_length]; omega) (by simp; omega)).mono ?_
 ·obtain rfl : j = 0 := by omega
  show 0 ≤ (ex : Int) ∧ (ex : Int) < _; omega
 rintro e w10 ⟨v10, rfl, hw10, hs10⟩
 rw [lows_one, List.append_assoc] at hw10
 have HW10 := Lib.hid hw10
 have HS10 := Lib.hid (HS9.out.trans (WStep.after ((Below.refl _ _).alloc (Nat.le_refl _) _) hs10))
 clear hw10 hs10
 go_wp2
 go_end0
 exact ⟨v10, rfl, HW10.out, HS10.out⟩
theorem toks_cells {w : World} {A : Option Addr} {n : Nat} {ts : List Tok} (h : Toks w A n ts) {k : Nat} (hk : k < n) : ∃ b o, A = some ⟨b, o, none⟩ ∧ w.cell? ⟨b, o + k * 3, none⟩ = some (.int .u8 (tokB ts k)) ∧ w.cell? ⟨b, o + k * 3 + 1, none⟩ = some (.int .i64 (tokL ts k)) ∧ w.cell? ⟨b, o + k * 3 + 2, none⟩ = some (.int .i64 (tokD ts k)) := by
 obtain ⟨b, o, e, hc⟩ := h.2 (by omega)
 exact ⟨b, o, e, hc k hk⟩
theorem Toks.frW {w w' : World} {A : Option Addr} {n : Nat} {ts : List Tok} {S : List (Option Nat)} (h : Toks w A n ts) (hf : Fr w w' S) (hS : ∀ b o, A = some ⟨b, o, none⟩ → ∀ s ∈ S, s ≠ some b) : Toks w' A n ts :=
 ⟨h.1, fun hn => by
  obtain ⟨b, o, e, hc⟩ := h.2 hn
  exact ⟨b, o, e, fun j hj => ⟨hf.kept (hc j hj).1 (hS b o e), hf.kept (hc j hj).2.1 (hS b o e), hf.kept (hc j hj).2.2 (hS b o e)⟩⟩⟩
def Off (h : Nat) (v : Value) (A : Option Addr) : Prop := ∀ b o, A = some ⟨b, o, none⟩ → b ≠ h ∧ v.ownBlock ≠ some b
theorem Off.fr {h : Nat} {v : Value} {A : Option Addr} (H : Off h v A) : ∀ b o, A = some ⟨b, o, none⟩ → ∀ s ∈ [some h, v.ownBlock], s ≠ some b := fun b o e s hs e2 => by
 simp at hs
 rcases hs with rfl | rfl
 ·exact (H b o e).1 (Option.some.inj e2).symm
 ·exact (H b o e).2 e2
structure Book (w : World) (h : Nat) (v : Value) (kb : Nat) (A C X Y : Option Addr) (n m c1 c2 c3 c4 : Nat) (a b : List Int) : Prop where
 at' : w.heap[kb]? = some (.cells #[.slice A n c1, .slice C m c2, .slice X n c3, .slice Y m c4] 97 (0, 0))
 ra : Rd w .i64 A n a
 rc : Rd w .i64 C m b
 rx : Rd w .u64 X n (codesOf a)
 ry : Rd w .u64 Y m (codesOf b)
 oa : Off h v A
 oc : Off h v C
 ox : Off h v X
 oy : Off h v Y
 ok : kb ≠ h ∧ v.ownBlock ≠ some kb
theorem Book.step {w0 w : World} {h : Nat} {v : Value} {kb : Nat} {A C X Y : Option Addr} {n m c1 c2 c3 c4 : Nat} {a b : List Int} (H : Book w0 h v kb A C X Y n m c1 c2 c3 c4 a b) (hf : Fr w0 w [some h, v.ownBlock]) :
  w.heap[kb]? = some (.cells #[.slice A n c1, .slice C m c2, .slice X n c3, .slice Y m c4] 97 (0, 0)) ∧ Rd w .i64 A n a ∧ Rd w .i64 C m b ∧ Rd w .u64 X n (codesOf a) ∧ Rd w .u64 Y m (codesOf b) :=
 ⟨(hf.block kb (Array.getElem?_eq_some_iff.1 H.at').1 (fun o ho e => by
  simp at ho
  rcases ho with rfl | rfl
  ·cases e; exact H.ok.1 rfl
  ·exact H.ok.2 e)).trans H.at', H.ra.frW hf H.oa.fr, H.rc.frW hf H.oc.fr, H.rx.frW hf H.ox.fr, H.ry.frW hf H.oy.fr⟩
theorem tabs_fr {w w1 : World} {B h : Nat} {L : List Int} {v : Value} (hT : Tabs w) (H : WrAt w B h L v) (hf : Fr w w1 [some h, v.ownBlock]) (hto : 1 < B ∧ 2 < B) (hBh : B ≤ h) : Tabs w1 := by
 have hl := fun o (ho : o ∈ [some h, v.ownBlock]) => (show o ≠ some 1 ∧ o ≠ some 2 from by
  simp at ho
  rcases ho with rfl | rfl
  ·exact ⟨fun e => by cases e; omega, fun e => by cases e; omega⟩
  ·exact ⟨fun e => by have := (H.own.lt _ e).1; omega, fun e => by have := (H.own.lt _ e).1; omega⟩)
 exact ⟨fun j hj => ⟨hf.kept (hT.1 j hj).1 (fun o ho => (hl o ho).1), hf.kept (hT.1 j hj).2 (fun o ho => (hl o ho).1)⟩, fun j hj => ⟨hf.kept (hT.2 j hj).1 (fun o ho => (hl o ho).2), hf.kept (hT.2 j hj).2 (fun o ho => (hl o ho).2)⟩⟩
theorem code64 {a : List Int} {n : Nat} (hl : a.length = n) (hn : n ≤ 1000) {s : Nat} (hs : s < n) : 0 ≤ rd (codesOf a) s ∧ rd (codesOf a) s < 18446744073709551616 := by
 rw [rd_codesOf a s (by omega)]
 unfold codeAt
 split
 ·have := nextCode_range a (rd a s).toNat s (by omega)
  rw [hl] at this
  omega
 ·omega
set_option maxHeartbeats 4000000 in
set_option maxRecDepth 100000 in
theorem tokens_calls (B h kb n m c1 c2 c3 c4 nt ct : Nat) (L : List Int) (v : Value) (A C X Y T : Option Addr) (a b : List Int) (ts : List Tok) (w : World) (H : WrAt w B h L v) (hK : Book w h v kb A C X Y n m c1 c2 c3 c4 a b) (hT : Toks w T nt ts) (hoT : Off h v T) (hok : TokOk ts) (hTab : Tabs w) (hTo : 1 < B ∧ 2 < B) (hBh : B ≤ h)
  (hn : 286 ≤ n) (hn2 : n ≤ 1000) (hm : 30 ≤ m) (hm2 : m ≤ 1000) (ha : ∀ j, 0 ≤ rd a j ∧ rd a j ≤ 15) (hb : ∀ j, 0 ≤ rd b j ∧ rd b j ≤ 15) (hnt : nt ≤ 100000) (hL : L.length ≤ 50000000) (hB : B ≤ w.heap.size) :
  Calls Tryz.prog 52 #[.pointer (some ⟨kb, 0, none⟩), .pointer (some ⟨h, 0, none⟩), .slice T nt ct] w fun e w' => ∃ v', e = .returned (.tuple #[]) ∧ WrAt w' B h (L ++ toksS a b ts) v' ∧ WStep w w' h v v' := by
 have HH := Lib.hid H
 have HK := Lib.hid hK
 have HT := Lib.hid hT
 have HoT := Lib.hid hoT
 have Hok := Lib.hid hok
 have HTab := Lib.hid hTab
 have HTo := Lib.hid hTo
 have Ha := Lib.hid ha
 have Hb := Lib.hid hb
 have Hlt := Lib.hid hT.1
 have Hla := Lib.hid hK.ra.1
 have Hlb := Lib.hid hK.rc.1
 have Htl := Lib.hid (toksTo_len ha hb hok)
 clear H hK hT hoT hok hTab hTo ha hb
 go_enter Tryz.func52, Tryz.ntmps52
 go_wp2
 go_loopw [10] (fun i wr => ∃ (k : Nat) (v' : Value), k ≤ nt ∧ i = .int .i64 k ∧ Hid (WrAt wr B h (L ++ toksTo a b ts k) v') ∧ Hid (WStep w wr h v v')) (fun i _ => nt - (intOf i).toNat)
 case atStart => exact ⟨0, v, by omega, rfl, by rw [show toksTo a b ts 0 = [] from rfl, List.append_nil]; exact HH.out, WStep.refl _ _ _⟩
 case round =>
  obtain ⟨k, v', hk, rfl, HW, HS⟩ := hrel
  obtain ⟨hrow, hra, hrc, hrx, hry⟩ := HK.out.step HS.out.fr
  have hszr := HS.out.fr.size
  have hlk := Htl.out k (by rw [Hlt.out]; exact hk)
  have hTr : Toks wr T nt ts := HT.out.frW HS.out.fr HoT.out.fr
  have hTabr : Tabs wr := tabs_fr HTab.out HH.out HS.out.fr HTo.out hBh
  have Hra := Lib.hid hra
  have Hrc := Lib.hid hrc
  have Hrx := Lib.hid hrx
  have Hry := Lib.hid hry
  have Hrow := Lib.hid hrow
  have HTr := Lib.hid hTr
  have HTabr := Lib.hid hTabr
  clear hrow hra hrc hrx hry hTr hTabr
  by_cases hlt : k < nt
  ·obtain ⟨bt, ot, rfl, z0, z1, z2⟩ := toks_cells HTr.out hlt
   obtain ⟨htb, htk⟩ := Hok.out k (by rw [Hlt.out]; exact hlt)
   have hsucc := toksTo_succ a b (ts := ts) (k := k) (by rw [Hlt.out]; exact hlt)
   generalize tokB ts k = vb at *
   generalize tokL ts k = vl at *
   generalize tokD ts k = vd at *
   obtain ⟨W1, hW1⟩ : ∃ W, W = wr.alloc (.cells #[.int .u8 vb, .int .i64 vl, .int .i64 vd] 105) := ⟨_, rfl⟩
   have hb1 : Below wr.heap.size wr W1 := by rw [hW1]; exact (Below.refl _ _).alloc (Nat.le_refl _) _
   obtain ⟨tb, htbe⟩ : ∃ q, q = wr.heap.size := ⟨_, rfl⟩
   have hnb : W1.heap[tb]? = some (.cells #[.int .u8 vb, .int .i64 vl, .int .i64 vd] 105 (0, 0)) := by rw [hW1, htbe]; exact heap_alloc_new wr _
   have hfresh : tb ≠ h ∧ v'.ownBlock ≠ some tb := by
    rw [htbe]
    exact ⟨fun e => by have := HW.out.lt; omega, fun e => by have := (HW.out.own.lt _ e).2; omega⟩
   have y0 := cell_of_row W1 tb 0 _ _ (0, 0) hnb
   have y1 := cell_of_row W1 tb 1 _ _ (0, 0) hnb
   have y2 := cell_of_row W1 tb 2 _ _ (0, 0) hnb
   simp only [List.getElem?_toArray, List.getElem?_cons_succ, List.getElem?_cons_zero] at y0 y1 y2
   have hkr := (hb1.block kb (Array.getElem?_eq_some_iff.1 Hrow.out).1).trans Hrow.out
   have k0 := cell_of_row W1 kb 0 _ _ (0, 0) hkr
   have k1 := cell_of_row W1 kb 1 _ _ (0, 0) hkr
   have k2 := cell_of_row W1 kb 2 _ _ (0, 0) hkr
   have k3 := cell_of_row W1 kb 3 _ _ (0, 0) hkr
   simp only [List.getElem?_toArray, List.getElem?_cons_succ, List.getElem?_cons_zero] at k0 k1 k2 k3
   have L0 : Later W1 W1.drew := (Later.refl W1).drew
   have HT1 := Lib.hid (HTabr.out.below hb1)
   have Hkr := Lib.hid hkr
   have Hnb := Lib.hid hnb
   have Hfresh := Lib.hid hfresh
   have Hb1 := Lib.hid hb1
   have hsz1 := hb1.size
   have HtW := Lib.hid htbe
   have HW1 := Lib.hid hW1
   clear hb1 hkr hnb hfresh htbe hW1
   rcases tokOk_cases htk with ⟨hl, hd⟩ | ⟨hb0, hl1, hl2, hd1, hd2⟩
   ·subst hl
    obtain ⟨m0, hm0⟩ : ∃ m0 : Nat, vb = m0 := ⟨vb.toNat, by omega⟩
    subst hm0
    have q0 := Later.cell y0
    have j0 := Later.cell k0
    have j2 := Later.cell k2
    have hbits : tokBits a b ((m0 : Int), 0, vd) = symCode a m0 := if_pos rfl
    rw [hbits] at hsucc
    have Hsucc := Lib.hid hsucc
    have hm286 : m0 ≤ 255 := by omega
    have hrx := Ha.out m0
    have hrc := code64 (a := a) Hla.out hn2 (s := m0) (by omega)
    clear hsucc hbits hd htk htb y0 y2 k0 k1 k2 k3
    go_upto_region 4 with fail
    rw [← HW1.out, ← HtW.out]
    refine wp_region_last (n := 12) (on := ⟨_, _, _, _, _, _⟩) (S := fun W => Later W1 W) (by kernel_rfl) rfl (by kernel_rfl) (L0) (fun hHeld => ?_)
    refine' wpAnyH_take (i := 0) (oi := ⟨_, _, _, _, _, _⟩) rfl (by kernel_rfl) (by kernel_rfl) (by kernel_rfl) (fun _ _ _ h => h) (Or.inl ⟨by rfl, ?a11⟩) (by assumption) ?b11
    case a11 => (intro w hSw; (try dsimp only at hSw); go_simp; try with_reducible rfl)
    try simp only [Act.put, List.setIfInBounds_toArray, List.set_cons_zero, List.set_cons_succ]
    refine' wpAnyH_take (i := 1) (oi := ⟨_, _, _, _, _, _⟩) rfl (by kernel_rfl) (by kernel_rfl) (by kernel_rfl) (fun _ _ _ h => h) (Or.inl ⟨by rfl, ?a12⟩) (by assumption) ?b12
    case a12 => (intro w hSw; (try dsimp only at hSw); go_simp; try with_reducible rfl)
    try simp only [Act.put, List.setIfInBounds_toArray, List.set_cons_zero, List.set_cons_succ]
    refine' wpAnyH_take (i := 2) (oi := ⟨_, _, _, _, _, _⟩) rfl (by kernel_rfl) (by kernel_rfl) (by kernel_rfl) (fun _ _ _ h => h) (Or.inl ⟨by rfl, ?a13⟩) (by assumption) ?b13
    case a13 => (intro w hSw; (try dsimp only at hSw); go_simp; try with_reducible rfl)
    try simp only [Act.put, List.setIfInBounds_toArray, List.set_cons_zero, List.set_cons_succ]
    refine' wpAnyH_take (i := 3) (oi := ⟨_, _, _, _, _, _⟩) rfl (by kernel_rfl) (by kernel_rfl) (by kernel_rfl) (fun _ _ _ h => h) (Or.inl ⟨by rfl, ?a14⟩) (by assumption) ?b14
    case a14 => (intro w hSw; (try dsimp only at hSw); go_simp; try with_reducible rfl)
    try simp only [Act.put, List.setIfInBounds_toArray, List.set_cons_zero, List.set_cons_succ]
    refine' wpAnyH_take (i := 4) (oi := ⟨_, _, _, _, _, _⟩) rfl (by kernel_rfl) (by kernel_rfl) (by kernel_rfl) (fun _ _ _ h => h) (Or.inl ⟨by rfl, ?a15⟩) (by assumption) ?b15
    case a15 => (intro w hSw; (try dsimp only at hSw); go_simp; try with_reducible rfl)
    try simp only [Act.put, List.setIfInBounds_toArray, List.set_cons_zero, List.set_cons_succ]
    refine' wpAnyH_take (i := 5) (oi := ⟨_, _, _, _, _, _⟩) rfl (by kernel_rfl) (by kernel_rfl) (by kernel_rfl) (fun _ _ _ h => h) (Or.inl ⟨by rfl, ?a16⟩) (by assumption) ?b16
    case a16 => (intro w hSw; (try dsimp only at hSw); go_simp; try with_reducible rfl)
    try simp only [Act.put, List.setIfInBounds_toArray, List.set_cons_zero, List.set_cons_succ]
    refine' wpAnyH_take (i := 6) (oi := ⟨_, _, _, _, _, _⟩) rfl (by kernel_rfl) (by kernel_rfl) (by kernel_rfl) (fun _ _ _ h => h) (Or.inl ⟨by rfl, ?a17⟩) (by assumption) ?b17
    case a17 => (intro w hSw; (try dsimp only at hSw); go_simp; try with_reducible rfl)
    try simp only [Act.put, List.setIfInBounds_toArray, List.set_cons_zero, List.set_cons_succ]
    refine' wpAnyH_take (i := 7) (oi := ⟨_, _, _, _, _, _⟩) rfl (by kernel_rfl) (by kernel_rfl) (by kernel_rfl) (fun _ _ _ h => h) (Or.inl ⟨by rfl, ?a18⟩) (by assumption) ?b18
    case a18 => (intro w hSw; (try dsimp only at hSw); go_simp; try with_reducible rfl)
    try simp only [Act.put, List.setIfInBounds_toArray, List.set_cons_zero, List.set_cons_succ]
    refine' wpAnyH_take (i := 8) (oi := ⟨_, _, _, _, _, _⟩) rfl (by kernel_rfl) (by kernel_rfl) (by kernel_rfl) (fun _ _ _ h => h) (Or.inl ⟨by rfl, ?a19⟩) (by assumption) ?b19
    case a19 => (intro w hSw; (try dsimp only at hSw); go_simp; try with_reducible rfl)
    try simp only [Act.put, List.setIfInBounds_toArray, List.set_cons_zero, List.set_cons_succ]
    refine' wpAnyH_take (i := 9) (oi := ⟨_, _, _, _, _, _⟩) rfl (by kernel_rfl) (by kernel_rfl) (by kernel_rfl) (fun _ _ _ h => h) (Or.inl ⟨by rfl, ?a20⟩) (by assumption) ?b20
    case a20 => (intro w hSw; (try dsimp only at hSw); go_simp; try with_reducible rfl)
    try simp only [Act.put, List.setIfInBounds_toArray, List.set_cons_zero, List.set_cons_succ]
    refine' wpAnyH_take (i := 10) (oi := ⟨_, _, _, _, _, _⟩) rfl (by kernel_rfl) (by kernel_rfl) (by kernel_rfl) (fun _ _ _ h => h) (Or.inl ⟨by rfl, ?a21⟩) (by assumption) ?b21
    case a21 => (intro w hSw; (try dsimp only at hSw); go_simp; try with_reducible rfl)
    try simp only [Act.put, List.setIfInBounds_toArray, List.set_cons_zero, List.set_cons_succ]
    refine wpAnyH_ready (rs := [11]) (by kernel_rfl) (by simp) ?_
    refine AllReadyH.cons (o := ⟨_, _, _, _, _, _⟩) rfl (fun K hK => ?_) AllReadyH.nil
    go_simp
    go_at_call 72
    refine (Literal_calls _ _ (by omega) (by omega)).mono ?_
    rintro e w2 ⟨rfl, hb2⟩
    have L1 : Later W1 w2 := Later.step hHeld hb2
    clear hb2
    refine hK.out _ _ (L1) (fun hHeldN => ?_)
    clear hK K hHeld
    have hHeld := hHeldN
    clear hHeldN
    try simp only [Act.put, List.setIfInBounds_toArray, List.set_cons_zero, List.set_cons_succ]
    refine wpAnyH_done (by kernel_rfl) ?_ _
    change wpList _ _ _ _ _ _
    clear q0 j0 j2 y1 z0 z1 z2 hHeld
    go_wp2_with fail
    refine (dput_calls B h n c1 n c3 m0 0 0 _ v' A X a (codesOf a) _ ((HW.out.below Hb1.out).below L1.bel) ((Hra.out.below Hb1.out).below L1.bel) ((Hrx.out.below Hb1.out).below L1.bel) (by omega) (by omega) hn2 hn2 hrx hrc (by omega) (by omega) (by rw [List.length_append]; omega) (by have := L1.bel.size; omega)).mono ?_
    rintro e w3 ⟨v3, rfl, hw3, hs3⟩
    have HW3 := Lib.hid hw3
    have HS3 := Lib.hid (HS.out.trans (WStep.after (Hb1.out.trans (L1.bel.mono hsz1)) hs3))
    clear hw3 hs3 L1
    go_wp2
    go_roundw
    case rel => exact ⟨k + 1, v3, by omega, by go_num, by rw [Hsucc.out, ← List.append_assoc]; unfold symCode; have h9 := HW3.out; rw [show lowOf 0 0 = [] from rfl, List.append_nil] at h9; exact h9, HS3.out⟩
    case measure => simp [intOf]; omega
   ·have r1 := symL_range vl hl1 hl2
    have r2 := symD_range vd hd1 hd2
    obtain ⟨p, hp⟩ : ∃ p : Nat, symS 257 lens vl = p := ⟨(symS 257 lens vl).toNat, by omega⟩
    obtain ⟨pb, hpb⟩ : ∃ p : Nat, symB lens vl = p := ⟨(symB lens vl).toNat, by omega⟩
    obtain ⟨px, hpx⟩ : ∃ p : Nat, symX lens vl = p := ⟨(symX lens vl).toNat, by omega⟩
    obtain ⟨q, hq⟩ : ∃ p : Nat, symS 0 dists vd = p := ⟨(symS 0 dists vd).toNat, by omega⟩
    obtain ⟨qb, hqb⟩ : ∃ p : Nat, symB dists vd = p := ⟨(symB dists vd).toNat, by omega⟩
    obtain ⟨qx, hqx⟩ : ∃ p : Nat, symX dists vd = p := ⟨(symX dists vd).toNat, by omega⟩
    have hbits : tokBits a b (vb, vl, vd) = symCode a p ++ lowOf px pb ++ (symCode b q ++ lowOf qx qb) := by
     unfold tokBits
     rw [if_neg (by show ¬ vl = 0; omega), hp, hpb, hpx, hq, hqb, hqx, Int.toNat_natCast, Int.toNat_natCast, Int.toNat_natCast, Int.toNat_natCast, Int.toNat_natCast, Int.toNat_natCast]
    rw [hbits] at hsucc
    rw [hp, hpb, hpx] at r1
    rw [hq, hqb, hqx] at r2
    have Hsucc := Lib.hid hsucc
    have HP := Lib.hid hp
    have HPB := Lib.hid hpb
    have HPX := Lib.hid hpx
    have HQ := Lib.hid hq
    have HQB := Lib.hid hqb
    have HQX := Lib.hid hqx
    have HCL := Lib.hid (clampL_in hl1 hl2)
    have HCD := Lib.hid (clampD_in hd1 hd2)
    have hl0 : (vl == 0) = false := by simp; omega
    have hp286 : p ≤ 285 := by omega
    have hpb5 : pb ≤ 5 := by omega
    have hpx5 : px ≤ 255 := by omega
    have hq29 : q ≤ 29 := by omega
    have hqb5 : qb ≤ 13 := by omega
    have hqx5 : qx ≤ 32767 := by omega
    have hxa := Ha.out p
    have hca := code64 (a := a) Hla.out hn2 (s := p) (by omega)
    have hxb := Hb.out q
    have hcb := code64 (a := b) Hlb.out hm2 (s := q) (by omega)
    have q1 := Later.cell y1
    have j0 := Later.cell k0
    have j2 := Later.cell k2
    clear hsucc hbits htk htb hp hpb hpx hq hqb hqx r1 r2 y0 y2 k0 k1 k2 k3 hb0
    go_upto_region 5 with fail
    rw [← HW1.out, ← HtW.out]
    refine wp_region_last (n := 12) (on := ⟨_, _, _, _, _, _⟩) (S := fun W => Later W1 W) (by kernel_rfl) rfl (by kernel_rfl) (L0) (fun hHeld => ?_)
    refine' wpAnyH_take (i := 0) (oi := ⟨_, _, _, _, _, _⟩) rfl (by kernel_rfl) (by kernel_rfl) (by kernel_rfl) (fun _ _ _ h => h) (Or.inl ⟨by rfl, ?a22⟩) (by assumption) ?b22
    case a22 => (intro w hSw; (try dsimp only at hSw); go_simp; try with_reducible rfl)
    try simp only [Act.put, List.setIfInBounds_toArray, List.set_cons_zero, List.set_cons_succ]
    refine' wpAnyH_take (i := 1) (oi := ⟨_, _, _, _, _, _⟩) rfl (by kernel_rfl) (by kernel_rfl) (by kernel_rfl) (fun _ _ _ h => h) (Or.inl ⟨by rfl, ?a23⟩) (by assumption) ?b23
    case a23 => (intro w hSw; (try dsimp only at hSw); go_simp; try with_reducible rfl)
    try simp only [Act.put, List.setIfInBounds_toArray, List.set_cons_zero, List.set_cons_succ]
    refine' wpAnyH_take (i := 2) (oi := ⟨_, _, _, _, _, _⟩) rfl (by kernel_rfl) (by kernel_rfl) (by kernel_rfl) (fun _ _ _ h => h) (Or.inl ⟨by rfl, ?a24⟩) (by assumption) ?b24
    case a24 => (intro w hSw; (try dsimp only at hSw); go_simp; try with_reducible rfl)
    try simp only [Act.put, List.setIfInBounds_toArray, List.set_cons_zero, List.set_cons_succ]
    refine' wpAnyH_take (i := 3) (oi := ⟨_, _, _, _, _, _⟩) rfl (by kernel_rfl) (by kernel_rfl) (by kernel_rfl) (fun _ _ _ h => h) (Or.inl ⟨by rfl, ?a25⟩) (by assumption) ?b25
    case a25 => (intro w hSw; (try dsimp only at hSw); go_simp; try with_reducible rfl)
    try simp only [Act.put, List.setIfInBounds_toArray, List.set_cons_zero, List.set_cons_succ]
    refine' wpAnyH_take (i := 4) (oi := ⟨_, _, _, _, _, _⟩) rfl (by kernel_rfl) (by kernel_rfl) (by kernel_rfl) (fun _ _ _ h => h) (Or.inl ⟨by rfl, ?a26⟩) (by assumption) ?b26
    case a26 => (intro w hSw; (try dsimp only at hSw); go_simp; try with_reducible rfl)
    try simp only [Act.put, List.setIfInBounds_toArray, List.set_cons_zero, List.set_cons_succ]
    refine' wpAnyH_take (i := 5) (oi := ⟨_, _, _, _, _, _⟩) rfl (by kernel_rfl) (by kernel_rfl) (by kernel_rfl) (fun _ _ _ h => h) (Or.inl ⟨by rfl, ?a27⟩) (by assumption) ?b27
    case a27 => (intro w hSw; (try dsimp only at hSw); go_simp; try with_reducible rfl)
    try simp only [Act.put, List.setIfInBounds_toArray, List.set_cons_zero, List.set_cons_succ]
    refine' wpAnyH_take (i := 6) (oi := ⟨_, _, _, _, _, _⟩) rfl (by kernel_rfl) (by kernel_rfl) (by kernel_rfl) (fun _ _ _ h => h) (Or.inl ⟨by rfl, ?a28⟩) (by assumption) ?b28
    case a28 => (intro w hSw; (try dsimp only at hSw); go_simp; try with_reducible rfl)
    try simp only [Act.put, List.setIfInBounds_toArray, List.set_cons_zero, List.set_cons_succ]
    refine' wpAnyH_take (i := 7) (oi := ⟨_, _, _, _, _, _⟩) rfl (by kernel_rfl) (by kernel_rfl) (by kernel_rfl) (fun _ _ _ h => h) (Or.inl ⟨by rfl, ?a29⟩) (by assumption) ?b29
    case a29 => (intro w hSw; (try dsimp only at hSw); go_simp; try with_reducible rfl)
    try simp only [Act.put, List.setIfInBounds_toArray, List.set_cons_zero, List.set_cons_succ]
    refine' wpAnyH_take (i := 8) (oi := ⟨_, _, _, _, _, _⟩) rfl (by kernel_rfl) (by kernel_rfl) (by kernel_rfl) (fun _ _ _ h => h) (Or.inl ⟨by rfl, ?a30⟩) (by assumption) ?b30
    case a30 => (intro w hSw; (try dsimp only at hSw); go_simp; try with_reducible rfl)
    try simp only [Act.put, List.setIfInBounds_toArray, List.set_cons_zero, List.set_cons_succ]
    refine' wpAnyH_take (i := 9) (oi := ⟨_, _, _, _, _, _⟩) rfl (by kernel_rfl) (by kernel_rfl) (by kernel_rfl) (fun _ _ _ h => h) (Or.inl ⟨by rfl, ?a31⟩) (by assumption) ?b31
    case a31 => (intro w hSw; (try dsimp only at hSw); go_simp; try with_reducible rfl)
    try simp only [Act.put, List.setIfInBounds_toArray, List.set_cons_zero, List.set_cons_succ]
    refine' wpAnyH_take (i := 10) (oi := ⟨_, _, _, _, _, _⟩) rfl (by kernel_rfl) (by kernel_rfl) (by kernel_rfl) (fun _ _ _ h => h) (Or.inl ⟨by rfl, ?a32⟩) (by assumption) ?b32
    case a32 => (intro w hSw; (try dsimp only at hSw); go_simp; try with_reducible rfl)
    try simp only [Act.put, List.setIfInBounds_toArray, List.set_cons_zero, List.set_cons_succ]
    refine wpAnyH_ready (rs := [11]) (by kernel_rfl) (by simp) ?_
    refine AllReadyH.cons (o := ⟨_, _, _, _, _, _⟩) rfl (fun K hK => ?_) AllReadyH.nil
    go_simp
    go_at_call 73
    refine (Length_calls _ _ (by omega) (by omega) (HT1.out.1.below hHeld.bel)).mono ?_
    rintro e w2 ⟨rfl, hb2⟩
    rw [HCL.out, HP.out, HPB.out, HPX.out]
    have L1 : Later W1 w2 := Later.step hHeld hb2
    clear hb2
    refine hK.out _ _ (L1) (fun hHeldN => ?_)
    clear hK K hHeld
    have hHeld := hHeldN
    clear hHeldN
    try simp only [Act.put, List.setIfInBounds_toArray, List.set_cons_zero, List.set_cons_succ]
    refine wpAnyH_done (by kernel_rfl) ?_ _
    change wpList _ _ _ _ _ _
    clear q1 j0 j2 y1 z0 z1 z2 hHeld
    go_wp2_with fail
    refine (dput_calls B h n c1 n c3 p pb px _ v' A X a (codesOf a) _ ((HW.out.below Hb1.out).below L1.bel) ((Hra.out.below Hb1.out).below L1.bel) ((Hrx.out.below Hb1.out).below L1.bel) (by omega) (by omega) hn2 hn2 hxa hca (by omega) (by omega) (by rw [List.length_append]; omega) (by have := L1.bel.size; omega)).mono ?_
    rintro e w3 ⟨v3, rfl, hw3, hs3⟩
    have HW3 := Lib.hid hw3
    have hst := WStep.after L1.bel hs3
    have HS3 := Lib.hid (HS.out.trans (WStep.after Hb1.out hst))
    have hnb3 := (hst.fr.block tb (Array.getElem?_eq_some_iff.1 Hnb.out).1 (fun o ho e => by
     simp at ho
     rcases ho with rfl | rfl
     ·exact Hfresh.out.1 (Option.some.inj e).symm
     ·exact Hfresh.out.2 e)).trans Hnb.out
    have y2 := cell_of_row w3 tb 2 _ _ (0, 0) hnb3
    obtain ⟨hrow3, _, hrc3, _, hry3⟩ := HK.out.step HS3.out.fr
    have k1 := cell_of_row w3 kb 1 _ _ (0, 0) hrow3
    have k3 := cell_of_row w3 kb 3 _ _ (0, 0) hrow3
    simp only [List.getElem?_toArray, List.getElem?_cons_succ, List.getElem?_cons_zero] at y2 k1 k3
    have HT3 := Lib.hid (tabs_fr HTab.out HH.out HS3.out.fr HTo.out hBh)
    have Hrc3 := Lib.hid hrc3
    have Hry3 := Lib.hid hry3
    have q2 := Later.cell y2
    have j1 := Later.cell k1
    have j3 := Later.cell k3
    have hsz3 := HS3.out.fr.size
    have L3 : Later w3 w3.drew := (Later.refl w3).drew
    clear hw3 hs3 L1 hst hnb3 hrow3 hrc3 hry3 y2 k1 k3
    go_upto_region 6 with fail
    refine wp_region_last (n := 12) (on := ⟨_, _, _, _, _, _⟩) (S := fun W => Later w3 W) (by kernel_rfl) rfl (by kernel_rfl) (L3) (fun hHeld => ?_)
    refine' wpAnyH_take (i := 0) (oi := ⟨_, _, _, _, _, _⟩) rfl (by kernel_rfl) (by kernel_rfl) (by kernel_rfl) (fun _ _ _ h => h) (Or.inl ⟨by rfl, ?a33⟩) (by assumption) ?b33
    case a33 => (intro w hSw; (try dsimp only at hSw); go_simp; try with_reducible rfl)
    try simp only [Act.put, List.setIfInBounds_toArray, List.set_cons_zero, List.set_cons_succ]
    refine' wpAnyH_take (i := 1) (oi := ⟨_, _, _, _, _, _⟩) rfl (by kernel_rfl) (by kernel_rfl) (by kernel_rfl) (fun _ _ _ h => h) (Or.inl ⟨by rfl, ?a34⟩) (by assumption) ?b34
    case a34 => (intro w hSw; (try dsimp only at hSw); go_simp; try with_reducible rfl)
    try simp only [Act.put, List.setIfInBounds_toArray, List.set_cons_zero, List.set_cons_succ]
    refine' wpAnyH_take (i := 2) (oi := ⟨_, _, _, _, _, _⟩) rfl (by kernel_rfl) (by kernel_rfl) (by kernel_rfl) (fun _ _ _ h => h) (Or.inl ⟨by rfl, ?a35⟩) (by assumption) ?b35
    case a35 => (intro w hSw; (try dsimp only at hSw); go_simp; try with_reducible rfl)
    try simp only [Act.put, List.setIfInBounds_toArray, List.set_cons_zero, List.set_cons_succ]
    refine' wpAnyH_take (i := 3) (oi := ⟨_, _, _, _, _, _⟩) rfl (by kernel_rfl) (by kernel_rfl) (by kernel_rfl) (fun _ _ _ h => h) (Or.inl ⟨by rfl, ?a36⟩) (by assumption) ?b36
    case a36 => (intro w hSw; (try dsimp only at hSw); go_simp; try with_reducible rfl)
    try simp only [Act.put, List.setIfInBounds_toArray, List.set_cons_zero, List.set_cons_succ]
    refine' wpAnyH_take (i := 4) (oi := ⟨_, _, _, _, _, _⟩) rfl (by kernel_rfl) (by kernel_rfl) (by kernel_rfl) (fun _ _ _ h => h) (Or.inl ⟨by rfl, ?a37⟩) (by assumption) ?b37
    case a37 => (intro w hSw; (try dsimp only at hSw); go_simp; try with_reducible rfl)
    try simp only [Act.put, List.setIfInBounds_toArray, List.set_cons_zero, List.set_cons_succ]
    refine' wpAnyH_take (i := 5) (oi := ⟨_, _, _, _, _, _⟩) rfl (by kernel_rfl) (by kernel_rfl) (by kernel_rfl) (fun _ _ _ h => h) (Or.inl ⟨by rfl, ?a38⟩) (by assumption) ?b38
    case a38 => (intro w hSw; (try dsimp only at hSw); go_simp; try with_reducible rfl)
    try simp only [Act.put, List.setIfInBounds_toArray, List.set_cons_zero, List.set_cons_succ]
    refine' wpAnyH_take (i := 6) (oi := ⟨_, _, _, _, _, _⟩) rfl (by kernel_rfl) (by kernel_rfl) (by kernel_rfl) (fun _ _ _ h => h) (Or.inl ⟨by rfl, ?a39⟩) (by assumption) ?b39
    case a39 => (intro w hSw; (try dsimp only at hSw); go_simp; try with_reducible rfl)
    try simp only [Act.put, List.setIfInBounds_toArray, List.set_cons_zero, List.set_cons_succ]
    refine' wpAnyH_take (i := 7) (oi := ⟨_, _, _, _, _, _⟩) rfl (by kernel_rfl) (by kernel_rfl) (by kernel_rfl) (fun _ _ _ h => h) (Or.inl ⟨by rfl, ?a40⟩) (by assumption) ?b40
    case a40 => (intro w hSw; (try dsimp only at hSw); go_simp; try with_reducible rfl)
    try simp only [Act.put, List.setIfInBounds_toArray, List.set_cons_zero, List.set_cons_succ]
    refine' wpAnyH_take (i := 8) (oi := ⟨_, _, _, _, _, _⟩) rfl (by kernel_rfl) (by kernel_rfl) (by kernel_rfl) (fun _ _ _ h => h) (Or.inl ⟨by rfl, ?a41⟩) (by assumption) ?b41
    case a41 => (intro w hSw; (try dsimp only at hSw); go_simp; try with_reducible rfl)
    try simp only [Act.put, List.setIfInBounds_toArray, List.set_cons_zero, List.set_cons_succ]
    refine' wpAnyH_take (i := 9) (oi := ⟨_, _, _, _, _, _⟩) rfl (by kernel_rfl) (by kernel_rfl) (by kernel_rfl) (fun _ _ _ h => h) (Or.inl ⟨by rfl, ?a42⟩) (by assumption) ?b42
    case a42 => (intro w hSw; (try dsimp only at hSw); go_simp; try with_reducible rfl)
    try simp only [Act.put, List.setIfInBounds_toArray, List.set_cons_zero, List.set_cons_succ]
    refine' wpAnyH_take (i := 10) (oi := ⟨_, _, _, _, _, _⟩) rfl (by kernel_rfl) (by kernel_rfl) (by kernel_rfl) (fun _ _ _ h => h) (Or.inl ⟨by rfl, ?a43⟩) (by assumption) ?b43
    case a43 => (intro w hSw; (try dsimp only at hSw); go_simp; try with_reducible rfl)
    try simp only [Act.put, List.setIfInBounds_toArray, List.set_cons_zero, List.set_cons_succ]
    refine wpAnyH_ready (rs := [11]) (by kernel_rfl) (by simp) ?_
    refine AllReadyH.cons (o := ⟨_, _, _, _, _, _⟩) rfl (fun K hK => ?_) AllReadyH.nil
    go_simp
    go_at_call 74
    refine (Distance_calls _ _ (by omega) (by omega) (HT3.out.2.below hHeld.bel)).mono ?_
    rintro e w4 ⟨rfl, hb4⟩
    rw [HCD.out, HQ.out, HQB.out, HQX.out]
    have L4 : Later w3 w4 := Later.step hHeld hb4
    clear hb4
    refine hK.out _ _ (L4) (fun hHeldN => ?_)
    clear hK K hHeld
    have hHeld := hHeldN
    clear hHeldN
    try simp only [Act.put, List.setIfInBounds_toArray, List.set_cons_zero, List.set_cons_succ]
    refine wpAnyH_done (by kernel_rfl) ?_ _
    change wpList _ _ _ _ _ _
    clear q2 j1 j3 hHeld
    go_wp2_with fail
    refine (dput_calls B h m c2 m c4 q qb qx _ v3 C Y b (codesOf b) _ (HW3.out.below L4.bel) (Hrc3.out.below L4.bel) (Hry3.out.below L4.bel) (by omega) (by omega) hm2 hm2 hxb hcb (by omega) (by omega) (by rw [List.length_append, List.length_append, List.length_append, hiOf_length, lowOf_length]; omega) (by have := L4.bel.size; omega)).mono ?_
    rintro e w5 ⟨v5, rfl, hw5, hs5⟩
    have HW5 := Lib.hid hw5
    have HS5 := Lib.hid (HS3.out.trans (WStep.after L4.bel hs5))
    clear hw5 hs5 L4
    go_wp2
    go_roundw
    case rel => exact ⟨k + 1, v5, by omega, by go_num, by rw [Hsucc.out]; unfold symCode; have h9 := HW5.out; simp only [List.append_assoc] at h9 ⊢; exact h9, HS5.out⟩
    case measure => simp [intOf]; omega
  ·obtain rfl : k = nt := by omega
   have hall : toksTo a b ts k = ts.flatMap (tokBits a b) := by rw [← Hlt.out]; exact toksTo_all a b ts
   have Hall := Lib.hid hall
   have k0 := cell_of_row wr kb 0 _ _ (0, 0) Hrow.out
   have k2 := cell_of_row wr kb 2 _ _ (0, 0) Hrow.out
   simp only [List.getElem?_toArray, List.getElem?_cons_succ, List.getElem?_cons_zero] at k0 k2
   have j0 := Later.cell k0
   have j2 := Later.cell k2
   have hxa := Ha.out 256
   have hca := code64 (a := a) Hla.out hn2 (s := 256) (by omega)
   have L0 : Later wr wr.drew := (Later.refl wr).drew
   clear hall k0 k2
   go_upto_region 8 with fail
   refine wp_region_last (n := 10) (on := ⟨_, _, _, _, _, _⟩) (S := fun W => Later wr W) (by kernel_rfl) rfl (by kernel_rfl) (L0) (fun hHeld => ?_)
   refine' wpAnyH_take (i := 0) (oi := ⟨_, _, _, _, _, _⟩) rfl (by kernel_rfl) (by kernel_rfl) (by kernel_rfl) (fun _ _ _ h => h) (Or.inl ⟨by rfl, ?a44⟩) (by assumption) ?b44
   case a44 => (intro w hSw; (try dsimp only at hSw); go_simp; try with_reducible rfl)
   try simp only [Act.put, List.setIfInBounds_toArray, List.set_cons_zero, List.set_cons_succ]
   refine' wpAnyH_take (i := 1) (oi := ⟨_, _, _, _, _, _⟩) rfl (by kernel_rfl) (by kernel_rfl) (by kernel_rfl) (fun _ _ _ h => h) (Or.inl ⟨by rfl, ?a45⟩) (by assumption) ?b45
   case a45 => (intro w hSw; (try dsimp only at hSw); go_simp; try with_reducible rfl)
   try simp only [Act.put, List.setIfInBounds_toArray, List.set_cons_zero, List.set_cons_succ]
   refine' wpAnyH_take (i := 2) (oi := ⟨_, _, _, _, _, _⟩) rfl (by kernel_rfl) (by kernel_rfl) (by kernel_rfl) (fun _ _ _ h => h) (Or.inl ⟨by rfl, ?a46⟩) (by assumption) ?b46
   case a46 => (intro w hSw; (try dsimp only at hSw); go_simp; try with_reducible rfl)
   try simp only [Act.put, List.setIfInBounds_toArray, List.set_cons_zero, List.set_cons_succ]
   refine' wpAnyH_take (i := 3) (oi := ⟨_, _, _, _, _, _⟩) rfl (by kernel_rfl) (by kernel_rfl) (by kernel_rfl) (fun _ _ _ h => h) (Or.inl ⟨by rfl, ?a47⟩) (by assumption) ?b47
   case a47 => (intro w hSw; (try dsimp only at hSw); go_simp; try with_reducible rfl)
   try simp only [Act.put, List.setIfInBounds_toArray, List.set_cons_zero, List.set_cons_succ]
   refine' wpAnyH_take (i := 4) (oi := ⟨_, _, _, _, _, _⟩) rfl (by kernel_rfl) (by kernel_rfl) (by kernel_rfl) (fun _ _ _ h => h) (Or.inl ⟨by rfl, ?a48⟩) (by assumption) ?b48
   case a48 => (intro w hSw; (try dsimp only at hSw); go_simp; try with_reducible rfl)
   try simp only [Act.put, List.setIfInBounds_toArray, List.set_cons_zero, List.set_cons_succ]
   refine' wpAnyH_take (i := 5) (oi := ⟨_, _, _, _, _, _⟩) rfl (by kernel_rfl) (by kernel_rfl) (by kernel_rfl) (fun _ _ _ h => h) (Or.inl ⟨by rfl, ?a49⟩) (by assumption) ?b49
   case a49 => (intro w hSw; (try dsimp only at hSw); go_simp; try with_reducible rfl)
   try simp only [Act.put, List.setIfInBounds_toArray, List.set_cons_zero, List.set_cons_succ]
   refine' wpAnyH_take (i := 6) (oi := ⟨_, _, _, _, _, _⟩) rfl (by kernel_rfl) (by kernel_rfl) (by kernel_rfl) (fun _ _ _ h => h) (Or.inl ⟨by rfl, ?a50⟩) (by assumption) ?b50
   case a50 => (intro w hSw; (try dsimp only at hSw); go_simp; try with_reducible rfl)
   try simp only [Act.put, List.setIfInBounds_toArray, List.set_cons_zero, List.set_cons_succ]
   refine' wpAnyH_take (i := 7) (oi := ⟨_, _, _, _, _, _⟩) rfl (by kernel_rfl) (by kernel_rfl) (by kernel_rfl) (fun _ _ _ h => h) (Or.inl ⟨by rfl, ?a51⟩) (by assumption) ?b51
   case a51 => (intro w hSw; (try dsimp only at hSw); go_simp; try with_reducible rfl)
   try simp only [Act.put, List.setIfInBounds_toArray, List.set_cons_zero, List.set_cons_succ]
   refine' wpAnyH_take (i := 8) (oi := ⟨_, _, _, _, _, _⟩) rfl (by kernel_rfl) (by kernel_rfl) (by kernel_rfl) (fun _ _ _ h => h) (Or.inl ⟨by rfl, ?a52⟩) (by assumption) ?b52
   case a52 => (intro w hSw; (try dsimp only at hSw); go_simp; try with_reducible rfl)
   try simp only [Act.put, List.setIfInBounds_toArray, List.set_cons_zero, List.set_cons_succ]
   refine' wpAnyH_take (i := 9) (oi := ⟨_, _, _, _, _, _⟩) rfl (by kernel_rfl) (by kernel_rfl) (by kernel_rfl) (fun _ _ _ h => h) (Or.inl ⟨by rfl, ?a53⟩) (by assumption) ?b53
   case a53 => (intro w hSw; (try dsimp only at hSw); go_simp; try with_reducible rfl)
   try simp only [Act.put, List.setIfInBounds_toArray, List.set_cons_zero, List.set_cons_succ]
   refine wpAnyH_done (by kernel_rfl) ?_ _
   change wpList _ _ _ _ _ _
   clear j0 j2 hHeld
   go_wp2_with fail
   refine (dput_calls B h n c1 n c3 256 0 0 _ v' A X a (codesOf a) _ (HW.out.below L0.bel) (Hra.out.below L0.bel) (Hrx.out.below L0.bel) (by omega) (by omega) hn2 hn2 hxa hca (by omega) (by omega) (by rw [List.length_append]; omega) (by have := L0.bel.size; omega)).mono ?_
   rintro e w3 ⟨v3, rfl, hw3, hs3⟩
   have HW3 := Lib.hid hw3
   have HS3 := Lib.hid (HS.out.trans (WStep.after L0.bel hs3))
   clear hw3 hs3 L0
   go_wp2
   go_end0
   refine ⟨v3, rfl, ?_, HS3.out⟩
   have h9 := HW3.out
   rw [Hall.out, show lowOf 0 0 = [] from rfl, List.append_nil, List.append_assoc] at h9
   exact h9
end Go.Proofs.YtdbkbeojedndbaaGreatDoor
