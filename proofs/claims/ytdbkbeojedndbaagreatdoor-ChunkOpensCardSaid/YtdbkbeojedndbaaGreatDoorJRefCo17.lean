/-
  Texts joined into one file: Put.
-/
import Derived.Test.YtdbkbeojedndbaaGreatDoorJRefCo14
import Derived.Test.YtdbkbeojedndbaaGreatDoorJRefCo5
import Derived.Test.YtdbkbeojedndbaaGreatDoorJRefCo6
import Derived.Test.YtdbkbeojedndbaaGreatDoorJRefCo16
import Derived.Test.YtdbkbeojedndbaaGreatDoorJRefCo2
import Derived.Deep.Cut
import Derived.Deep.CutRange
import Derived.Deep.CutBlock
import Derived.Deep.DeepCutAuto
namespace Go.Proofs.YtdbkbeojedndbaaGreatDoor
open Go.RowKit

theorem OrdAt.fr {w w1 : World} {S : List (Option Nat)} (h : ∀ j, j < 19 → w.cell? ⟨0, j, none⟩ = some (.int .i64 (ordL.getD j 0 : Nat))) (hf : Fr w w1 S) (hS : ∀ o ∈ S, o ≠ some 0) : ∀ j, j < 19 → w1.cell? ⟨0, j, none⟩ = some (.int .i64 (ordL.getD j 0 : Nat)) := fun j hj => hf.kept (h j hj) hS
theorem rd_takeF {w : World} {k : IntKind} {b o n : Nat} {l : List Int} (h : Rd w k (some ⟨b, o, none⟩) n l) (m : Nat) (hm : m ≤ n) : Rd w k (some ⟨b, o, none⟩) m (l.take m) :=
 ⟨by rw [List.length_take, h.1]; omega, fun hm0 => ⟨b, o, rfl, fun j hj => by
  obtain ⟨b', o', e, hc⟩ := h.2 (by omega)
  cases e
  have e2 : rd (l.take m) j = rd l j := by
   unfold rd
   rw [List.getD_eq_getElem?_getD, List.getD_eq_getElem?_getD, List.getElem?_take_of_lt hj]
  rw [e2]
  exact hc j (by omega)⟩⟩
structure PutSt (w W : World) (B h : Nat) (v0 : Value) (bl bi : Nat) (vl vi : Value) (ls : List Int) (its : List Item) (L' : List Int) (v' : Value) : Prop where
 wr : WrAt W B h L' v'
 st : WStep w W h v0 v'
 ls : W.ownsRow bl 3 1 vl 19 (ints .i64 ls)
 it : W.ownsRow bi 131 3 vi its.length (itemCells its)
 od : ∀ j, j < 19 → W.cell? ⟨0, j, none⟩ = some (.int .i64 (ordL.getD j 0 : Nat))
theorem PutSt.below {w W W1 : World} {B h : Nat} {v0 : Value} {bl bi : Nat} {vl vi : Value} {ls : List Int} {its : List Item} {L' : List Int} {v' : Value} (H : PutSt w W B h v0 bl bi vl vi ls its L' v') (hb : Below W.heap.size W W1) : PutSt w W1 B h v0 bl bi vl vi ls its L' v' :=
 ⟨H.wr.below hb, H.st.below hb, own_below H.ls hb, own_below H.it hb, fun j hj => kept_cell hb (H.od j hj)⟩
theorem PutSt.step {w W W1 : World} {B h : Nat} {v0 : Value} {bl bi : Nat} {vl vi : Value} {ls : List Int} {its : List Item} {L' L'' : List Int} {v' v'' : Value} (H : PutSt w W B h v0 bl bi vl vi ls its L' v') (hw : WrAt W1 B h L'' v'') (hs : WStep W W1 h v' v'') (hgB : 0 < B) (hBh : B ≤ h) : PutSt w W1 B h v0 bl bi vl vi ls its L'' v'' :=
 ⟨hw, H.st.trans hs, hs.row H.wr H.ls (by decide) (by decide), hs.row H.wr H.it (by decide) (by decide), OrdAt.fr H.od hs.fr (fun o ho e => by
  simp at ho
  rcases ho with rfl | rfl
  ·cases e; omega
  ·have := (H.wr.own.lt _ e).1; omega)⟩
theorem lows_one (y : Nat) (n : Nat) : lows [(y : Int)] n 1 = lowOf y n := by simp [lows, List.range_succ, rd]
theorem lows_two (x y : Nat) (n : Nat) : lows [(x : Int), (y : Int)] n 2 = lowOf x n ++ lowOf y n := by simp [lows, List.range_succ, rd]
theorem WrAt.fresh {W : World} {B h : Nat} {L' : List Int} {v' : Value} (H : WrAt W B h L' v') {b o : Nat} (e : (some ⟨W.heap.size, 0, none⟩ : Option Addr) = some ⟨b, o, none⟩) : b ≠ h ∧ v'.ownBlock ≠ some b := by
 cases e
 exact ⟨by have := H.lt; omega, fun e2 => by have := (H.own.lt _ e2).2; omega⟩
theorem codesOf_rng (ls : List Int) (j : Nat) (hl : ls.length = 19) (hj : j < 19) : 0 ≤ rd (codesOf ls) j ∧ rd (codesOf ls) j ≤ 3000000 := by
 rw [rd_codesOf ls j (by omega)]
 unfold codeAt
 split
 ·have := nextCode_range ls (rd ls j).toNat j (by omega)
  rw [hl] at this
  omega
 ·omega
set_option maxHeartbeats 8000000 in
set_option maxRecDepth 200000 in
theorem CPut_calls (B h : Nat) (L : List Int) (v : Value) (X Y : Option Addr) (nx cx ny cy : Nat) (xs ys : List Int) (w : World) (H : WrAt w B h L v) (hX : Rd w .i64 X nx xs) (hY : Rd w .i64 Y ny ys) (hx1 : 257 ≤ nx) (hx2 : nx ≤ 1000) (hy1 : 1 ≤ ny) (hy2 : ny ≤ 1000) (hcx : nx ≤ cx) (hcy : ny ≤ cy)
  (hx15 : ∀ j, j < nx → 0 ≤ rd xs j ∧ rd xs j ≤ 15) (hy15 : ∀ j, j < ny → 0 ≤ rd ys j ∧ rd ys j ≤ 15) (hO : ∀ j, j < 19 → w.cell? ⟨0, j, none⟩ = some (.int .i64 (ordL.getD j 0 : Nat))) (hgB : 0 < B) (hBh : B ≤ h) (_hB : B ≤ w.heap.size) (hL : L.length ≤ 50000000) :
  Calls Tryz.prog 57 #[.pointer (some ⟨h, 0, none⟩), .slice X nx cx, .slice Y ny cy] w fun e w' => ∃ v', e = .returned (.tuple #[]) ∧ WrAt w' B h (L ++ putS xs ys) v' ∧ WStep w w' h v v' := by
 have HH := Lib.hid H
 have HX := Lib.hid hX
 have HY := Lib.hid hY
 have hxl := Lib.hid hX.1
 have hyl := Lib.hid hY.1
 have Hx15 := Lib.hid hx15
 have Hy15 := Lib.hid hy15
 have HO := Lib.hid hO
 obtain ⟨bx, ox, rfl, _⟩ := hX.2 (by omega)
 obtain ⟨bY, oY, rfl, _⟩ := hY.2 (by omega)
 have hhl := H.lt
 clear H hX hY hx15 hy15 hO
 go_enter Tryz.func57, Tryz.ntmps57
 go_wp2_with fail
 refine (trim_calls (some ⟨bx, ox, none⟩) nx cx 257 xs _ HX.out (by omega) hx1 (by omega) hcx).mono ?_
 rintro e w1 ⟨rfl, rfl⟩
 go_wp2_with fail
 refine (trim_calls (some ⟨bY, oY, none⟩) ny cy 1 ys _ HY.out (by omega) hy1 (by omega) hcy).mono ?_
 rintro e w1 ⟨rfl, rfl⟩
 have ta := tn_rng xs 257 (nx - 257)
 have tb := tn_rng ys 1 (ny - 1)
 obtain ⟨a, ha⟩ : ∃ a, a = tn xs 257 (nx - 257) := ⟨_, rfl⟩
 obtain ⟨b, hb⟩ : ∃ b, b = tn ys 1 (ny - 1) := ⟨_, rfl⟩
 rw [← ha] at ta ⊢
 rw [← hb] at tb ⊢
 have ha257 : 257 ≤ a := ta.1
 have han : a ≤ nx := by omega
 have hb1 : 1 ≤ b := tb.1
 have hbn : b ≤ ny := by omega
 have Ha := Lib.hid ha
 have Hb := Lib.hid hb
 have HXa := Lib.hid (rd_takeF HX.out a han)
 have HYb := Lib.hid (rd_takeF HY.out b hbn)
 clear ta tb ha hb
 go_wp2_with (first
  | (at_builtin; refine wpList_appRd rfl _ _ rfl elIntN (ys := []) (own_empty w _) rfl rfl (HXa.out.alloc _) (fun e => by cases e) (by omega) (by simp) ?_; intro v1 w1 hown1 hg1; rw [Nat.zero_add, List.nil_append] at hown1; have hb1' : Below w.heap.size w w1 := ((Below.refl _ _).alloc (Nat.le_refl _) _).grown hg1 (by simp) (fun k hk => by simp [Value.ownBlock] at hk; omega))
  | (at_builtin; refine wpList_appRd rfl _ _ rfl elIntN hown1 rfl rfl (HYb.out.below hb1') (fun e => by cases e) (by omega) hb1'.size ?_; intro v2 w2 hown2 hg2; have hb2' : Below w.heap.size w w2 := hb1'.grown hg2 hb1'.size (fun k hk => (hown1.lt k hk).1); obtain ⟨A2, c2, rfl⟩ := own_slice hown2))
 obtain ⟨_, _, e9, _, hr2⟩ := own_rd hown2
 cases e9
 obtain ⟨its, hits⟩ : ∃ its, its = items (xs.take a ++ ys.take b) := ⟨_, rfl⟩
 refine (Press_calls A2 (a + b) c2 _ _ hr2 (by omega)).mono ?_
 rintro e w3 ⟨v3, rfl, hown3, hb3⟩
 rw [← hits] at hown3
 have Hb3 := Lib.hid (below_seq hb2' (Nat.le_refl _) hb3)
 have hits2 : its = itsOf xs ys := by
  rw [hits]
  unfold itsOf
  rw [hxl.out, hyl.out, ← Ha.out, ← Hb.out]
 have hlenI : its.length ≤ 2000 := by
  have h1 := items_le (xs.take a ++ ys.take b)
  rw [← hits, List.length_append, List.length_take, List.length_take] at h1
  omega
 have hok : ∀ it ∈ its, ItemOk it := by
  rw [hits]
  refine items_ok (fun j hj => ?_)
  rw [List.length_append, List.length_take, List.length_take, hxl.out, hyl.out] at hj
  rcases Nat.lt_or_ge j a with g | g
  ·rw [rd_appL (by rw [List.length_take, hxl.out]; omega)]
   have e2 : rd (xs.take a) j = rd xs j := by
    unfold rd
    rw [List.getD_eq_getElem?_getD, List.getD_eq_getElem?_getD, List.getElem?_take_of_lt g]
   rw [e2]
   exact Hx15.out j (by omega)
  ·have e1 : j = (xs.take a).length + (j - a) := by rw [List.length_take, hxl.out]; omega
   rw [e1, rd_appR]
   have e2 : rd (ys.take b) (j - a) = rd ys (j - a) := by
    unfold rd
    rw [List.getD_eq_getElem?_getD, List.getD_eq_getElem?_getD, List.getElem?_take_of_lt (by omega)]
   rw [e2]
   exact Hy15.out (j - a) (by omega)
 have Hits := Lib.hid hits2
 have HI := Lib.hid hok
 have Hown3 := Lib.hid hown3
 have hs18 : Hid (∀ k, k < its.length → itS its k ≤ 18) := fun k hk => (it_at hok hk).2.1
 have hsz3 := Hb3.out.size
 have HH3 := Lib.hid (HH.out.below Hb3.out)
 have HO3 := Lib.hid (fun j (hj : j < 19) => kept_cell Hb3.out (HO.out j hj))
 clear hits hits2 hok hown3 hb3 hr2 hown2 hown1 hb1' hb2' hg1 hg2 HX HY HXa HYb Hx15 Hy15 HO
 obtain ⟨A3, c3, rfl⟩ := own_slice Hown3.out
 go_wp2_with (at_make; refine wpList_mk1 (base := w3.heap.size) (n := 19) _ rfl _ _ rfl elIntN rfl rfl rfl rfl (by omega) (Nat.le_refl _) ?_; intro w4 hown4 hb4 hsz4)
 have Hown4 := Lib.hid hown4
 have Hb4 := Lib.hid hb4
 clear hown4 hb4
 go_loopw [32] (fun i wr => ∃ k : Nat, k ≤ its.length ∧ i = .int .i64 k ∧ Hid (wr.ownsRow w3.heap.size 3 1 (.slice (some ⟨w3.heap.size, 0, none⟩) 19 19) 19 (ints .i64 (wtsIt its k))) ∧ Hid (Below w3.heap.size w3 wr)) (fun i _ => its.length - (intOf i).toNat)
 case atStart => exact ⟨0, by omega, rfl, Hown4.out, Hb4.out⟩
 case round =>
  obtain ⟨k, hk, rfl, Hw, Hbw⟩ := hrel
  by_cases hlt : k < its.length
  ·obtain ⟨gi, ci, e8, _, _, _, hic, _⟩ := own_form (own_below Hown3.out Hbw.out) (by omega)
   cases e8
   obtain ⟨k1, k2, k3⟩ := it_cells HI.out hlt
   have z1 := hic _ _ k1
   have z2 := hic _ _ k2
   have z3 := hic _ _ k3
   have hs := hs18.out k hlt
   have hwl := wtsIt_length its k
   have hle := wtsIt_le its hs18.out k (itS its k) (by omega)
   have hnx : wtsIt its (k + 1) = (wtsIt its k).set (itS its k) (rd (wtsIt its k) (itS its k) + 1) := rfl
   have zw := Hw.out.cellAt (itS its k) (by omega)
   rw [ints_get (by rw [hwl]; omega)] at zw
   have fw := Hw.out.frozenAt (itS its k)
   obtain ⟨s, hse⟩ : ∃ s, s = itS its k := ⟨_, rfl⟩
   obtain ⟨y, hy⟩ : ∃ y, y = rd (wtsIt its k) (itS its k) := ⟨_, rfl⟩
   rw [← hy] at zw hnx hle
   rw [← hse] at zw fw hnx z1 hs
   have Hnx := Lib.hid hnx
   obtain ⟨bI, hbI⟩ : ∃ q, q = itB its k := ⟨_, rfl⟩
   obtain ⟨eI, heI⟩ : ∃ q, q = itE its k := ⟨_, rfl⟩
   rw [← hbI] at z2
   rw [← heI] at z3
   have hszr := Hbw.out.size
   have hwlt := (Hw.out.lt _ rfl).2
   clear hic k1 k2 k3 hwl hnx hse hy hbI heI
   go_wp2
   go_roundw
   case rel =>
    refine ⟨k + 1, by omega, by go_num, ?_, (Hbw.out.setCell (p := ⟨w3.heap.size, s, none⟩) (Nat.le_refl _) _).alloc (by simpa using hszr) _⟩
    have h9 := (own_store Hw.out s (.int .i64 (y + 1))).alloc (.cells #[.int .i64 s, .int .i64 bI, .int .u64 eI] 131)
    rw [← ints_set, ← Hnx.out] at h9
    exact h9
   case measure => simp [intOf]; omega
  ·obtain rfl : k = its.length := by omega
   obtain ⟨_, _, e9, _, hrw⟩ := own_rd Hw.out
   cases e9
   have Hrw := Lib.hid hrw
   have hnn := wtsIt_nn its hs18.out its.length (Nat.le_refl _)
   have hsum := wtsIt_sum its hs18.out its.length (Nat.le_refl _)
   have hfew := lensIt_few its
   have hlr := Lib.hid (lensIt_rng its hs18.out)
   have hlo := Lib.hid (lensIt_ok its hs18.out)
   have hll := Lib.hid (lensIt_length its)
   have hLs : lensOf 7 (wtsIt its its.length) = lensIt its := rfl
   have Hbr := Lib.hid (below_seq Hb3.out (Nat.le_refl _) Hbw.out)
   have Hown5 := Lib.hid (own_below Hown3.out Hbw.out)
   clear hrw Hw Hown4 Hb4
   go_wp2_with fail
   refine (Lengths_calls 7 _ 19 19 (wtsIt its its.length) _ (by omega) Hrw.out (fun e => by cases e) (by omega) (fun x hx => (hnn x hx).1) (by omega) hfew).mono ?_
   rintro e w5 ⟨v5, rfl, hown5, hb5⟩
   rw [hLs] at hown5
   obtain ⟨ls, hls⟩ : ∃ ls, ls = lensIt its := ⟨_, rfl⟩
   rw [← hls] at hown5 hlr hlo hll
   have Hls := Lib.hid hls
   have HH5 := Lib.hid (HH3.out.below (Hbw.out.trans (hb5.mono Hbw.out.size)))
   have HO5 := Lib.hid (fun j (hj : j < 19) => kept_cell (Hbw.out.trans (hb5.mono Hbw.out.size)) (HO3.out j hj))
   have HI5 := Lib.hid (own_below Hown5.out hb5)
   have Hb5 := Lib.hid (below_seq Hbr.out (Nat.le_refl _) hb5)
   obtain ⟨gl, cl, rfl, hgl1, hgl2, hcl, hlc, _⟩ := own_form hown5 (by omega)
   have Hown6 := Lib.hid hown5
   have Hlc : Hid (∀ j, j < 19 → w5.cell? ⟨gl, j, none⟩ = some (.int .i64 (rd ls j))) := fun j hj => hlc j _ (ints_get (by rw [hll.out]; exact hj))
   have hsz5 := Hb5.out.size
   clear hown5 hb5 hnn hsum hfew hLs hls hlc Hown5 Hbr Hrw Hbw
   go_upto_block 2 with fail
   go_cut [13] from 46 to 59 (fun m wx => m = .int .i64 (tn (ordV ls) 4 15 : Nat) ∧ wx = w5)
   case first =>
    go_wp2_with fail
    go_loop [13] (fun i => ∃ d : Nat, d ≤ 15 ∧ i = .int .i64 ((4 + d : Nat) : Int) ∧ Hid (tn (ordV ls) 4 15 = tn (ordV ls) 4 d)) (fun i => (intOf i).toNat)
    case atStart => exact ⟨15, by omega, rfl, rfl⟩
    case round =>
     obtain ⟨d, hd, rfl, HT⟩ := hrel
     rcases Nat.eq_zero_or_pos d with h0 | h0
     ·subst h0
      have HT2 := HT.out
      rw [show tn (ordV ls) 4 0 = 4 from rfl] at HT2
      have HTe := Lib.hid HT2
      rw [Nat.add_zero]
      clear HT HT2
      go_wp2
      go_meet
      exact ⟨by rw [HTe.out]; rfl, rfl⟩
     ·obtain ⟨e, rfl⟩ : ∃ e, d = e + 1 := ⟨d - 1, by omega⟩
      have zo := HO5.out (4 + e) (by omega)
      have hol := ordL_lt (4 + e)
      have ho := rd_ordV (ls := ls) (j := 4 + e) (by omega)
      have HT2 := HT.out
      have hu : tn (ordV ls) 4 (e + 1) = if rd (ordV ls) (4 + e) = 0 then tn (ordV ls) 4 e else 4 + e + 1 := rfl
      rw [hu, ho] at HT2
      have z := Hlc.out (ordL.getD (4 + e) 0) hol
      obtain ⟨y, hy⟩ : ∃ y, y = rd ls (ordL.getD (4 + e) 0) := ⟨_, rfl⟩
      obtain ⟨oi, hoi⟩ : ∃ oi, oi = ordL.getD (4 + e) 0 := ⟨_, rfl⟩
      rw [← hy] at z HT2
      rw [← hoi] at z zo hol
      obtain ⟨q, hq⟩ : ∃ q, q = 4 + e := ⟨_, rfl⟩
      rw [← hq] at zo HT2
      rw [show 4 + (e + 1) = q + 1 from by omega]
      have hq19 : q < 19 := by omega
      have hq4 : 4 ≤ q := by omega
      have s1 : (((q + 1 : Nat) : Int) - 1).toNat = q := by omega
      have s2 : (((q + 1 : Nat) : Int) - 1) = (q : Int) := by omega
      by_cases hy0 : y = 0
      ·rw [if_pos hy0] at HT2
       have HT3 := Lib.hid HT2
       have Hq := Lib.hid hq
       subst hy0
       clear HT2 hy hu hq hoi ho HT
       go_wp2
       go_round
       case rel => exact ⟨e, by omega, by rw [← Hq.out], HT3.out⟩
       case measure => simp [intOf]
      ·rw [if_neg hy0] at HT2
       have HT3 := Lib.hid HT2
       have d0 : (y == 0) = false := by simpa using hy0
       clear HT2 hy hu hq hoi ho HT
       go_wp2
       go_meet
       exact ⟨by rw [HT3.out]; rfl, rfl⟩
   case rest =>
    obtain ⟨rfl, rfl⟩ := hcut
    have tm := tn_rng (ordV ls) 4 15
    obtain ⟨mv, hmv⟩ : ∃ mv, mv = tn (ordV ls) 4 15 := ⟨_, rfl⟩
    rw [← hmv] at tm ⊢
    have hm4 : 4 ≤ mv := tm.1
    have hm19 : mv ≤ 19 := tm.2
    have Hmv := Lib.hid hmv
    obtain ⟨a', ha'⟩ : ∃ a', a' = a - 257 := ⟨_, rfl⟩
    obtain ⟨b', hb'⟩ : ∃ b', b' = b - 1 := ⟨_, rfl⟩
    obtain ⟨m', hm'⟩ : ∃ m', m' = mv - 4 := ⟨_, rfl⟩
    have sA : (a : Int) - 257 = (a' : Int) := by omega
    have sA2 : (a : Int) - 256 - 1 = (a' : Int) := by omega
    have sB : (b : Int) - 1 = (b' : Int) := by omega
    have sM : (mv : Int) - 4 = (m' : Int) := by omega
    have ha'2 : a' ≤ 1000 := by omega
    have hb'2 : b' ≤ 1000 := by omega
    have hm'2 : m' ≤ 15 := by omega
    have Ha' := Lib.hid ha'
    have Hb' := Lib.hid hb'
    have Hm' := Lib.hid hm'
    clear hmv tm ha' hb' hm'
    go_wp2_with fail
    refine (Put_calls B h 5 L v (some ⟨wc.heap.size, 0, none⟩) 2 2 [(a' : Int), (b' : Int)] _ (HH5.out.below ((Below.refl _ _).alloc (Nat.le_refl _) _)) (Blk.rd (heap_alloc_new wc _) rfl) (fun j hj => ?_) (by omega) (fun b o e => HH5.out.fresh e) (by omega) (by simp; omega)).mono ?_
    ·have : j = 0 ∨ j = 1 := by omega
     rcases this with rfl | rfl
     ·show 0 ≤ (a' : Int) ∧ (a' : Int) < _; omega
     ·show 0 ≤ (b' : Int) ∧ (b' : Int) < _; omega
    rintro e w6 ⟨v6, rfl, hw6, hs6⟩
    rw [lows_two] at hw6
    have P5 : PutSt w wc B h v _ _ _ _ ls its L v := ⟨HH5.out, (WStep.refl w h v).below Hb5.out, Hown6.out, HI5.out, HO5.out⟩
    have P6 := Lib.hid ((P5.below ((Below.refl _ _).alloc (Nat.le_refl _) _)).step hw6 hs6 hgB hBh)
    have hsz6 := hs6.fr.size
    have hal := HH5.out.lt
    clear hw6 hs6 P5 HH5 Hown6 HI5 HO5 Hlc
    simp at hsz6
    go_wp2_with fail
    refine (Put_calls B h 4 _ v6 (some ⟨w6.heap.size, 0, none⟩) 1 1 [(m' : Int)] _ (P6.out.wr.below ((Below.refl _ _).alloc (Nat.le_refl _) _)) (Blk.rd (heap_alloc_new w6 _) rfl) (fun j hj => ?_) (by omega) (fun b o e => P6.out.wr.fresh e) (by rw [List.length_append, List.length_append, lowOf_length, lowOf_length]; omega) (by simp; omega)).mono ?_
    ·obtain rfl : j = 0 := by omega
     show 0 ≤ (m' : Int) ∧ (m' : Int) < _; omega
    rintro e w7 ⟨v7, rfl, hw7, hs7⟩
    rw [lows_one] at hw7
    have P7 := Lib.hid ((P6.out.below ((Below.refl _ _).alloc (Nat.le_refl _) _)).step hw7 hs7 hgB hBh)
    have hsz7 := hs7.fr.size
    clear hw7 hs7 P6
    simp at hsz7
    obtain ⟨L1, hL1⟩ : ∃ L1, L1 = L ++ (lowOf a' 5 ++ lowOf b' 5) ++ lowOf m' 4 := ⟨_, rfl⟩
    rw [← hL1] at P7
    have hL1l : L1.length = L.length + 14 := by rw [hL1, List.length_append, List.length_append, List.length_append, lowOf_length, lowOf_length, lowOf_length]
    have HL1 := Lib.hid hL1
    have hsl := ord_slice w7 .i64 mv mv rfl hm19
    clear hL1
    go_wp2
    go_loopw [81] (fun i wr => ∃ (k : Nat) (v' : Value), k ≤ mv ∧ i = .int .i64 k ∧ w7.heap.size ≤ wr.heap.size ∧ Hid (PutSt w wr B h v _ _ _ _ ls its (L1 ++ lows (ordV ls) 3 k) v')) (fun i _ => mv - (intOf i).toNat)
    case atStart => exact ⟨0, v7, by omega, rfl, Nat.le_refl _, by rw [show lows (ordV ls) 3 0 = [] from rfl, List.append_nil]; exact P7.out⟩
    case round =>
     obtain ⟨k, v', hk, rfl, hszr, P⟩ := hrel
     by_cases hlt3 : k < mv
     ·have zo := P.out.od k (by omega)
      have hol := ordL_lt k
      have zl := P.out.ls.cellAt (ordL.getD k 0) (by omega)
      rw [ints_get (by rw [hll.out]; exact hol)] at zl
      have hr := hlr.out (ordL.getD k 0)
      have hov := rd_ordV (ls := ls) (j := k) (by omega)
      obtain ⟨y, hy⟩ : ∃ y : Nat, rd ls (ordL.getD k 0) = y := ⟨(rd ls (ordL.getD k 0)).toNat, by omega⟩
      obtain ⟨oi, hoi⟩ : ∃ oi, oi = ordL.getD k 0 := ⟨_, rfl⟩
      have hsucc := lows_succ (ordV ls) 3 k
      rw [hov, hy, Int.toNat_natCast] at hsucc
      rw [hy] at zl hr
      rw [← hoi] at zo zl hol
      have Hsucc := Lib.hid hsucc
      have hlen3 := lows_length (ordV ls) 3 k
      clear hov hy hoi hsucc
      go_wp2_with fail
      refine (Put_calls B h 3 _ v' (some ⟨wr.heap.size, 0, none⟩) 1 1 [(y : Int)] _ (P.out.wr.below ((Below.refl _ _).alloc (Nat.le_refl _) _)) (Blk.rd (heap_alloc_new wr _) rfl) (fun j hj => ?_) (by omega) (fun b o e => P.out.wr.fresh e) (by rw [List.length_append, hlen3]; omega) (by simp; omega)).mono ?_
      ·obtain rfl : j = 0 := by omega
       show 0 ≤ (y : Int) ∧ (y : Int) < _; omega
      rintro e w8 ⟨v8, rfl, hw8, hs8⟩
      rw [lows_one] at hw8
      have P8 := Lib.hid ((P.out.below ((Below.refl _ _).alloc (Nat.le_refl _) _)).step hw8 hs8 hgB hBh)
      have hsz8 := hs8.fr.size
      clear hw8 hs8
      simp at hsz8
      go_wp2
      go_roundw
      case rel => exact ⟨k + 1, v8, by omega, by go_num, by omega, by rw [Hsucc.out, ← List.append_assoc]; exact P8.out⟩
      case measure => simp [intOf]; omega
     ·obtain rfl : k = mv := by omega
      obtain ⟨_, _, e9, _, hrl⟩ := own_rd P.out.ls
      cases e9
      have Hrl := Lib.hid hrl
      clear hrl
      go_wp2_with fail
      refine (Codes_calls _ 19 cl ls _ Hrl.out (by omega) hlo.out).mono ?_
      rintro e w8 ⟨v8, rfl, hown8, hb8⟩
      have P8 := Lib.hid (P.out.below hb8)
      have hsz8 := hb8.size
      obtain ⟨gc, cc, rfl, hgc1, hgc2, hccc, _, _⟩ := own_form hown8 (by omega)
      obtain ⟨bcd, hbcd⟩ : ∃ q, q = wr.heap.size := ⟨_, rfl⟩
      rw [← hbcd] at hown8
      have Hown8 := Lib.hid hown8
      have hlen3 := lows_length (ordV ls) 3 k
      obtain ⟨L2, hL2⟩ : ∃ L2, L2 = L1 ++ lows (ordV ls) 3 k := ⟨_, rfl⟩
      rw [← hL2] at P8
      have hL2l : L2.length ≤ L.length + 100 := by rw [hL2, List.length_append, hlen3]; omega
      have HL2 := Lib.hid hL2
      have hbl := Lib.hid (bitsIt_length ls its hlr.out (fun k hk => (it_at HI.out hk).2.2.1))
      clear hown8 hb8 hL2 hlen3 Hrl P P7
      go_wp2
      go_loopw [98] (fun i wr => ∃ (k : Nat) (v' : Value), k ≤ its.length ∧ i = .int .i64 k ∧ w8.heap.size ≤ wr.heap.size ∧ Hid (PutSt w wr B h v _ _ _ _ ls its (L2 ++ bitsIt ls its k) v') ∧ Hid (wr.ownsRow bcd 36 1 (.slice (some ⟨gc, 0, none⟩) 19 cc) 19 (ints .u64 (codesOf ls)))) (fun i _ => its.length - (intOf i).toNat)
      case atStart => exact ⟨0, _, by omega, rfl, Nat.le_refl _, by rw [show bitsIt ls its 0 = [] from rfl, List.append_nil]; exact P8.out, Hown8.out⟩
      case round =>
       obtain ⟨k, v', hk, rfl, hszr, P, HC⟩ := hrel
       by_cases hlt4 : k < its.length
       ·obtain ⟨gi, ci, e8, _, _, _, hic, _⟩ := own_form P.out.it (by omega)
        cases e8
        obtain ⟨k1, k2, k3⟩ := it_cells HI.out hlt4
        have z1' := hic _ _ k1
        have z2' := hic _ _ k2
        have z3' := hic _ _ k3
        obtain ⟨_, hs, hbI7, heI⟩ := it_at HI.out hlt4
        have hr := hlr.out (itS its k)
        have hcr := codesOf_rng ls (itS its k) hll.out (by omega)
        have zl := P.out.ls.cellAt (itS its k) (by omega)
        rw [ints_get (by rw [hll.out]; omega)] at zl
        have zc := HC.out.cellAt (itS its k) (by omega)
        rw [ints_get (by rw [codesOf_length, hll.out]; omega)] at zc
        have hsucc := bitsIt_succ ls its k
        have hbk := hbl.out k hk
        obtain ⟨y, hy⟩ : ∃ y : Nat, rd ls (itS its k) = y := ⟨(rd ls (itS its k)).toNat, by omega⟩
        obtain ⟨cd, hcd⟩ : ∃ cd : Nat, rd (codesOf ls) (itS its k) = cd := ⟨(rd (codesOf ls) (itS its k)).toNat, by omega⟩
        rw [hy] at zl hr
        rw [hcd] at zc hcr
        rw [hy, hcd, Int.toNat_natCast, Int.toNat_natCast] at hsucc
        obtain ⟨s, hse⟩ : ∃ s, s = itS its k := ⟨_, rfl⟩
        obtain ⟨bI, hbI⟩ : ∃ q, q = itB its k := ⟨_, rfl⟩
        obtain ⟨eI, heI'⟩ : ∃ q, q = itE its k := ⟨_, rfl⟩
        rw [← hse] at zl zc z1' hs
        rw [← hbI] at z2' hbI7 hsucc
        rw [← heI'] at z3' heI hsucc
        have Hsucc := Lib.hid hsucc
        have hba : Below wr.heap.size wr (wr.alloc (.cells #[.int .i64 s, .int .i64 bI, .int .u64 eI] 131)) := (Below.refl _ _).alloc (Nat.le_refl _) _
        have PA := Lib.hid (P.out.below hba)
        have HCA := Lib.hid (own_below HC.out hba)
        have zl2 := kept_cell hba zl
        have zc2 := kept_cell hba zc
        have hnb := heap_alloc_new wr (.cells #[.int .i64 s, .int .i64 bI, .int .u64 eI] 131)
        have n0 := cell_of_row _ wr.heap.size 0 _ _ (0, 0) hnb
        have n1 := cell_of_row _ wr.heap.size 1 _ _ (0, 0) hnb
        have n2 := cell_of_row _ wr.heap.size 2 _ _ (0, 0) hnb
        simp only [List.getElem?_toArray] at n0 n1 n2
        have hszA := hba.size
        have N1 := Lib.hid n1
        have N2 := Lib.hid n2
        have hs19 : (s : Int) < 19 := by omega
        clear hic k1 k2 k3 hy hcd hse hbI heI' hsucc n1 n2
        go_upto_region 23 with fail
        refine wp_region_last (n := 11) (on := ⟨_, _, _, _, _, _⟩) (S := fun W => W.cell? ⟨wr.heap.size, 0, none⟩ = some (.int .i64 s) ∧ W.cell? ⟨gl, s, none⟩ = some (.int .i64 y) ∧ W.cell? ⟨gc, s, none⟩ = some (.int .u64 cd)) (by kernel_rfl) rfl (by kernel_rfl) (⟨n0, zl2, zc2⟩) (fun hHeld => ?_)
        refine' wpAnyH_take (i := 0) (oi := ⟨_, _, _, _, _, _⟩) rfl (by kernel_rfl) (by kernel_rfl) (by kernel_rfl) (fun _ _ _ h => h) (Or.inl ⟨by rfl, ?a0⟩) (by assumption) ?b0
        case a0 => (intro w hSw; (try dsimp only at hSw); go_simp; try with_reducible rfl)
        try simp only [Act.put, List.setIfInBounds_toArray, List.set_cons_zero, List.set_cons_succ]
        refine' wpAnyH_take (i := 1) (oi := ⟨_, _, _, _, _, _⟩) rfl (by kernel_rfl) (by kernel_rfl) (by kernel_rfl) (fun _ _ _ h => h) (Or.inl ⟨by rfl, ?a1⟩) (by assumption) ?b1
        case a1 => (intro w hSw; (try dsimp only at hSw); go_simp; try with_reducible rfl)
        try simp only [Act.put, List.setIfInBounds_toArray, List.set_cons_zero, List.set_cons_succ]
        refine' wpAnyH_take (i := 2) (oi := ⟨_, _, _, _, _, _⟩) rfl (by kernel_rfl) (by kernel_rfl) (by kernel_rfl) (fun _ _ _ h => h) (Or.inl ⟨by rfl, ?a2⟩) (by assumption) ?b2
        case a2 => (intro w hSw; (try dsimp only at hSw); go_simp; try with_reducible rfl)
        try simp only [Act.put, List.setIfInBounds_toArray, List.set_cons_zero, List.set_cons_succ]
        refine' wpAnyH_take (i := 3) (oi := ⟨_, _, _, _, _, _⟩) rfl (by kernel_rfl) (by kernel_rfl) (by kernel_rfl) (fun _ _ _ h => h) (Or.inl ⟨by rfl, ?a3⟩) (by assumption) ?b3
        case a3 => (intro w hSw; (try dsimp only at hSw); go_simp; try with_reducible rfl)
        try simp only [Act.put, List.setIfInBounds_toArray, List.set_cons_zero, List.set_cons_succ]
        refine' wpAnyH_take (i := 4) (oi := ⟨_, _, _, _, _, _⟩) rfl (by kernel_rfl) (by kernel_rfl) (by kernel_rfl) (fun _ _ _ h => h) (Or.inl ⟨by rfl, ?a4⟩) (by assumption) ?b4
        case a4 => (intro w hSw; (try dsimp only at hSw); go_simp; try with_reducible rfl)
        try simp only [Act.put, List.setIfInBounds_toArray, List.set_cons_zero, List.set_cons_succ]
        refine' wpAnyH_take (i := 5) (oi := ⟨_, _, _, _, _, _⟩) rfl (by kernel_rfl) (by kernel_rfl) (by kernel_rfl) (fun _ _ _ h => h) (Or.inl ⟨by rfl, ?a5⟩) (by assumption) ?b5
        case a5 => (intro w hSw; (try dsimp only at hSw); go_simp; try with_reducible rfl)
        try simp only [Act.put, List.setIfInBounds_toArray, List.set_cons_zero, List.set_cons_succ]
        refine' wpAnyH_take (i := 6) (oi := ⟨_, _, _, _, _, _⟩) rfl (by kernel_rfl) (by kernel_rfl) (by kernel_rfl) (fun _ _ _ h => h) (Or.inl ⟨by rfl, ?a6⟩) (by assumption) ?b6
        case a6 => (intro w hSw; (try dsimp only at hSw); go_simp; try with_reducible rfl)
        try simp only [Act.put, List.setIfInBounds_toArray, List.set_cons_zero, List.set_cons_succ]
        refine' wpAnyH_take (i := 7) (oi := ⟨_, _, _, _, _, _⟩) rfl (by kernel_rfl) (by kernel_rfl) (by kernel_rfl) (fun _ _ _ h => h) (Or.inl ⟨by rfl, ?a7⟩) (by assumption) ?b7
        case a7 => (intro w hSw; (try dsimp only at hSw); go_simp; try with_reducible rfl)
        try simp only [Act.put, List.setIfInBounds_toArray, List.set_cons_zero, List.set_cons_succ]
        refine' wpAnyH_take (i := 8) (oi := ⟨_, _, _, _, _, _⟩) rfl (by kernel_rfl) (by kernel_rfl) (by kernel_rfl) (fun _ _ _ h => h) (Or.inl ⟨by rfl, ?a8⟩) (by assumption) ?b8
        case a8 => (intro w hSw; (try dsimp only at hSw); go_simp; try with_reducible rfl)
        try simp only [Act.put, List.setIfInBounds_toArray, List.set_cons_zero, List.set_cons_succ]
        refine' wpAnyH_take (i := 9) (oi := ⟨_, _, _, _, _, _⟩) rfl (by kernel_rfl) (by kernel_rfl) (by kernel_rfl) (fun _ _ _ h => h) (Or.inl ⟨by rfl, ?a9⟩) (by assumption) ?b9
        case a9 => (intro w hSw; (try dsimp only at hSw); go_simp; try with_reducible rfl)
        try simp only [Act.put, List.setIfInBounds_toArray, List.set_cons_zero, List.set_cons_succ]
        refine' wpAnyH_take (i := 10) (oi := ⟨_, _, _, _, _, _⟩) rfl (by kernel_rfl) (by kernel_rfl) (by kernel_rfl) (fun _ _ _ h => h) (Or.inl ⟨by rfl, ?a10⟩) (by assumption) ?b10
        case a10 => (intro w hSw; (try dsimp only at hSw); go_simp; try with_reducible rfl)
        try simp only [Act.put, List.setIfInBounds_toArray, List.set_cons_zero, List.set_cons_succ]
        refine wpAnyH_done (by kernel_rfl) ?_ _
        change wpList _ _ _ _ _ _
        go_wp2_with fail
        have PB := Lib.hid (PA.out.below (Below.refl _ _).drew)
        refine (Code_calls B h y cd _ v' _ PB.out.wr (by omega) (by omega) (by rw [List.length_append]; omega) (by simp; omega)).mono ?_
        rintro e w9 ⟨v9, rfl, hw9, hs9⟩
        have P9 := Lib.hid (PB.out.step hw9 hs9 hgB hBh)
        have HC9 := Lib.hid (hs9.row PB.out.wr (own_below HCA.out (Below.refl _ _).drew) (by decide) (by decide))
        have hfresh := P.out.wr.fresh (rfl : (some ⟨wr.heap.size, 0, none⟩ : Option Addr) = some ⟨wr.heap.size, 0, none⟩)
        have hS : ∀ o ∈ [some h, v'.ownBlock], o ≠ some wr.heap.size := fun o ho e => by
         simp at ho
         rcases ho with rfl | rfl
         ·cases e; exact hfresh.1 rfl
         ·exact hfresh.2 e
        have q1 := hs9.fr.kept (kept_cell (Below.refl _ _).drew N1.out) hS
        have q2 := hs9.fr.kept (kept_cell (Below.refl _ _).drew N2.out) hS
        have hsz9 := hs9.fr.size
        simp at hsz9
        clear hw9 hs9 hS hfresh n0 zl2 zc2 hHeld
        go_wp2_with fail
        refine (Put_calls B h bI _ v9 (some ⟨w9.heap.size, 0, none⟩) 1 1 [(eI : Int)] _ (P9.out.wr.below ((Below.refl _ _).alloc (Nat.le_refl _) _)) (Blk.rd (heap_alloc_new w9 _) rfl) (fun j hj => ?_) (by omega) (fun b o e => P9.out.wr.fresh e) (by rw [List.length_append, List.length_append, hiOf_length]; omega) (by simp; omega)).mono ?_
        ·obtain rfl : j = 0 := by omega
         show 0 ≤ (eI : Int) ∧ (eI : Int) < _; omega
        rintro e w10 ⟨v10, rfl, hw10, hs10⟩
        rw [lows_one] at hw10
        have hb10 : Below w9.heap.size w9 (w9.alloc (.cells #[.int .u64 eI] 36)) := (Below.refl _ _).alloc (Nat.le_refl _) _
        have P10 := Lib.hid ((P9.out.below hb10).step hw10 hs10 hgB hBh)
        have HC10 := Lib.hid (hs10.row (P9.out.wr.below hb10) (own_below HC9.out hb10) (by decide) (by decide))
        have hsz10 := hs10.fr.size
        simp at hsz10
        clear hw10 hs10 hb10
        go_wp2
        go_roundw
        case rel => exact ⟨k + 1, v10, by omega, by go_num, by omega, by rw [Hsucc.out, ← List.append_assoc, ← List.append_assoc]; exact P10.out, HC10.out⟩
        case measure => simp [intOf]; omega
       ·obtain rfl : k = its.length := by omega
        have eP : L ++ putS xs ys = L2 ++ bitsIt ls its its.length := by
         unfold putS manyOf headS
         rw [← Hits.out, ← Hls.out, hxl.out, hyl.out, ← Ha.out, ← Hb.out, ← Hmv.out, HL2.out, HL1.out, Ha'.out, Hb'.out, Hm'.out]
         simp only [List.append_assoc]
        have EP := Lib.hid eP
        clear eP
        go_wp2
        go_end0
        exact ⟨v', rfl, by rw [EP.out]; exact P.out.wr, P.out.st⟩
end Go.Proofs.YtdbkbeojedndbaaGreatDoor
