/-
  Texts joined into one file: Put, CodesR, RefP.
-/
import Derived.Test.YtempgkglhgelkaaDoorJCodesPuts8
import Derived.Test.YtempgkglhgelkaaDoorJCodesPuts4
import Derived.Test.YtempgkglhgelkaaDoorJCodesPuts1
import Derived.Test.YtempgkglhgelkaaDoorJCodesPuts9
import Derived.Test.YtempgkglhgelkaaDoorJCodesPuts3
import Derived.Deep.Cut
import Derived.Deep.CutRange
import Derived.Deep.CutBlock
import Derived.Deep.DeepCutAuto
import Derived.IntWalk
import Derived.Test.YtempgkglhgelkaaDoorJCodesPuts6
/-
  The walk of Put (package codes).
-/
namespace Go.Proofs.YtempgkglhgelkaaDoor
open Go.RowKit

theorem OrdAt.fr {w w1 : World} {S : List (Option Nat)} (h : ∀ j, j < 19 → w.cell? ⟨2, j, none⟩ = some (.int .i64 (ordL.getD j 0 : Nat))) (hf : Fr w w1 S) (hS : ∀ o ∈ S, o ≠ some 2) : ∀ j, j < 19 → w1.cell? ⟨2, j, none⟩ = some (.int .i64 (ordL.getD j 0 : Nat)) := fun j hj => hf.kept (h j hj) hS
theorem rd_takeF {w : World} {k : IntKind} {b o n : Nat} {l : List Int} (h : Rd w k (some ⟨b, o, none⟩) n l) (m : Nat) (hm : m ≤ n) : Rd w k (some ⟨b, o, none⟩) m (l.take m) :=
  ⟨by rw [List.length_take, h.1]; omega, fun hm0 => ⟨b, o, rfl, fun j hj => by
    obtain ⟨b', o', e, hc⟩ := h.2 (by omega)
    cases e
    have e2 : rd (l.take m) j = rd l j := by
      unfold rd
      rw [List.getD_eq_getElem?_getD, List.getD_eq_getElem?_getD, List.getElem?_take_of_lt hj]
    rw [e2]
    exact hc j (by omega)⟩⟩
/-- What Put keeps while it puts. -/
structure PutSt (w W : World) (B h : Nat) (v0 : Value) (bl bi : Nat) (vl vi : Value) (ls : List Int) (its : List Item) (L' : List Int) (v' : Value) : Prop where
  wr : WrAt W B h L' v'
  st : WStep w W h v0 v'
  ls : W.ownsRow bl 3 1 vl 19 (ints .i64 ls)
  it : W.ownsRow bi 82 3 vi its.length (itemCells its)
  od : ∀ j, j < 19 → W.cell? ⟨2, j, none⟩ = some (.int .i64 (ordL.getD j 0 : Nat))
theorem PutSt.below {w W W1 : World} {B h : Nat} {v0 : Value} {bl bi : Nat} {vl vi : Value} {ls : List Int} {its : List Item} {L' : List Int} {v' : Value} (H : PutSt w W B h v0 bl bi vl vi ls its L' v') (hb : Below W.heap.size W W1) : PutSt w W1 B h v0 bl bi vl vi ls its L' v' :=
  ⟨H.wr.below hb, H.st.below hb, own_below H.ls hb, own_below H.it hb, fun j hj => kept_cell hb (H.od j hj)⟩
theorem PutSt.step {w W W1 : World} {B h : Nat} {v0 : Value} {bl bi : Nat} {vl vi : Value} {ls : List Int} {its : List Item} {L' L'' : List Int} {v' v'' : Value} (H : PutSt w W B h v0 bl bi vl vi ls its L' v') (hw : WrAt W1 B h L'' v'') (hs : WStep W W1 h v' v'') (hgB : 2 < B) (hBh : B ≤ h) : PutSt w W1 B h v0 bl bi vl vi ls its L'' v'' :=
  ⟨hw, H.st.trans hs, hs.row H.wr H.ls (by decide) (by decide), hs.row H.wr H.it (by decide) (by decide), OrdAt.fr H.od hs.fr (fun o ho e => by
    simp at ho
    rcases ho with rfl | rfl
    · cases e; omega
    · have := (H.wr.own.lt _ e).1; omega)⟩
theorem lows_one (y : Nat) (n : Nat) : lows [(y : Int)] n 1 = lowOf y n := by simp [lows, List.range_succ, rd]
theorem lows_two (x y : Nat) (n : Nat) : lows [(x : Int), (y : Int)] n 2 = lowOf x n ++ lowOf y n := by simp [lows, List.range_succ, rd]
theorem WrAt.fresh {W : World} {B h : Nat} {L' : List Int} {v' : Value} (H : WrAt W B h L' v') {b o : Nat} (e : (some ⟨W.heap.size, 0, none⟩ : Option Addr) = some ⟨b, o, none⟩) : b ≠ h ∧ v'.ownBlock ≠ some b := by
  cases e
  exact ⟨by have := H.lt; omega, fun e2 => by have := (H.own.lt _ e2).2; omega⟩
theorem codesOf_rng (ls : List Int) (j : Nat) (hl : ls.length = 19) (hj : j < 19) : 0 ≤ rd (codesOf ls) j ∧ rd (codesOf ls) j ≤ 3000000 := by
  rw [rd_codesOf ls j (by omega)]
  unfold codeAt
  split
  · have := nextCode_range ls (rd ls j).toNat j (by omega)
    rw [hl] at this
    omega
  · omega
set_option maxHeartbeats 8000000 in
set_option maxRecDepth 200000 in
theorem CPut_calls (B h : Nat) (L : List Int) (v : Value) (X Y : Option Addr) (nx cx ny cy : Nat) (xs ys : List Int) (w : World) (H : WrAt w B h L v) (hX : Rd w .i64 X nx xs) (hY : Rd w .i64 Y ny ys) (hx1 : 257 ≤ nx) (hx2 : nx ≤ 1000) (hy1 : 1 ≤ ny) (hy2 : ny ≤ 1000) (hcx : nx ≤ cx) (hcy : ny ≤ cy)
    (hx15 : ∀ j, j < nx → 0 ≤ rd xs j ∧ rd xs j ≤ 15) (hy15 : ∀ j, j < ny → 0 ≤ rd ys j ∧ rd ys j ≤ 15) (hO : ∀ j, j < 19 → w.cell? ⟨2, j, none⟩ = some (.int .i64 (ordL.getD j 0 : Nat))) (hgB : 2 < B) (hBh : B ≤ h) (_hB : B ≤ w.heap.size) (hL : L.length ≤ 50000000) :
    Calls Tryd.prog 33 #[.pointer (some ⟨h, 0, none⟩), .slice X nx cx, .slice Y ny cy] w fun e w' => ∃ v', e = .returned (.tuple #[]) ∧ WrAt w' B h (L ++ putS xs ys) v' ∧ WStep w w' h v v' := by
  have HH := Lib.hid H
  have HX := Lib.hid hX
  have HY := Lib.hid hY
  have hxl := Lib.hid hX.1
  have hyl := Lib.hid hY.1
  have Hx15 := Lib.hid hx15
  have Hy15 := Lib.hid hy15
  have HO := Lib.hid hO
  obtain ⟨bx, ox, rfl, _⟩ := hX.2 (by omega)
  obtain ⟨bY, oY, rfl, _⟩ := hY.2 (by omega)
  have hhl := H.lt
  clear H hX hY hx15 hy15 hO
  go_enter Tryd.func33, Tryd.ntmps33
  go_wp2_with fail
  refine (trim_calls (some ⟨bx, ox, none⟩) nx cx 257 xs _ HX.out (by omega) hx1 (by omega) hcx).mono ?_
  rintro e w1 ⟨rfl, rfl⟩
  go_wp2_with fail
  refine (trim_calls (some ⟨bY, oY, none⟩) ny cy 1 ys _ HY.out (by omega) hy1 (by omega) hcy).mono ?_
  rintro e w1 ⟨rfl, rfl⟩
  have ta := tn_rng xs 257 (nx - 257)
  have tb := tn_rng ys 1 (ny - 1)
  obtain ⟨a, ha⟩ : ∃ a, a = tn xs 257 (nx - 257) := ⟨_, rfl⟩
  obtain ⟨b, hb⟩ : ∃ b, b = tn ys 1 (ny - 1) := ⟨_, rfl⟩
  rw [← ha] at ta ⊢
  rw [← hb] at tb ⊢
  have ha257 : 257 ≤ a := ta.1
  have han : a ≤ nx := by omega
  have hb1 : 1 ≤ b := tb.1
  have hbn : b ≤ ny := by omega
  have Ha := Lib.hid ha
  have Hb := Lib.hid hb
  have HXa := Lib.hid (rd_takeF HX.out a han)
  have HYb := Lib.hid (rd_takeF HY.out b hbn)
  clear ta tb ha hb
  go_wp2_with (first
    | (at_builtin; refine wpList_appRd rfl _ _ rfl elIntN (ys := []) (own_empty w _) rfl rfl (HXa.out.alloc _) (fun e => by cases e) (by omega) (by simp) ?_; intro v1 w1 hown1 hg1; rw [Nat.zero_add, List.nil_append] at hown1; have hb1' : Below w.heap.size w w1 := ((Below.refl _ _).alloc (Nat.le_refl _) _).grown hg1 (by simp) (fun k hk => by simp [Value.ownBlock] at hk; omega))
    | (at_builtin; refine wpList_appRd rfl _ _ rfl elIntN hown1 rfl rfl (HYb.out.below hb1') (fun e => by cases e) (by omega) hb1'.size ?_; intro v2 w2 hown2 hg2; have hb2' : Below w.heap.size w w2 := hb1'.grown hg2 hb1'.size (fun k hk => (hown1.lt k hk).1); obtain ⟨A2, c2, rfl⟩ := own_slice hown2))
  obtain ⟨_, _, e9, _, hr2⟩ := own_rd hown2
  cases e9
  obtain ⟨its, hits⟩ : ∃ its, its = items (xs.take a ++ ys.take b) := ⟨_, rfl⟩
  refine (Press_calls A2 (a + b) c2 _ _ hr2 (by omega)).mono ?_
  rintro e w3 ⟨v3, rfl, hown3, hb3⟩
  rw [← hits] at hown3
  have Hb3 := Lib.hid (below_seq hb2' (Nat.le_refl _) hb3)
  have hits2 : its = itsOf xs ys := by
    rw [hits]
    unfold itsOf
    rw [hxl.out, hyl.out, ← Ha.out, ← Hb.out]
  have hlenI : its.length ≤ 2000 := by
    have h1 := items_le (xs.take a ++ ys.take b)
    rw [← hits, List.length_append, List.length_take, List.length_take] at h1
    omega
  have hok : ∀ it ∈ its, ItemOk it := by
    rw [hits]
    refine items_ok (fun j hj => ?_)
    rw [List.length_append, List.length_take, List.length_take, hxl.out, hyl.out] at hj
    rcases Nat.lt_or_ge j a with g | g
    · rw [rd_appL (by rw [List.length_take, hxl.out]; omega)]
      have e2 : rd (xs.take a) j = rd xs j := by
        unfold rd
        rw [List.getD_eq_getElem?_getD, List.getD_eq_getElem?_getD, List.getElem?_take_of_lt g]
      rw [e2]
      exact Hx15.out j (by omega)
    · have e1 : j = (xs.take a).length + (j - a) := by rw [List.length_take, hxl.out]; omega
      rw [e1, rd_appR]
      have e2 : rd (ys.take b) (j - a) = rd ys (j - a) := by
        unfold rd
        rw [List.getD_eq_getElem?_getD, List.getD_eq_getElem?_getD, List.getElem?_take_of_lt (by omega)]
      rw [e2]
      exact Hy15.out (j - a) (by omega)
  have Hits := Lib.hid hits2
  have HI := Lib.hid hok
  have Hown3 := Lib.hid hown3
  have hs18 : Hid (∀ k, k < its.length → itS its k ≤ 18) := fun k hk => (it_at hok hk).2.1
  have hsz3 := Hb3.out.size
  have HH3 := Lib.hid (HH.out.below Hb3.out)
  have HO3 := Lib.hid (fun j (hj : j < 19) => kept_cell Hb3.out (HO.out j hj))
  clear hits hits2 hok hown3 hb3 hr2 hown2 hown1 hb1' hb2' hg1 hg2 HX HY HXa HYb Hx15 Hy15 HO
  obtain ⟨A3, c3, rfl⟩ := own_slice Hown3.out
  go_wp2_with (at_make; refine wpList_mk1 (base := w3.heap.size) (n := 19) _ rfl _ _ rfl elIntN rfl rfl rfl rfl (by omega) (Nat.le_refl _) ?_; intro w4 hown4 hb4 hsz4)
  have Hown4 := Lib.hid hown4
  have Hb4 := Lib.hid hb4
  clear hown4 hb4
  go_loopw [32] (fun i wr => ∃ k : Nat, k ≤ its.length ∧ i = .int .i64 k ∧ Hid (wr.ownsRow w3.heap.size 3 1 (.slice (some ⟨w3.heap.size, 0, none⟩) 19 19) 19 (ints .i64 (wtsIt its k))) ∧ Hid (Below w3.heap.size w3 wr)) (fun i _ => its.length - (intOf i).toNat)
  case atStart => exact ⟨0, by omega, rfl, Hown4.out, Hb4.out⟩
  case round =>
    obtain ⟨k, hk, rfl, Hw, Hbw⟩ := hrel
    by_cases hlt : k < its.length
    · obtain ⟨gi, ci, e8, _, _, _, hic, _⟩ := own_form (own_below Hown3.out Hbw.out) (by omega)
      cases e8
      obtain ⟨k1, k2, k3⟩ := it_cells HI.out hlt
      have z1 := hic _ _ k1
      have z2 := hic _ _ k2
      have z3 := hic _ _ k3
      have hs := hs18.out k hlt
      have hwl := wtsIt_length its k
      have hle := wtsIt_le its hs18.out k (itS its k) (by omega)
      have hnx : wtsIt its (k + 1) = (wtsIt its k).set (itS its k) (rd (wtsIt its k) (itS its k) + 1) := rfl
      have zw := Hw.out.cellAt (itS its k) (by omega)
      rw [ints_get (by rw [hwl]; omega)] at zw
      have fw := Hw.out.frozenAt (itS its k)
      obtain ⟨s, hse⟩ : ∃ s, s = itS its k := ⟨_, rfl⟩
      obtain ⟨y, hy⟩ : ∃ y, y = rd (wtsIt its k) (itS its k) := ⟨_, rfl⟩
      rw [← hy] at zw hnx hle
      rw [← hse] at zw fw hnx z1 hs
      have Hnx := Lib.hid hnx
      obtain ⟨bI, hbI⟩ : ∃ q, q = itB its k := ⟨_, rfl⟩
      obtain ⟨eI, heI⟩ : ∃ q, q = itE its k := ⟨_, rfl⟩
      rw [← hbI] at z2
      rw [← heI] at z3
      have hszr := Hbw.out.size
      have hwlt := (Hw.out.lt _ rfl).2
      clear hic k1 k2 k3 hwl hnx hse hy hbI heI
      go_wp2
      go_roundw
      case rel =>
        refine ⟨k + 1, by omega, by go_num, ?_, (Hbw.out.setCell (p := ⟨w3.heap.size, s, none⟩) (Nat.le_refl _) _).alloc (by simpa using hszr) _⟩
        have h9 := (own_store Hw.out s (.int .i64 (y + 1))).alloc (.cells #[.int .i64 s, .int .i64 bI, .int .u64 eI] 82)
        rw [← ints_set, ← Hnx.out] at h9
        exact h9
      case measure => simp [intOf]; omega
    · obtain rfl : k = its.length := by omega
      obtain ⟨_, _, e9, _, hrw⟩ := own_rd Hw.out
      cases e9
      have Hrw := Lib.hid hrw
      have hnn := wtsIt_nn its hs18.out its.length (Nat.le_refl _)
      have hsum := wtsIt_sum its hs18.out its.length (Nat.le_refl _)
      have hfew := lensIt_few its
      have hlr := Lib.hid (lensIt_rng its hs18.out)
      have hlo := Lib.hid (lensIt_ok its hs18.out)
      have hll := Lib.hid (lensIt_length its)
      have hLs : lensOf 7 (wtsIt its its.length) = lensIt its := rfl
      have Hbr := Lib.hid (below_seq Hb3.out (Nat.le_refl _) Hbw.out)
      have Hown5 := Lib.hid (own_below Hown3.out Hbw.out)
      clear hrw Hw Hown4 Hb4
      go_wp2_with fail
      refine (Lengths_calls 7 _ 19 19 (wtsIt its its.length) _ (by omega) Hrw.out (fun e => by cases e) (by omega) (fun x hx => (hnn x hx).1) (by omega) hfew).mono ?_
      rintro e w5 ⟨v5, rfl, hown5, hb5⟩
      rw [hLs] at hown5
      obtain ⟨ls, hls⟩ : ∃ ls, ls = lensIt its := ⟨_, rfl⟩
      rw [← hls] at hown5 hlr hlo hll
      have Hls := Lib.hid hls
      have HH5 := Lib.hid (HH3.out.below (Hbw.out.trans (hb5.mono Hbw.out.size)))
      have HO5 := Lib.hid (fun j (hj : j < 19) => kept_cell (Hbw.out.trans (hb5.mono Hbw.out.size)) (HO3.out j hj))
      have HI5 := Lib.hid (own_below Hown5.out hb5)
      have Hb5 := Lib.hid (below_seq Hbr.out (Nat.le_refl _) hb5)
      obtain ⟨gl, cl, rfl, hgl1, hgl2, hcl, hlc, _⟩ := own_form hown5 (by omega)
      have Hown6 := Lib.hid hown5
      have Hlc : Hid (∀ j, j < 19 → w5.cell? ⟨gl, j, none⟩ = some (.int .i64 (rd ls j))) := fun j hj => hlc j _ (ints_get (by rw [hll.out]; exact hj))
      have hsz5 := Hb5.out.size
      clear hown5 hb5 hnn hsum hfew hLs hls hlc Hown5 Hbr Hrw Hbw
      go_upto_block 2 with fail
      go_cut [13] from 46 to 59 (fun m wx => m = .int .i64 (tn (ordV ls) 4 15 : Nat) ∧ wx = w5)
      case first =>
        go_wp2_with fail
        go_loop [13] (fun i => ∃ d : Nat, d ≤ 15 ∧ i = .int .i64 ((4 + d : Nat) : Int) ∧ Hid (tn (ordV ls) 4 15 = tn (ordV ls) 4 d)) (fun i => (intOf i).toNat)
        case atStart => exact ⟨15, by omega, rfl, rfl⟩
        case round =>
          obtain ⟨d, hd, rfl, HT⟩ := hrel
          rcases Nat.eq_zero_or_pos d with h0 | h0
          · subst h0
            have HT2 := HT.out
            rw [show tn (ordV ls) 4 0 = 4 from rfl] at HT2
            have HTe := Lib.hid HT2
            rw [Nat.add_zero]
            clear HT HT2
            go_wp2
            go_meet
            exact ⟨by rw [HTe.out]; rfl, rfl⟩
          · obtain ⟨e, rfl⟩ : ∃ e, d = e + 1 := ⟨d - 1, by omega⟩
            have zo := HO5.out (4 + e) (by omega)
            have hol := ordL_lt (4 + e)
            have ho := rd_ordV (ls := ls) (j := 4 + e) (by omega)
            have HT2 := HT.out
            have hu : tn (ordV ls) 4 (e + 1) = if rd (ordV ls) (4 + e) = 0 then tn (ordV ls) 4 e else 4 + e + 1 := rfl
            rw [hu, ho] at HT2
            have z := Hlc.out (ordL.getD (4 + e) 0) hol
            obtain ⟨y, hy⟩ : ∃ y, y = rd ls (ordL.getD (4 + e) 0) := ⟨_, rfl⟩
            obtain ⟨oi, hoi⟩ : ∃ oi, oi = ordL.getD (4 + e) 0 := ⟨_, rfl⟩
            rw [← hy] at z HT2
            rw [← hoi] at z zo hol
            obtain ⟨q, hq⟩ : ∃ q, q = 4 + e := ⟨_, rfl⟩
            rw [← hq] at zo HT2
            rw [show 4 + (e + 1) = q + 1 from by omega]
            have hq19 : q < 19 := by omega
            have hq4 : 4 ≤ q := by omega
            have s1 : (((q + 1 : Nat) : Int) - 1).toNat = q := by omega
            have s2 : (((q + 1 : Nat) : Int) - 1) = (q : Int) := by omega
            by_cases hy0 : y = 0
            · rw [if_pos hy0] at HT2
              have HT3 := Lib.hid HT2
              have Hq := Lib.hid hq
              subst hy0
              clear HT2 hy hu hq hoi ho HT
              go_wp2
              go_round
              case rel => exact ⟨e, by omega, by rw [← Hq.out], HT3.out⟩
              case measure => simp [intOf]
            · rw [if_neg hy0] at HT2
              have HT3 := Lib.hid HT2
              have d0 : (y == 0) = false := by simpa using hy0
              clear HT2 hy hu hq hoi ho HT
              go_wp2
              go_meet
              exact ⟨by rw [HT3.out]; rfl, rfl⟩
      case rest =>
        obtain ⟨rfl, rfl⟩ := hcut
        have tm := tn_rng (ordV ls) 4 15
        obtain ⟨mv, hmv⟩ : ∃ mv, mv = tn (ordV ls) 4 15 := ⟨_, rfl⟩
        rw [← hmv] at tm ⊢
        have hm4 : 4 ≤ mv := tm.1
        have hm19 : mv ≤ 19 := tm.2
        have Hmv := Lib.hid hmv
        obtain ⟨a', ha'⟩ : ∃ a', a' = a - 257 := ⟨_, rfl⟩
        obtain ⟨b', hb'⟩ : ∃ b', b' = b - 1 := ⟨_, rfl⟩
        obtain ⟨m', hm'⟩ : ∃ m', m' = mv - 4 := ⟨_, rfl⟩
        have sA : (a : Int) - 257 = (a' : Int) := by omega
        have sA2 : (a : Int) - 256 - 1 = (a' : Int) := by omega
        have sB : (b : Int) - 1 = (b' : Int) := by omega
        have sM : (mv : Int) - 4 = (m' : Int) := by omega
        have ha'2 : a' ≤ 1000 := by omega
        have hb'2 : b' ≤ 1000 := by omega
        have hm'2 : m' ≤ 15 := by omega
        have Ha' := Lib.hid ha'
        have Hb' := Lib.hid hb'
        have Hm' := Lib.hid hm'
        clear hmv tm ha' hb' hm'
        go_wp2_with fail
        refine (Put_calls B h 5 L v (some ⟨wc.heap.size, 0, none⟩) 2 2 [(a' : Int), (b' : Int)] _ (HH5.out.below ((Below.refl _ _).alloc (Nat.le_refl _) _)) (Blk.rd (heap_alloc_new wc _) rfl) (fun j hj => ?_) (by omega) (fun b o e => HH5.out.fresh e) (by omega) (by simp; omega)).mono ?_
        · have : j = 0 ∨ j = 1 := by omega
          rcases this with rfl | rfl
          · show 0 ≤ (a' : Int) ∧ (a' : Int) < _; omega
          · show 0 ≤ (b' : Int) ∧ (b' : Int) < _; omega
        rintro e w6 ⟨v6, rfl, hw6, hs6⟩
        rw [lows_two] at hw6
        have P5 : PutSt w wc B h v _ _ _ _ ls its L v := ⟨HH5.out, (WStep.refl w h v).below Hb5.out, Hown6.out, HI5.out, HO5.out⟩
        have P6 := Lib.hid ((P5.below ((Below.refl _ _).alloc (Nat.le_refl _) _)).step hw6 hs6 hgB hBh)
        have hsz6 := hs6.fr.size
        have hal := HH5.out.lt
        clear hw6 hs6 P5 HH5 Hown6 HI5 HO5 Hlc
        simp at hsz6
        go_wp2_with fail
        refine (Put_calls B h 4 _ v6 (some ⟨w6.heap.size, 0, none⟩) 1 1 [(m' : Int)] _ (P6.out.wr.below ((Below.refl _ _).alloc (Nat.le_refl _) _)) (Blk.rd (heap_alloc_new w6 _) rfl) (fun j hj => ?_) (by omega) (fun b o e => P6.out.wr.fresh e) (by rw [List.length_append, List.length_append, lowOf_length, lowOf_length]; omega) (by simp; omega)).mono ?_
        · obtain rfl : j = 0 := by omega
          show 0 ≤ (m' : Int) ∧ (m' : Int) < _; omega
        rintro e w7 ⟨v7, rfl, hw7, hs7⟩
        rw [lows_one] at hw7
        have P7 := Lib.hid ((P6.out.below ((Below.refl _ _).alloc (Nat.le_refl _) _)).step hw7 hs7 hgB hBh)
        have hsz7 := hs7.fr.size
        clear hw7 hs7 P6
        simp at hsz7
        obtain ⟨L1, hL1⟩ : ∃ L1, L1 = L ++ (lowOf a' 5 ++ lowOf b' 5) ++ lowOf m' 4 := ⟨_, rfl⟩
        rw [← hL1] at P7
        have hL1l : L1.length = L.length + 14 := by rw [hL1, List.length_append, List.length_append, List.length_append, lowOf_length, lowOf_length, lowOf_length]
        have HL1 := Lib.hid hL1
        have hsl := ord_slice w7 .i64 mv mv rfl hm19
        clear hL1
        go_wp2
        go_loopw [81] (fun i wr => ∃ (k : Nat) (v' : Value), k ≤ mv ∧ i = .int .i64 k ∧ w7.heap.size ≤ wr.heap.size ∧ Hid (PutSt w wr B h v _ _ _ _ ls its (L1 ++ lows (ordV ls) 3 k) v')) (fun i _ => mv - (intOf i).toNat)
        case atStart => exact ⟨0, v7, by omega, rfl, Nat.le_refl _, by rw [show lows (ordV ls) 3 0 = [] from rfl, List.append_nil]; exact P7.out⟩
        case round =>
          obtain ⟨k, v', hk, rfl, hszr, P⟩ := hrel
          by_cases hlt3 : k < mv
          · have zo := P.out.od k (by omega)
            have hol := ordL_lt k
            have zl := P.out.ls.cellAt (ordL.getD k 0) (by omega)
            rw [ints_get (by rw [hll.out]; exact hol)] at zl
            have hr := hlr.out (ordL.getD k 0)
            have hov := rd_ordV (ls := ls) (j := k) (by omega)
            obtain ⟨y, hy⟩ : ∃ y : Nat, rd ls (ordL.getD k 0) = y := ⟨(rd ls (ordL.getD k 0)).toNat, by omega⟩
            obtain ⟨oi, hoi⟩ : ∃ oi, oi = ordL.getD k 0 := ⟨_, rfl⟩
            have hsucc := lows_succ (ordV ls) 3 k
            rw [hov, hy, Int.toNat_natCast] at hsucc
            rw [hy] at zl hr
            rw [← hoi] at zo zl hol
            have Hsucc := Lib.hid hsucc
            have hlen3 := lows_length (ordV ls) 3 k
            clear hov hy hoi hsucc
            go_wp2_with fail
            refine (Put_calls B h 3 _ v' (some ⟨wr.heap.size, 0, none⟩) 1 1 [(y : Int)] _ (P.out.wr.below ((Below.refl _ _).alloc (Nat.le_refl _) _)) (Blk.rd (heap_alloc_new wr _) rfl) (fun j hj => ?_) (by omega) (fun b o e => P.out.wr.fresh e) (by rw [List.length_append, hlen3]; omega) (by simp; omega)).mono ?_
            · obtain rfl : j = 0 := by omega
              show 0 ≤ (y : Int) ∧ (y : Int) < _; omega
            rintro e w8 ⟨v8, rfl, hw8, hs8⟩
            rw [lows_one] at hw8
            have P8 := Lib.hid ((P.out.below ((Below.refl _ _).alloc (Nat.le_refl _) _)).step hw8 hs8 hgB hBh)
            have hsz8 := hs8.fr.size
            clear hw8 hs8
            simp at hsz8
            go_wp2
            go_roundw
            case rel => exact ⟨k + 1, v8, by omega, by go_num, by omega, by rw [Hsucc.out, ← List.append_assoc]; exact P8.out⟩
            case measure => simp [intOf]; omega
          · obtain rfl : k = mv := by omega
            obtain ⟨_, _, e9, _, hrl⟩ := own_rd P.out.ls
            cases e9
            have Hrl := Lib.hid hrl
            clear hrl
            go_wp2_with fail
            refine (Codes_calls _ 19 cl ls _ Hrl.out (by omega) hlo.out).mono ?_
            rintro e w8 ⟨v8, rfl, hown8, hb8⟩
            have P8 := Lib.hid (P.out.below hb8)
            have hsz8 := hb8.size
            obtain ⟨gc, cc, rfl, hgc1, hgc2, hccc, _, _⟩ := own_form hown8 (by omega)
            obtain ⟨bcd, hbcd⟩ : ∃ q, q = wr.heap.size := ⟨_, rfl⟩
            rw [← hbcd] at hown8
            have Hown8 := Lib.hid hown8
            have hlen3 := lows_length (ordV ls) 3 k
            obtain ⟨L2, hL2⟩ : ∃ L2, L2 = L1 ++ lows (ordV ls) 3 k := ⟨_, rfl⟩
            rw [← hL2] at P8
            have hL2l : L2.length ≤ L.length + 100 := by rw [hL2, List.length_append, hlen3]; omega
            have HL2 := Lib.hid hL2
            have hbl := Lib.hid (bitsIt_length ls its hlr.out (fun k hk => (it_at HI.out hk).2.2.1))
            clear hown8 hb8 hL2 hlen3 Hrl P P7
            go_wp2
            go_loopw [98] (fun i wr => ∃ (k : Nat) (v' : Value), k ≤ its.length ∧ i = .int .i64 k ∧ w8.heap.size ≤ wr.heap.size ∧ Hid (PutSt w wr B h v _ _ _ _ ls its (L2 ++ bitsIt ls its k) v') ∧ Hid (wr.ownsRow bcd 24 1 (.slice (some ⟨gc, 0, none⟩) 19 cc) 19 (ints .u64 (codesOf ls)))) (fun i _ => its.length - (intOf i).toNat)
            case atStart => exact ⟨0, _, by omega, rfl, Nat.le_refl _, by rw [show bitsIt ls its 0 = [] from rfl, List.append_nil]; exact P8.out, Hown8.out⟩
            case round =>
              obtain ⟨k, v', hk, rfl, hszr, P, HC⟩ := hrel
              by_cases hlt4 : k < its.length
              · obtain ⟨gi, ci, e8, _, _, _, hic, _⟩ := own_form P.out.it (by omega)
                cases e8
                obtain ⟨k1, k2, k3⟩ := it_cells HI.out hlt4
                have z1' := hic _ _ k1
                have z2' := hic _ _ k2
                have z3' := hic _ _ k3
                obtain ⟨_, hs, hbI7, heI⟩ := it_at HI.out hlt4
                have hr := hlr.out (itS its k)
                have hcr := codesOf_rng ls (itS its k) hll.out (by omega)
                have zl := P.out.ls.cellAt (itS its k) (by omega)
                rw [ints_get (by rw [hll.out]; omega)] at zl
                have zc := HC.out.cellAt (itS its k) (by omega)
                rw [ints_get (by rw [codesOf_length, hll.out]; omega)] at zc
                have hsucc := bitsIt_succ ls its k
                have hbk := hbl.out k hk
                obtain ⟨y, hy⟩ : ∃ y : Nat, rd ls (itS its k) = y := ⟨(rd ls (itS its k)).toNat, by omega⟩
                obtain ⟨cd, hcd⟩ : ∃ cd : Nat, rd (codesOf ls) (itS its k) = cd := ⟨(rd (codesOf ls) (itS its k)).toNat, by omega⟩
                rw [hy] at zl hr
                rw [hcd] at zc hcr
                rw [hy, hcd, Int.toNat_natCast, Int.toNat_natCast] at hsucc
                obtain ⟨s, hse⟩ : ∃ s, s = itS its k := ⟨_, rfl⟩
                obtain ⟨bI, hbI⟩ : ∃ q, q = itB its k := ⟨_, rfl⟩
                obtain ⟨eI, heI'⟩ : ∃ q, q = itE its k := ⟨_, rfl⟩
                rw [← hse] at zl zc z1' hs
                rw [← hbI] at z2' hbI7 hsucc
                rw [← heI'] at z3' heI hsucc
                have Hsucc := Lib.hid hsucc
                have hba : Below wr.heap.size wr (wr.alloc (.cells #[.int .i64 s, .int .i64 bI, .int .u64 eI] 82)) := (Below.refl _ _).alloc (Nat.le_refl _) _
                have PA := Lib.hid (P.out.below hba)
                have HCA := Lib.hid (own_below HC.out hba)
                have zl2 := kept_cell hba zl
                have zc2 := kept_cell hba zc
                have hnb := heap_alloc_new wr (.cells #[.int .i64 s, .int .i64 bI, .int .u64 eI] 82)
                have n0 := cell_of_row _ wr.heap.size 0 _ _ (0, 0) hnb
                have n1 := cell_of_row _ wr.heap.size 1 _ _ (0, 0) hnb
                have n2 := cell_of_row _ wr.heap.size 2 _ _ (0, 0) hnb
                simp only [List.getElem?_toArray] at n0 n1 n2
                have hszA := hba.size
                have N1 := Lib.hid n1
                have N2 := Lib.hid n2
                have hs19 : (s : Int) < 19 := by omega
                clear hic k1 k2 k3 hy hcd hse hbI heI' hsucc n1 n2
                go_upto_region 23 with fail
                refine wp_region_last (n := 11) (on := ⟨_, _, _, _, _, _⟩) (S := fun W => W.cell? ⟨wr.heap.size, 0, none⟩ = some (.int .i64 s) ∧ W.cell? ⟨gl, s, none⟩ = some (.int .i64 y) ∧ W.cell? ⟨gc, s, none⟩ = some (.int .u64 cd)) (by kernel_rfl) rfl (by kernel_rfl) (⟨n0, zl2, zc2⟩) (fun hHeld => ?_)
                refine' wpAnyH_take (i := 0) (oi := ⟨_, _, _, _, _, _⟩) (v := _) rfl (by kernel_rfl) (by kernel_rfl) (by kernel_rfl) (fun _ _ _ h => h) (Or.inl ⟨by rfl, ?hy0⟩) (by assumption) ?rest0
                case hy0 => (intro w hSw; (try dsimp only at hSw); go_simp; try with_reducible rfl)
                try simp only [Act.put, List.setIfInBounds_toArray, List.set_cons_zero, List.set_cons_succ]
                refine' wpAnyH_take (i := 1) (oi := ⟨_, _, _, _, _, _⟩) (v := _) rfl (by kernel_rfl) (by kernel_rfl) (by kernel_rfl) (fun _ _ _ h => h) (Or.inl ⟨by rfl, ?hy1⟩) (by assumption) ?rest1
                case hy1 => (intro w hSw; (try dsimp only at hSw); go_simp; try with_reducible rfl)
                try simp only [Act.put, List.setIfInBounds_toArray, List.set_cons_zero, List.set_cons_succ]
                refine' wpAnyH_take (i := 2) (oi := ⟨_, _, _, _, _, _⟩) (v := _) rfl (by kernel_rfl) (by kernel_rfl) (by kernel_rfl) (fun _ _ _ h => h) (Or.inl ⟨by rfl, ?hy2⟩) (by assumption) ?rest2
                case hy2 => (intro w hSw; (try dsimp only at hSw); go_simp; try with_reducible rfl)
                try simp only [Act.put, List.setIfInBounds_toArray, List.set_cons_zero, List.set_cons_succ]
                refine' wpAnyH_take (i := 3) (oi := ⟨_, _, _, _, _, _⟩) (v := _) rfl (by kernel_rfl) (by kernel_rfl) (by kernel_rfl) (fun _ _ _ h => h) (Or.inl ⟨by rfl, ?hy3⟩) (by assumption) ?rest3
                case hy3 => (intro w hSw; (try dsimp only at hSw); go_simp; try with_reducible rfl)
                try simp only [Act.put, List.setIfInBounds_toArray, List.set_cons_zero, List.set_cons_succ]
                refine' wpAnyH_take (i := 4) (oi := ⟨_, _, _, _, _, _⟩) (v := _) rfl (by kernel_rfl) (by kernel_rfl) (by kernel_rfl) (fun _ _ _ h => h) (Or.inl ⟨by rfl, ?hy4⟩) (by assumption) ?rest4
                case hy4 => (intro w hSw; (try dsimp only at hSw); go_simp; try with_reducible rfl)
                try simp only [Act.put, List.setIfInBounds_toArray, List.set_cons_zero, List.set_cons_succ]
                refine' wpAnyH_take (i := 5) (oi := ⟨_, _, _, _, _, _⟩) (v := _) rfl (by kernel_rfl) (by kernel_rfl) (by kernel_rfl) (fun _ _ _ h => h) (Or.inl ⟨by rfl, ?hy5⟩) (by assumption) ?rest5
                case hy5 => (intro w hSw; (try dsimp only at hSw); go_simp; try with_reducible rfl)
                try simp only [Act.put, List.setIfInBounds_toArray, List.set_cons_zero, List.set_cons_succ]
                refine' wpAnyH_take (i := 6) (oi := ⟨_, _, _, _, _, _⟩) (v := _) rfl (by kernel_rfl) (by kernel_rfl) (by kernel_rfl) (fun _ _ _ h => h) (Or.inl ⟨by rfl, ?hy6⟩) (by assumption) ?rest6
                case hy6 => (intro w hSw; (try dsimp only at hSw); go_simp; try with_reducible rfl)
                try simp only [Act.put, List.setIfInBounds_toArray, List.set_cons_zero, List.set_cons_succ]
                refine' wpAnyH_take (i := 7) (oi := ⟨_, _, _, _, _, _⟩) (v := _) rfl (by kernel_rfl) (by kernel_rfl) (by kernel_rfl) (fun _ _ _ h => h) (Or.inl ⟨by rfl, ?hy7⟩) (by assumption) ?rest7
                case hy7 => (intro w hSw; (try dsimp only at hSw); go_simp; try with_reducible rfl)
                try simp only [Act.put, List.setIfInBounds_toArray, List.set_cons_zero, List.set_cons_succ]
                refine' wpAnyH_take (i := 8) (oi := ⟨_, _, _, _, _, _⟩) (v := _) rfl (by kernel_rfl) (by kernel_rfl) (by kernel_rfl) (fun _ _ _ h => h) (Or.inl ⟨by rfl, ?hy8⟩) (by assumption) ?rest8
                case hy8 => (intro w hSw; (try dsimp only at hSw); go_simp; try with_reducible rfl)
                try simp only [Act.put, List.setIfInBounds_toArray, List.set_cons_zero, List.set_cons_succ]
                refine' wpAnyH_take (i := 9) (oi := ⟨_, _, _, _, _, _⟩) (v := _) rfl (by kernel_rfl) (by kernel_rfl) (by kernel_rfl) (fun _ _ _ h => h) (Or.inl ⟨by rfl, ?hy9⟩) (by assumption) ?rest9
                case hy9 => (intro w hSw; (try dsimp only at hSw); go_simp; try with_reducible rfl)
                try simp only [Act.put, List.setIfInBounds_toArray, List.set_cons_zero, List.set_cons_succ]
                refine' wpAnyH_take (i := 10) (oi := ⟨_, _, _, _, _, _⟩) (v := _) rfl (by kernel_rfl) (by kernel_rfl) (by kernel_rfl) (fun _ _ _ h => h) (Or.inl ⟨by rfl, ?hy10⟩) (by assumption) ?rest10
                case hy10 => (intro w hSw; (try dsimp only at hSw); go_simp; try with_reducible rfl)
                try simp only [Act.put, List.setIfInBounds_toArray, List.set_cons_zero, List.set_cons_succ]
                refine wpAnyH_done (by kernel_rfl) ?_ _
                change wpList _ _ _ _ _ _
                go_wp2_with fail
                have PB := Lib.hid (PA.out.below (Below.refl _ _).drew)
                refine (Code_calls B h y cd _ v' _ PB.out.wr (by omega) (by omega) (by rw [List.length_append]; omega) (by simp; omega)).mono ?_
                rintro e w9 ⟨v9, rfl, hw9, hs9⟩
                have P9 := Lib.hid (PB.out.step hw9 hs9 hgB hBh)
                have HC9 := Lib.hid (hs9.row PB.out.wr (own_below HCA.out (Below.refl _ _).drew) (by decide) (by decide))
                have hfresh := P.out.wr.fresh (rfl : (some ⟨wr.heap.size, 0, none⟩ : Option Addr) = some ⟨wr.heap.size, 0, none⟩)
                have hS : ∀ o ∈ [some h, v'.ownBlock], o ≠ some wr.heap.size := fun o ho e => by
                  simp at ho
                  rcases ho with rfl | rfl
                  · cases e; exact hfresh.1 rfl
                  · exact hfresh.2 e
                have q1 := hs9.fr.kept (kept_cell (Below.refl _ _).drew N1.out) hS
                have q2 := hs9.fr.kept (kept_cell (Below.refl _ _).drew N2.out) hS
                have hsz9 := hs9.fr.size
                simp at hsz9
                clear hw9 hs9 hS hfresh n0 zl2 zc2 hHeld
                go_wp2_with fail
                refine (Put_calls B h bI _ v9 (some ⟨w9.heap.size, 0, none⟩) 1 1 [(eI : Int)] _ (P9.out.wr.below ((Below.refl _ _).alloc (Nat.le_refl _) _)) (Blk.rd (heap_alloc_new w9 _) rfl) (fun j hj => ?_) (by omega) (fun b o e => P9.out.wr.fresh e) (by rw [List.length_append, List.length_append, hiOf_length]; omega) (by simp; omega)).mono ?_
                · obtain rfl : j = 0 := by omega
                  show 0 ≤ (eI : Int) ∧ (eI : Int) < _; omega
                rintro e w10 ⟨v10, rfl, hw10, hs10⟩
                rw [lows_one] at hw10
                have hb10 : Below w9.heap.size w9 (w9.alloc (.cells #[.int .u64 eI] 24)) := (Below.refl _ _).alloc (Nat.le_refl _) _
                have P10 := Lib.hid ((P9.out.below hb10).step hw10 hs10 hgB hBh)
                have HC10 := Lib.hid (hs10.row (P9.out.wr.below hb10) (own_below HC9.out hb10) (by decide) (by decide))
                have hsz10 := hs10.fr.size
                simp at hsz10
                clear hw10 hs10 hb10
                go_wp2
                go_roundw
                case rel => exact ⟨k + 1, v10, by omega, by go_num, by omega, by rw [Hsucc.out, ← List.append_assoc, ← List.append_assoc]; exact P10.out, HC10.out⟩
                case measure => simp [intOf]; omega
              · obtain rfl : k = its.length := by omega
                have eP : L ++ putS xs ys = L2 ++ bitsIt ls its its.length := by
                  unfold putS manyOf headS
                  rw [← Hits.out, ← Hls.out, hxl.out, hyl.out, ← Ha.out, ← Hb.out, ← Hmv.out, HL2.out, HL1.out, Ha'.out, Hb'.out, Hm'.out]
                  simp only [List.append_assoc]
                have EP := Lib.hid eP
                clear eP
                go_wp2
                go_end0
                exact ⟨v', rfl, by rw [EP.out]; exact P.out.wr, P.out.st⟩
end Go.Proofs.YtempgkglhgelkaaDoor
/-
  The walk of the document's Press (inkwellref08): the same items.
-/
namespace Go.Proofs.YtempgkglhgelkaaDoor
open Go.RowKit

theorem elItemR : ElT Tryd.prog 103 105 (.agg #[.int .i64 0, .int .i64 0, .int .u64 0]) 3 24 := ⟨Tryd.underlying103, by kernel_rfl, rfl, by decide, by decide⟩

set_option maxHeartbeats 4000000 in
set_option maxRecDepth 200000 in
theorem refPress_calls (A : Option Addr) (n cap : Nat) (xs : List Int) (w : World) (hR : Rd w .i64 A n xs) (hn : n ≤ 1000000) (hp : ∀ j, j < n → 0 ≤ rd xs j) :
    Calls Tryd.prog 55 #[.slice A n cap] w fun e w' => ∃ v, e = .returned v ∧ w'.ownsRow w.heap.size 105 3 v (items xs).length (itemCells (items xs)) ∧ Below w.heap.size w w' := by
  have Hlen := Lib.hid hR.1
  have HR := Lib.hid hR
  have Hp := Lib.hid hp
  clear hR hp
  go_enter Tryd.func55, Tryd.ntmps55
  go_wp2
  go_loopw [3, 4] (fun v i wr => ∃ (k : Nat) (pre : List Item), k ≤ n ∧ i = .int .i64 k ∧ pre.length ≤ k ∧ wr.ownsRow w.heap.size 105 3 v pre.length (itemCells pre) ∧ Hid (items xs = pre ++ itemsFrom xs xs.length k) ∧ Below w.heap.size w wr) (fun _ i _ => n - (intOf i).toNat)
  case atStart => exact ⟨0, [], by omega, rfl, by simp, World.ownsRow_nil _ _ _ _, rfl, Below.refl _ _⟩
  case round =>
    obtain ⟨k, pre, hk, rfl, hpre, hown, Hit, hbel⟩ := hrel
    have Hbel := Lib.hid hbel
    have Hown := Lib.hid hown
    have hsz := hbel.size
    clear hbel hown
    by_cases hlt : k < n
    · obtain ⟨b, o, rfl, hc⟩ := HR.out.2 (by omega)
      have Hc := Lib.hid hc
      clear hc
      obtain ⟨wo, rfl⟩ : ∃ wo : World, wo = wr := ⟨_, rfl⟩
      go_upto_block 2 with fail
      go_cut [5, 6] from 12 to 30 (fun v i wx => v = .int .i64 (runLen xs k) ∧ Below wo.heap.size wo wx)
      case first =>
       go_wp2
       go_loopw [5, 6] (fun v i wr => ∃ (m : Nat), k + m ≤ n ∧ v = .int .i64 m ∧ i = .int .i64 (k + m) ∧ Hid (∀ j, j < m → rd xs (k + j) = rd xs k) ∧ Below wo.heap.size wo wr) (fun _ i _ => n - (intOf i).toNat)
       case atStart => exact ⟨0, by omega, rfl, by simp, (fun j hj => by omega), Below.refl _ _⟩
       case round =>
         obtain ⟨m, hm, rfl, rfl, Hall, hbi⟩ := hrel
         have Hbi := Lib.hid hbi
         have Hw := Lib.hid (below_seq Hbel.out (Nat.le_refl _) hbi)
         have z0 := kept_cell Hw.out (Hc.out k hlt)
         have hsz2 := hbi.size
         clear hbi
         have s1 : ((k : Int) + m).toNat = k + m := by omega
         have s3 : 0 ≤ (k : Int) + m := by omega
         by_cases hlt2 : k + m < n
         · have z1 := kept_cell Hw.out (Hc.out (k + m) hlt2)
           have s4 : decide ((k : Int) + m < n) = true := by simp; omega
           have s5 : (k : Int) + m < n := by omega
           cases he : (rd xs (k + m) == rd xs k)
           · have hrun : runLen xs k = m := runLen_of m (by rw [Hlen.out]; omega) Hall.out (.inr (by simpa using he))
             go_wp2
             go_quiet (fail)
             (go_wp2; go_meet; exact ⟨by rw [hrun], Hbi.out.trans ⟨rfl, rfl, rfl, Nat.le_refl _, fun _ _ => rfl⟩⟩)
           · go_wp2
             go_quiet (fail)
             go_wp2
             go_roundw
             case rel =>
               refine ⟨m + 1, by omega, by go_num, by go_num, ?_, Hbi.out.trans ⟨rfl, rfl, rfl, Nat.le_refl _, fun _ _ => rfl⟩⟩
               intro j hj
               rcases Nat.lt_or_ge j m with h | h
               · exact Hall.out j h
               · rw [show j = m from by omega]; simpa using he
             case measure => simp [intOf]; omega
         · have s4 : decide ((k : Int) + m < n) = false := by simp; omega
           have hrun : runLen xs k = m := runLen_of m (by rw [Hlen.out]; omega) Hall.out (.inl (by rw [Hlen.out]; omega))
           go_wp2
           go_quiet (fail)
           (go_wp2; go_meet; exact ⟨by rw [hrun], Hbi.out.trans ⟨rfl, rfl, rfl, Nat.le_refl _, fun _ _ => rfl⟩⟩)
      case rest =>
       obtain ⟨rfl, hbx⟩ := hcut
       have hrp := runLen_pos (xs := xs) (i := k) (by rw [Hlen.out]; exact hlt)
       rw [Hlen.out] at hrp
       have Hown1 := Lib.hid (own_below Hown.out hbx)
       have Hbel1 := Lib.hid (below_seq Hbel.out (Nat.le_refl _) hbx)
       have hsz1 := Hbel1.out.size
       have z1 := kept_cell Hbel1.out (Hc.out k hlt)
       have Z0 := Lib.hid (fun h : 0 < k => kept_cell Hbel1.out (Hc.out (k - 1) (by omega)))
       have hpos := Hp.out k hlt
       clear hbx
       by_cases h0 : rd xs k = 0
       · have t1 : (rd xs k == 0) = true := by simpa using h0
         have H0 := Lib.hid h0
         by_cases h1 : 11 ≤ runLen xs k
         · by_cases h2 : 138 < runLen xs k
           · go_wp2_with (first | (at_builtin; refine wpList_app2 rfl _ _ rfl elItemR Hown1.out rfl rfl (by simp) rfl rfl (by omega) (by first | omega | (simp; omega)) ?_; intro v' w' hown' hbel' _))
             go_roundw
             case rel =>
               refine ⟨k + 138, pre ++ [⟨18, 7, 127⟩], by omega, by go_num, by simp; omega, ?_, ?_, Hbel1.out.trans hbel'⟩
               · rw [List.length_append, itemCells_append]; exact hown'
               · exact items_next (by rw [Hlen.out]; exact hlt) Hit.out (by rw [itemAt_18 H0.out h1, Nat.min_eq_right (by omega)]; rfl)
             case measure => simp [intOf]; omega
           · go_wp2_with (first | (at_builtin; refine wpList_app2 rfl _ _ rfl elItemR Hown1.out rfl rfl (by simp) rfl rfl (by omega) (by first | omega | (simp; omega)) ?_; intro v' w' hown' hbel' _))
             go_roundw
             case rel =>
               refine ⟨k + runLen xs k, pre ++ [⟨18, 7, (runLen xs k : Nat) - 11⟩], by omega, by go_num, by simp; omega, ?_, ?_, Hbel1.out.trans hbel'⟩
               · rw [List.length_append, itemCells_append]; exact hown'
               · exact items_next (by rw [Hlen.out]; exact hlt) Hit.out (by rw [itemAt_18 H0.out h1, Nat.min_eq_left (by omega)])
             case measure => simp [intOf]; omega
         · by_cases h2 : 3 ≤ runLen xs k
           · go_wp2_with (first | (at_builtin; refine wpList_app2 rfl _ _ rfl elItemR Hown1.out rfl rfl (by simp) rfl rfl (by omega) (by first | omega | (simp; omega)) ?_; intro v' w' hown' hbel' _))
             go_roundw
             case rel =>
               refine ⟨k + runLen xs k, pre ++ [⟨17, 3, (runLen xs k : Nat) - 3⟩], by omega, by go_num, by simp; omega, ?_, ?_, Hbel1.out.trans hbel'⟩
               · rw [List.length_append, itemCells_append]; exact hown'
               · exact items_next (by rw [Hlen.out]; exact hlt) Hit.out (itemAt_17 H0.out h2 (by omega))
             case measure => simp [intOf]; omega
           · have t2 : decide (0 < rd xs k) = false := by simp; omega
             clear h0
             go_wp2
             go_quiet (fail)
             go_wp2_with (first | (at_builtin; refine wpList_app2 rfl _ _ rfl elItemR (wr := wc.drewN _) Hown1.out rfl rfl (by simp) rfl rfl (by omega) (by first | omega | (simp; omega)) ?_; intro v' w' hown' hbel' _))
             go_roundw
             case rel =>
               refine ⟨k + 1, pre ++ [⟨rd xs k, 0, 0⟩], by omega, by go_num, by simp; omega, ?_, ?_, (below_seq Hbel1.out (Nat.le_refl _) ⟨rfl, rfl, rfl, Nat.le_refl _, fun _ _ => rfl⟩ : Below w.heap.size w (wc.drewN _)).trans hbel'⟩
               · rw [List.length_append, itemCells_append]; exact hown'
               · exact items_next (by rw [Hlen.out]; exact hlt) Hit.out (itemAt_one (.inl ⟨H0.out, by omega⟩))
             case measure => simp [intOf]; omega
       · have t1 : (rd xs k == 0) = false := by simpa using h0
         have t2 : decide (0 < rd xs k) = true := by simp; omega
         have H0 := Lib.hid h0
         clear h0
         by_cases hk0 : 0 < k
         · have z0 := Z0.out hk0
           have s1 : IntKind.i64.wrap ((k : Int) - 1) = k - 1 := IntWalk.i64_in _ (by omega)
           have s2 : ((k : Int) - 1).toNat = k - 1 := by omega
           have s3 : 0 ≤ (k : Int) - 1 := by omega
           have s4 : (k : Int) - 1 < n := by omega
           have t3 : decide (0 < (k : Int)) = true := by simp; omega
           cases t4 : (rd xs k == rd xs (k - 1))
           · go_wp2
             go_quiet (fail)
             go_wp2_with (first | (at_builtin; refine wpList_app2 rfl _ _ rfl elItemR (wr := wc.drewN _) Hown1.out rfl rfl (by simp) rfl rfl (by omega) (by first | omega | (simp; omega)) ?_; intro v' w' hown' hbel' _))
             go_roundw
             case rel =>
               refine ⟨k + 1, pre ++ [⟨rd xs k, 0, 0⟩], by omega, by go_num, by simp; omega, ?_, ?_, (below_seq Hbel1.out (Nat.le_refl _) ⟨rfl, rfl, rfl, Nat.le_refl _, fun _ _ => rfl⟩ : Below w.heap.size w (wc.drewN _)).trans hbel'⟩
               · rw [List.length_append, itemCells_append]; exact hown'
               · exact items_next (by rw [Hlen.out]; exact hlt) Hit.out (itemAt_one (.inr ⟨H0.out, .inr (.inl (fun e => by rw [e] at t4; simp at t4))⟩))
             case measure => simp [intOf]; omega
           · by_cases h3 : 3 ≤ runLen xs k
             · have t5 : decide (2 < (runLen xs k : Int)) = true := by simp; omega
               by_cases h6 : 6 < runLen xs k
               · go_wp2
                 go_quiet (fail)
                 go_wp2_with (first | (at_builtin; refine wpList_app2 rfl _ _ rfl elItemR (wr := wc.drewN _) Hown1.out rfl rfl (by simp) rfl rfl (by omega) (by first | omega | (simp; omega)) ?_; intro v' w' hown' hbel' _))
                 go_roundw
                 case rel =>
                   refine ⟨k + 6, pre ++ [⟨16, 2, 3⟩], by omega, by go_num, by simp; omega, ?_, ?_, (below_seq Hbel1.out (Nat.le_refl _) ⟨rfl, rfl, rfl, Nat.le_refl _, fun _ _ => rfl⟩ : Below w.heap.size w (wc.drewN _)).trans hbel'⟩
                   · rw [List.length_append, itemCells_append]; exact hown'
                   · exact items_next (by rw [Hlen.out]; exact hlt) Hit.out (by rw [itemAt_16 H0.out hk0 (by simpa using (eq_of_beq t4).symm) h3, Nat.min_eq_right (by omega)]; rfl)
                 case measure => simp [intOf]; omega
               · go_wp2
                 go_quiet (fail)
                 go_wp2_with (first | (at_builtin; refine wpList_app2 rfl _ _ rfl elItemR (wr := wc.drewN _) Hown1.out rfl rfl (by simp) rfl rfl (by omega) (by first | omega | (simp; omega)) ?_; intro v' w' hown' hbel' _))
                 go_roundw
                 case rel =>
                   refine ⟨k + runLen xs k, pre ++ [⟨16, 2, (runLen xs k : Nat) - 3⟩], by omega, by go_num, by simp; omega, ?_, ?_, (below_seq Hbel1.out (Nat.le_refl _) ⟨rfl, rfl, rfl, Nat.le_refl _, fun _ _ => rfl⟩ : Below w.heap.size w (wc.drewN _)).trans hbel'⟩
                   · rw [List.length_append, itemCells_append]; exact hown'
                   · exact items_next (by rw [Hlen.out]; exact hlt) Hit.out (by rw [itemAt_16 H0.out hk0 (by simpa using (eq_of_beq t4).symm) h3, Nat.min_eq_left (by omega)])
                 case measure => simp [intOf]; omega
             · have t5 : decide (2 < (runLen xs k : Int)) = false := by simp; omega
               go_wp2
               go_quiet (fail)
               go_wp2_with (first | (at_builtin; refine wpList_app2 rfl _ _ rfl elItemR (wr := wc.drewN _) Hown1.out rfl rfl (by simp) rfl rfl (by omega) (by first | omega | (simp; omega)) ?_; intro v' w' hown' hbel' _))
               go_roundw
               case rel =>
                 refine ⟨k + 1, pre ++ [⟨rd xs k, 0, 0⟩], by omega, by go_num, by simp; omega, ?_, ?_, (below_seq Hbel1.out (Nat.le_refl _) ⟨rfl, rfl, rfl, Nat.le_refl _, fun _ _ => rfl⟩ : Below w.heap.size w (wc.drewN _)).trans hbel'⟩
                 · rw [List.length_append, itemCells_append]; exact hown'
                 · exact items_next (by rw [Hlen.out]; exact hlt) Hit.out (itemAt_one (.inr ⟨H0.out, .inr (.inr (by omega))⟩))
               case measure => simp [intOf]; omega
         · have t3 : decide (0 < (k : Int)) = false := by simp; omega
           go_wp2
           go_quiet (fail)
           go_wp2_with (first | (at_builtin; refine wpList_app2 rfl _ _ rfl elItemR (wr := wc.drewN _) Hown1.out rfl rfl (by simp) rfl rfl (by omega) (by first | omega | (simp; omega)) ?_; intro v' w' hown' hbel' _))
           go_roundw
           case rel =>
             refine ⟨k + 1, pre ++ [⟨rd xs k, 0, 0⟩], by omega, by go_num, by simp; omega, ?_, ?_, (below_seq Hbel1.out (Nat.le_refl _) ⟨rfl, rfl, rfl, Nat.le_refl _, fun _ _ => rfl⟩ : Below w.heap.size w (wc.drewN _)).trans hbel'⟩
             · rw [List.length_append, itemCells_append]; exact hown'
             · exact items_next (by rw [Hlen.out]; exact hlt) Hit.out (itemAt_one (.inr ⟨H0.out, .inl (by omega)⟩))
           case measure => simp [intOf]; omega
    · obtain rfl : k = n := by omega
      go_wp2
      go_ret
      have e : items xs = pre := by rw [Hit.out, itemsFrom_end xs _ _ (by rw [Hlen.out]; exact Nat.le_refl _), List.append_nil]
      rw [e]
      exact ⟨_, rfl, Hown.out, Hbel.out⟩
#print axioms refPress_calls
end Go.Proofs.YtempgkglhgelkaaDoor
/-
  Plain facts: the reference's loop over groups (no program).
-/
namespace Go.Proofs.YtempgkglhgelkaaDoor

/-- What is written of depths so far. -/
def OutOk (ws : List Int) (L : List HT) (out : List Int) : Prop := out.length = ws.length ∧ ∀ s, s < ws.length →
  (∀ k, depIn L s = some k → rd out s = ((if (leavesOf ws).length = 1 then 1 else k : Nat) : Int)) ∧ (depIn L s = none → rd out s = 0)
theorem OutOk.step {ws : List Int} {L : List HT} {out out' : List Int} (h : OutOk ws L out) (h1 : 1 < L.length) (hn : (L.flatMap HT.syms).Nodup) (hl : (leavesOf ws).length ≠ 1) {a b : HT} {rest : List HT} (hp : L.Perm (a :: b :: rest)) (he : hstep L = rest ++ [.node a b])
    (hlen : out'.length = ws.length) (ho : ∀ s, s < ws.length → rd out' s = rd out s + if s ∈ a.syms ++ b.syms then 1 else 0) : OutOk ws (hstep L) out' := by
  refine ⟨hlen, fun s hs => ?_⟩
  have hd := depIn_step h1 hn hp he s
  obtain ⟨q1, q2⟩ := h.2 s hs
  rw [hd, ho s hs]
  by_cases e : s ∈ a.syms ++ b.syms
  · rw [if_pos e, if_pos e]
    cases ed : depIn L s with
    | none =>
      exfalso
      rw [depIn_none] at ed
      apply ed
      rw [(hp.flatMap_right HT.syms).mem_iff]
      simp only [List.flatMap_cons, List.mem_append] at e ⊢
      rcases e with e | e
      · exact .inl e
      · exact .inr (.inl e)
    | some k =>
      refine ⟨fun k' hk' => ?_, fun h0 => by simp at h0⟩
      simp at hk'
      have := q1 k ed
      rw [if_neg hl] at this ⊢
      omega
  · rw [if_neg e, if_neg e]
    refine ⟨fun k hk => ?_, fun h0 => ?_⟩
    · have := q1 k hk; omega
    · have := q2 h0; omega
theorem OutOk.fin {ws : List Int} {root : HT} {out : List Int} (h : OutOk ws [root] out) (hr : rootOf ws = [root]) : out = onceM ws := by
  apply List.ext_getElem (by rw [h.1, onceM_length])
  intro s h1 h2
  have hs : s < ws.length := by have := h.1; omega
  obtain ⟨q1, q2⟩ := h.2 s hs
  rw [← rd_getElem h1]
  rw [← hr] at q1 q2
  cases e : depIn (rootOf ws) s with
  | none =>
    rw [q2 e]
    simp [onceM, e]
  | some k =>
    rw [q1 k e]
    have hv : (onceM ws)[s] = ((max k 1 : Nat) : Int) := by simp [onceM, e]
    rw [hv]
    have hk := (depIn_mem (rootOf_nodup ws) s k).1 e
    rw [hr] at hk
    have hk' : (s, k) ∈ root.dep := by simpa using hk
    have hsy : root.syms.length = (leavesOf ws).length := by
      have := (rootOf_syms ws).length_eq
      rw [hr, ← leavesOf_length] at this
      simpa using this
    cases hrt : root with
    | leaf w s' =>
      rw [hrt] at hk' hsy
      simp [HT.dep] at hk'
      have : (leavesOf ws).length = 1 := by rw [← hsy]; rfl
      rw [if_pos this, hk'.2]
      rfl
    | node l r =>
      rw [hrt] at hk' hsy
      have h1 : 1 ≤ k := by
        simp only [HT.dep, List.mem_map] at hk'
        obtain ⟨q, _, e2⟩ := hk'
        simp at e2
        omega
      have hne : ∀ t : HT, 1 ≤ t.syms.length := by
        intro t
        induction t with
        | leaf w s => simp [HT.syms]
        | node a b ia ib => simp only [HT.syms, List.length_append]; omega
      have : (leavesOf ws).length ≠ 1 := by
        rw [← hsy]
        have := hne l
        have := hne r
        simp only [HT.syms, List.length_append]
        omega
      rw [if_neg this, Nat.max_eq_left h1]
theorem syms_pos (t : HT) : 1 ≤ t.syms.length := by
  induction t with
  | leaf w s => simp [HT.syms]
  | node a b ia ib => simp only [HT.syms, List.length_append]; omega
theorem leaves_dep (ws : List Int) (k : Nat) : ∀ p ∈ (leavesTo ws k).flatMap HT.dep, p.2 = 0 := by
  intro p hp
  obtain ⟨t, ht, hpt⟩ := List.mem_flatMap.1 hp
  obtain ⟨s, _, _, rfl⟩ := mem_leavesTo ht
  simp [HT.dep] at hpt
  rw [hpt]
theorem leaves_nodup (ws : List Int) (k : Nat) : ((leavesTo ws k).flatMap HT.syms).Nodup := by rw [leavesTo_syms]; exact posTo_nodup ws k
theorem OutOk.start (ws : List Int) (hl : (leavesOf ws).length ≠ 1) : OutOk ws (leavesOf ws) (List.replicate ws.length 0) := by
  refine ⟨by simp, fun s hs => ⟨fun k hk => ?_, fun _ => rd_zeros _ _⟩⟩
  have h1 := (depIn_mem (leaves_nodup ws ws.length) s k).1 hk
  have h2 := leaves_dep ws ws.length _ h1
  simp at h2
  rw [rd_zeros, if_neg hl, h2]
  rfl
theorem OutOk.one (ws : List Int) (s0 : Nat) (w0 : Int) (hs0 : s0 < ws.length) (hl : leavesOf ws = [.leaf w0 s0]) : OutOk ws (leavesOf ws) ((List.replicate ws.length 0).set s0 1) := by
  refine ⟨by simp, fun s hs => ?_⟩
  have hd : depIn (leavesOf ws) s = if s = s0 then some 0 else none := by
    rw [hl]
    unfold depIn
    simp only [List.flatMap_cons, List.flatMap_nil, HT.dep, List.append_nil, List.lookup_cons, List.lookup_nil]
    by_cases e : s = s0
    · subst e; simp
    · have : (s == s0) = false := by simpa using e
      rw [this, if_neg e]
  rw [hd, rd_set (by simpa using hs0), rd_zeros]
  by_cases e : s = s0
  · rw [if_pos e, if_pos e.symm]
    refine ⟨fun k _ => ?_, fun h => by cases h⟩
    rw [if_pos (show (leavesOf ws).length = 1 by rw [hl]; rfl)]
    rfl
  · rw [if_neg e, if_neg (Ne.symm e)]
    exact ⟨fun k hk => (by cases hk), fun _ => rfl⟩
/-! ### places -/
def wtAt (L : List HT) (j : Nat) : Int := (L.getD j default).wt
theorem rd_wts (L : List HT) (j : Nat) (h : j < L.length) : rd (L.map HT.wt) j = wtAt L j := by
  unfold wtAt
  rw [rd_getElem (by simpa using h), List.getD_eq_getElem?_getD, List.getElem?_eq_getElem h]
  simp
theorem hA_of {L : List HT} {a : Nat} (ha : a < L.length) (h1 : ∀ j, j < L.length → wtAt L a ≤ wtAt L j) (h2 : ∀ j, j < a → wtAt L a < wtAt L j) : a = hA L := by
  refine minPos_unique (by simpa using ha) (fun j hj => ?_) (fun j hj => ?_)
  · simp only [List.length_map] at hj
    rw [rd_wts L a ha, rd_wts L j hj]
    exact h1 j hj
  · rw [rd_wts L a ha, rd_wts L j (by omega)]
    exact h2 j hj
theorem getD_erase (L : List HT) (a j : Nat) : (L.eraseIdx a).getD j default = L.getD (if j < a then j else j + 1) default := by
  rw [List.getD_eq_getElem?_getD, List.getD_eq_getElem?_getD, List.getElem?_eraseIdx]
  split <;> rfl
theorem hB_of {L : List HT} {a q : Nat} (haL : a = hA L) (ha : a < L.length) (hq : q < L.length) (hqa : q ≠ a) (h1 : ∀ j, j < L.length → j ≠ a → wtAt L q ≤ wtAt L j) (h2 : ∀ j, j < q → j ≠ a → wtAt L q < wtAt L j) :
    hB L = (if q < a then q else q - 1) ∧ (L.eraseIdx (hA L)).getD (hB L) default = L.getD q default := by
  have hl : (L.eraseIdx a).length = L.length - 1 := List.length_eraseIdx_of_lt ha
  have hw : ∀ j, j < L.length - 1 → wtAt (L.eraseIdx a) j = wtAt L (if j < a then j else j + 1) := fun j hj => by
    unfold wtAt
    rw [getD_erase L a j]
  have hb : (if q < a then q else q - 1) < L.length - 1 := by split <;> omega
  have hback : (if (if q < a then q else q - 1) < a then (if q < a then q else q - 1) else (if q < a then q else q - 1) + 1) = q := by
    by_cases e : q < a
    · rw [if_pos e, if_pos e]
    · rw [if_neg e, if_neg (by omega)]; omega
  have e1 : (if q < a then q else q - 1) = hB L := by
    unfold hB
    rw [← haL]
    refine minPos_unique (by simp [hl]; exact hb) (fun j hj => ?_) (fun j hj => ?_)
    · simp only [List.length_map] at hj
      rw [rd_wts _ _ (by omega), rd_wts _ j hj, hw _ hb, hw j (by omega), hback]
      refine h1 _ (by split <;> omega) (by split <;> omega)
    · rw [rd_wts _ _ (by omega), rd_wts _ j (by omega), hw _ hb, hw j (by omega), hback]
      by_cases e : q < a
      · rw [if_pos e] at hj
        rw [if_pos (by omega)]
        exact h2 j hj (by omega)
      · rw [if_neg e] at hj
        refine h2 _ ?_ ?_
        · split <;> omega
        · split <;> omega
  refine ⟨e1.symm, ?_⟩
  rw [← haL, ← e1, getD_erase L a _, hback]
/-- All but two of the first i. -/
def restTo (L : List HT) (a q : Nat) : Nat → List HT
  | 0 => []
  | i + 1 => if i = a ∨ i = q then restTo L a q i else restTo L a q i ++ [L.getD i default]
theorem restTo_len (L : List HT) (a q : Nat) : ∀ i, (restTo L a q i).length ≤ i
  | 0 => by simp [restTo]
  | i + 1 => by
    have := restTo_len L a q i
    unfold restTo
    split
    · omega
    · simp; omega
theorem restTo_take {L : List HT} {a q : Nat} (ha : a < L.length) (hq : q < L.length) (hqa : q ≠ a) : ∀ i, i ≤ L.length →
    restTo L a q i = ((L.eraseIdx a).eraseIdx (if q < a then q else q - 1)).take (i - (if a < i then 1 else 0) - (if q < i then 1 else 0))
  | 0, _ => by simp [restTo]
  | i + 1, hi => by
    have ih := restTo_take ha hq hqa i (by omega)
    have hl : (L.eraseIdx a).length = L.length - 1 := List.length_eraseIdx_of_lt ha
    have hb : (if q < a then q else q - 1) < L.length - 1 := by split <;> omega
    have hl2 : ((L.eraseIdx a).eraseIdx (if q < a then q else q - 1)).length = L.length - 2 := by rw [List.length_eraseIdx_of_lt (by omega)]; omega
    unfold restTo
    by_cases e : i = a ∨ i = q
    · rw [if_pos e, ih]
      congr 1
      rcases e with e | e
      · subst e
        by_cases g : q < i
        · rw [if_neg (by omega), if_pos g, if_pos (by omega), if_pos (by omega)]; omega
        · rw [if_neg (by omega), if_neg g, if_pos (by omega), if_neg (by omega)]; omega
      · subst e
        by_cases g : a < i
        · rw [if_pos g, if_neg (by omega), if_pos (by omega), if_pos (by omega)]; omega
        · rw [if_neg g, if_neg (by omega), if_neg (by omega), if_pos (by omega)]; omega
    · rw [if_neg e, ih]
      have ea : (if a < i + 1 then 1 else 0) = (if a < i then 1 else 0) := by
        by_cases g : a < i
        · rw [if_pos g, if_pos (by omega)]
        · rw [if_neg g, if_neg (by omega)]
      have eq : (if q < i + 1 then 1 else 0) = (if q < i then 1 else 0) := by
        by_cases g : q < i
        · rw [if_pos g, if_pos (by omega)]
        · rw [if_neg g, if_neg (by omega)]
      rw [ea, eq]
      have hc : i + 1 - (if a < i then 1 else 0) - (if q < i then 1 else 0) = (i - (if a < i then 1 else 0) - (if q < i then 1 else 0)) + 1 := by
        by_cases g1 : a < i <;> by_cases g2 : q < i <;> simp [g1, g2] <;> omega
      rw [hc]
      have hlt : i - (if a < i then 1 else 0) - (if q < i then 1 else 0) < ((L.eraseIdx a).eraseIdx (if q < a then q else q - 1)).length := by
        rw [hl2]
        by_cases g1 : a < i <;> by_cases g2 : q < i <;> simp [g1, g2] <;> omega
      rw [List.take_succ_eq_append_getElem hlt]
      congr 1
      congr 1
      have h5 : ((L.eraseIdx a).eraseIdx (if q < a then q else q - 1))[i - (if a < i then 1 else 0) - (if q < i then 1 else 0)]? = L[i]? := by
        by_cases g1 : a < i <;> by_cases g2 : q < i <;> by_cases g3 : q < a
        all_goals simp only [g1, g2, g3, if_true, if_false]
        all_goals
          first
          | (exfalso; omega)
          | (rw [List.getElem?_eraseIdx]
             (first | rw [if_pos (by omega)] | rw [if_neg (by omega)])
             rw [List.getElem?_eraseIdx]
             (first | rw [if_pos (by omega)] | rw [if_neg (by omega)])
             first | rfl | (congr 1; omega))
      rw [List.getElem?_eq_getElem hlt, List.getElem?_eq_getElem (by omega)] at h5
      rw [List.getD_eq_getElem?_getD, List.getElem?_eq_getElem (by omega), Option.getD_some]
      exact (Option.some.inj h5).symm
theorem restTo_all {L : List HT} {a q : Nat} (ha : a < L.length) (hq : q < L.length) (hqa : q ≠ a) : restTo L a q L.length = (L.eraseIdx a).eraseIdx (if q < a then q else q - 1) := by
  have hl : (L.eraseIdx a).length = L.length - 1 := List.length_eraseIdx_of_lt ha
  have hb : (if q < a then q else q - 1) < L.length - 1 := by split <;> omega
  rw [restTo_take ha hq hqa L.length (Nat.le_refl _), if_pos ha, if_pos hq]
  apply List.take_of_length_le
  rw [List.length_eraseIdx_of_lt (by omega)]
  omega
end Go.Proofs.YtempgkglhgelkaaDoor
