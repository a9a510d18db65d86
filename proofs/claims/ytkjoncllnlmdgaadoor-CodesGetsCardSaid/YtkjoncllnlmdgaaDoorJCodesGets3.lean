/-
  Texts joined into one file: HuffN, BitsP, Bits, HuffX, RdA, NextP.
-/
import Derived.Test.YtkjoncllnlmdgaaDoorJCodesGets2
import Derived.Deep.RegionWith
import Derived.Deep.Cut
import Derived.Deep.CutRange
import Derived.Deep.CutBlock
import Derived.BigRegion
import Derived.OneCell
import Derived.IntWalk
import Derived.WalkSmall
import Derived.Laws.Bits64b
import Derived.BigQuiet
import Derived.Deep.RegionHeld3
import Derived.Test.YtkjoncllnlmdgaaDoorJCodesGets1
/-
  The walk of New.
-/
namespace Go.Proofs.YtkjoncllnlmdgaaDoor
open Go.RowKit

/-- A coder: 48 numbers, and a slice. -/
def CoderAt (w : World) (h : Nat) (m : List Int) (v : Value) : Prop := w.heap[h]? = some (.cells (ints .i64 m ++ [v]).toArray 109 (0, 0))
theorem CoderAt.lt {w : World} {h : Nat} {m : List Int} {v : Value} (hc : CoderAt w h m v) : h < w.heap.size := (Array.getElem?_eq_some_iff.1 hc).1
theorem CoderAt.cell {w : World} {h : Nat} {m : List Int} {v : Value} (hc : CoderAt w h m v) {j : Nat} (hj : j < m.length) : w.cell? ⟨h, j, none⟩ = some (.int .i64 (rd m j)) := by
  rw [cell_of_row w h j _ _ (0, 0) hc, List.getElem?_toArray, List.getElem?_append_left (by rw [ints_length]; exact hj), ints_get hj]
theorem CoderAt.last {w : World} {h : Nat} {m : List Int} {v : Value} (hc : CoderAt w h m v) (hm : m.length = 48) : w.cell? ⟨h, 48, none⟩ = some v := by
  rw [cell_of_row w h 48 _ _ (0, 0) hc, List.getElem?_toArray, List.getElem?_append_right (by rw [ints_length]; omega), ints_length, hm]
  rfl
theorem CoderAt.frozen {w : World} {h : Nat} {m : List Int} {v : Value} (hc : CoderAt w h m v) (j : Nat) : w.frozen? ⟨h, j, none⟩ = false := frozen_of_row w h j _ _ hc
theorem CoderAt.set {w : World} {h : Nat} {m : List Int} {v : Value} (hc : CoderAt w h m v) {j : Nat} (hj : j < m.length) (x : Int) : CoderAt (w.setCell ⟨h, j, none⟩ (.int .i64 x)) h (m.set j x) v := by
  unfold CoderAt
  rw [heap_setCell_same w h j _ _ _ hc, ints_set]
  simp only [List.setIfInBounds_toArray]
  rw [List.set_append_left _ _ (by rw [ints_length]; exact hj)]
theorem CoderAt.setLast {w : World} {h : Nat} {m : List Int} {v : Value} (hc : CoderAt w h m v) (hm : m.length = 48) (u : Value) : CoderAt (w.setCell ⟨h, 48, none⟩ u) h m u := by
  unfold CoderAt
  rw [heap_setCell_same w h 48 _ _ _ hc]
  simp only [List.setIfInBounds_toArray]
  rw [List.set_append_right _ _ (by rw [ints_length]; omega), ints_length, hm]
  rfl
theorem CoderAt.other {w : World} {h : Nat} {m : List Int} {v : Value} (hc : CoderAt w h m v) (a : Addr) (u : Value) (hne : h ≠ a.block) : CoderAt (w.setCell a u) h m v := (heap_setCell_other w a h u hne).trans hc
theorem CoderAt.below {w w' : World} {h : Nat} {m : List Int} {v : Value} (hc : CoderAt w h m v) {B : Nat} (hb : Below B w w') (hB : h < B) : CoderAt w' h m v := (hb.block h hB).trans hc
theorem CoderAt.alloc {w : World} {h : Nat} {m : List Int} {v : Value} (hc : CoderAt w h m v) (o : Obj) : CoderAt (w.alloc o) h m v := (Below.heap_alloc _ _ _ hc.lt).trans hc
theorem own_ne {w : World} {h : Nat} {cells : Array Value} {T e : TypeId} {base n size : Nat} {v : Value} {xs : List Value} (hh : w.heap[h]? = some (.cells cells T (0, 0))) (hT : T ≠ e) (ho : w.ownsRow base e size v n xs) : v.ownBlock ≠ some h := by
  intro hb
  rcases ho.2 with ⟨rfl, _⟩ | ⟨g, cap, cur, rfl, _, hg, _⟩
  · simp [Value.ownBlock] at hb
  · simp [Value.ownBlock] at hb
    subst hb
    rw [hh] at hg
    simp at hg
    exact hT hg.2
def ofLen (xs : List Int) (k s : Nat) : List Int := ((List.range s).filter fun j => rd xs j == (k : Int)).map Int.ofNat
def symsTo (xs : List Int) : Nat → List Int
  | 0 => []
  | k + 1 => symsTo xs k ++ ofLen xs (k + 1) xs.length
theorem ofLen_le (xs : List Int) (k s : Nat) : (ofLen xs k s).length ≤ s := by
  unfold ofLen
  have := List.length_filter_le (fun j => rd xs j == (k : Int)) (List.range s)
  simpa using this
theorem ofLen_hit (xs : List Int) (k s : Nat) (h : rd xs s = k) : ofLen xs k (s + 1) = ofLen xs k s ++ [(s : Int)] := by
  unfold ofLen
  simp [List.range_succ, List.filter_append, h]
theorem ofLen_miss (xs : List Int) (k s : Nat) (h : rd xs s ≠ k) : ofLen xs k (s + 1) = ofLen xs k s := by
  unfold ofLen
  have : (rd xs s == (k : Int)) = false := by simpa using h
  simp [List.range_succ, List.filter_append, this]
theorem symsTo_le (xs : List Int) (k : Nat) : (symsTo xs k).length ≤ k * xs.length := by
  induction k with
  | zero => simp [symsTo]
  | succ k ih =>
    have h1 := ofLen_le xs (k + 1) xs.length
    simp only [symsTo, List.length_append, Nat.succ_mul]
    omega
theorem elIntN : ElT Tryd.prog 26 3 (.int .i64 0) 1 8 := ⟨Tryd.underlying26, by kernel_rfl, rfl, by decide, by decide⟩
/-- A coder of such lengths. -/
def Coder (w : World) (base h : Nat) (xs : List Int) : Prop :=
  ∃ (m : List Int) (v : Value), m.length = 48 ∧ base ≤ h ∧ CoderAt w h m v ∧ (∀ j, 0 < j → j ≤ 15 → rd m j = firstAt (cntOf xs) j ∧ rd m (16 + j) = rd (cntOf xs) j ∧ rd m (32 + j) = ((symsTo xs (j - 1)).length : Nat)) ∧ w.ownsRow base 3 1 v (symsTo xs 15).length (ints .i64 (symsTo xs 15))

set_option maxHeartbeats 2000000 in
set_option maxRecDepth 200000 in
theorem New_calls (A : Option Addr) (n cap : Nat) (xs : List Int) (w : World) (hR : Rd w .i64 A n xs) (hn : n ≤ 1000000) :
    Calls Tryd.prog 40 #[.slice A n cap] w fun e w' => (rightB xs = false ∧ e = .returned (.tuple #[.pointer none, .bool false]) ∨ rightB xs = true ∧ ∃ h, e = .returned (.tuple #[.pointer (some ⟨h, 0, none⟩), .bool true]) ∧ Coder w' w.heap.size h xs) ∧ Below w.heap.size w w' := by
  have HR := Lib.hid hR
  have hlen := Lib.hid hR.1
  clear hR
  cases hrt : rightB xs
  · go_enter Tryd.func40, Tryd.ntmps40
    go_wp2_with fail
    refine (Right_calls A n cap xs _ HR.out (by omega)).mono ?_
    rintro e w1 ⟨rfl, hb1⟩
    rw [hrt]
    have Hb1 := Lib.hid hb1
    clear hb1 hrt
    go_wp2
    refine bodyPost_ret (v := .tuple #[.pointer none, .bool false]) (by simp [results, Tryd.results40, go_sem]) rfl ⟨.inl ⟨trivial, rfl⟩, Hb1.out⟩
  · have hok : lensOk xs = true := by
      unfold rightB at hrt
      simp at hrt
      exact hrt.1
    have Hok := Lib.hid hok
    clear hok
    go_enter Tryd.func40, Tryd.ntmps40
    go_wp2_with fail
    refine (Right_calls A n cap xs _ HR.out (by omega)).mono ?_
    rintro e w1 ⟨rfl, hb1⟩
    rw [hrt]
    have Hb1 := Lib.hid hb1
    have hs1 := hb1.size
    clear hb1 hrt
    go_wp2_with fail
    refine (counts_calls A n cap xs _ (HR.out.below (below_new Hb1.out (Nat.le_refl _) _)) (by omega)).mono ?_
    rintro e w2 ⟨l, hl, rfl, hcnt, hb2⟩
    obtain rfl := hcnt Hok.out
    have Hl := Lib.hid hl
    have CA : Hid (CoderAt w2 w1.heap.size (List.replicate 48 0) (.slice none 0 0)) := CoderAt.below (m := List.replicate 48 0) (v := .slice none 0 0) (heap_alloc_new w1 _) hb2 (by simp)
    have Hb2 := Lib.hid (below_seq (below_new Hb1.out (Nat.le_refl _) _) (Nat.le_refl _) hb2)
    have hs2 := Hb2.out.size
    have hs12 : w1.heap.size < w2.heap.size := CA.out.lt
    have Hc := Lib.hid (rd_cntOf xs)
    clear hl hcnt hb2 Hb1
    generalize hcd : cntOf xs = c at *
    have Hcd := Lib.hid hcd
    clear hcd
    have W2 : Hid (∀ o, Below w2.heap.size w2 (World.setRow (w2.alloc o) w2.heap.size (ints .i64 c).toArray)) := fun o => (below_new (Below.refl _ _) (Nat.le_refl _) _).trans ⟨rfl, rfl, rfl, by simp, fun i hi => setRow_other _ w2.heap.size i _ (by omega)⟩
    go_wp2_with (first
      | (refine wpList_store_row rfl 107 _ _ rfl w2.heap.size _ rfl rfl 107 _ (heap_alloc_new _ _) (by rw [ints_size, Hl.out]; kernel_rfl) (by rw [ints_size, Hl.out]; rfl) (ints_one _ _) ?_)
      | (refine wpList_load_row rfl 107 _ rfl w2.heap.size rfl 107 _ (0, 0) _ (setRow_heap _ w2.heap.size _ _ 107 _ (heap_alloc_new _ _)) Tryd.underlying107 rfl (by rw [ints_size, Hl.out]; kernel_rfl) ?_))
    have NB2 : Hid (∀ old, Blk (World.setRow (w2.alloc (.cells old 107)) w2.heap.size (ints .i64 c).toArray) w2.heap.size 107 .i64 c) := fun old => setRow_heap _ w2.heap.size _ _ 107 _ (heap_alloc_new w2 (Obj.cells old 107))
    refine (firsts_calls c n _ Hl.out hn (by have := Hc.out; rw [hlen.out] at this; exact this)).mono ?_
    rintro e w3 ⟨rfl, hb3⟩
    have hb23 : Below w2.heap.size w2 w3 := below_seq (W2.out _) (Nat.le_refl _) hb3
    have CA3 := Lib.hid (CA.out.below hb23 hs12)
    have NB3 := Lib.hid ((NB2.out _).below hb3 (by simp))
    have Hb3 := Lib.hid (below_seq Hb2.out (Nat.le_refl _) hb23)
    have hs3 : w2.heap.size < w3.heap.size := NB3.out.lt
    have Fl := Lib.hid (firstsOf_length c)
    have W4 : Hid (∀ o, Below w3.heap.size w3 (World.setRow (w3.alloc o) w3.heap.size (ints .u64 (firstsOf c)).toArray)) := fun o => (below_new (Below.refl _ _) (Nat.le_refl _) _).trans ⟨rfl, rfl, rfl, by simp, fun i hi => setRow_other _ w3.heap.size i _ (by omega)⟩
    have FB4 : Hid (∀ old, Blk (World.setRow (w3.alloc (.cells old 112)) w3.heap.size (ints .u64 (firstsOf c)).toArray) w3.heap.size 112 .u64 (firstsOf c)) := fun old => setRow_heap _ w3.heap.size _ _ 112 _ (heap_alloc_new w3 (Obj.cells old 112))
    clear hb3 hb23 W2 NB2 CA
    go_wp2_with (first
      | (refine wpList_store_row rfl 112 _ _ rfl w3.heap.size _ rfl rfl 112 _ (heap_alloc_new _ _) (by rw [ints_size, Fl.out]; kernel_rfl) (by rw [ints_size, Fl.out]; rfl) (ints_one _ _) ?_))
    go_loopw [8] (fun i wr => ∃ (k : Nat) (m : List Int) (v : Value), k ≤ 15 ∧ i = .int .i64 (1 + k) ∧ m.length = 48 ∧ CoderAt wr w1.heap.size m v ∧ Blk wr w2.heap.size 107 .i64 c ∧ Blk wr w3.heap.size 112 .u64 (firstsOf c) ∧ wr.ownsRow w.heap.size 3 1 v (symsTo xs k).length (ints .i64 (symsTo xs k)) ∧ Hid (∀ j, 0 < j → j ≤ k → rd m j = firstAt c j ∧ rd m (16 + j) = rd c j ∧ rd m (32 + j) = ((symsTo xs (j - 1)).length : Nat)) ∧ Below w.heap.size w wr) (fun i _ => 16 - (intOf i).toNat)
    case atStart =>
      refine ⟨0, List.replicate 48 0, .slice none 0 0, by omega, rfl, by simp, CA3.out.below (W4.out _) (by omega), NB3.out.below (W4.out _) hs3, FB4.out _, World.ownsRow_nil _ _ _ _, (fun j h1 h2 => by omega), below_seq Hb3.out (Nat.le_refl _) (W4.out _)⟩
    case round =>
      obtain ⟨k, m, v, hk, rfl, hm, hC, hN, hF, hown, Hm, hbel⟩ := hrel
      have HC := Lib.hid hC
      have HN := Lib.hid hN
      have HF := Lib.hid hF
      have Hown := Lib.hid hown
      have Hbel := Lib.hid hbel
      have hszr := hbel.size
      have l1 := hC.lt
      have l2 := hN.lt
      have l3 := hF.lt
      clear hC hN hF hown hbel
      by_cases hlt : k < 15
      · have n1 := HN.out.cell (j := 1 + k) (by rw [Hl.out]; omega)
        have f1 := HF.out.cell (j := 1 + k) (by rw [firstsOf_length]; omega)
        rw [rd_firstsOf _ _ (by omega)] at f1
        obtain ⟨sA, sc, rfl⟩ := own_slice Hown.out
        have c48 := HC.out.last hm
        have ca := HC.out.cell (j := 1 + k) (by omega)
        have cb := HC.out.cell (j := 16 + (1 + k)) (by omega)
        have cd := HC.out.cell (j := 32 + (1 + k)) (by omega)
        have fa := HC.out.frozen (1 + k)
        have fb := HC.out.frozen (16 + (1 + k))
        have fd := HC.out.frozen (32 + (1 + k))
        go_upto_region 9 with fail
        have hfr := firstAt_le c n (by omega) (by have := Hc.out; rw [hlen.out] at this; exact this) (1 + k) (by omega)
        have hlen48 : (symsTo xs k).length ≤ 15000000 := by
          have h1 := symsTo_le xs k
          have h2 : k * xs.length ≤ 15 * xs.length := Nat.mul_le_mul_right _ hk
          rw [hlen.out] at h1 h2
          omega
        have s1 : IntKind.i64.wrap (firstAt c (1 + k)) = firstAt c (1 + k) := IntWalk.i64_in _ (by omega)
        have s2 : ((1 : Int) + k).toNat = 1 + k := by omega
        have s3 : (0 : Int) ≤ 1 + k := by omega
        have s4 : (1 : Int) + k < 16 := by omega
        generalize hlenS : (symsTo xs k).length = L at *
        go_cut [] from 27 to 53 (fun wx => ∃ m', m'.length = 48 ∧ CoderAt wx w1.heap.size m' (.slice sA L sc) ∧ Blk wx w2.heap.size 107 .i64 c ∧ Blk wx w3.heap.size 112 .u64 (firstsOf c) ∧ wx.ownsRow w.heap.size 3 1 (.slice sA L sc) L (ints .i64 (symsTo xs k)) ∧ Hid (∀ j, rd m' j = if j = 1 + k then firstAt c (1 + k) else if j = 16 + (1 + k) then rd c (1 + k) else if j = 32 + (1 + k) then (L : Int) else rd m j) ∧ Below w.heap.size w wx)
        case first =>
          have hd1 : w1.heap.size ≠ w2.heap.size := by omega
          have hd2 : w1.heap.size ≠ w3.heap.size := by omega
          have hv1 := own_ne HC.out (by decide) Hown.out
          go_region
          all_goals
            go_wp2
            go_meet
            refine ⟨((m.set (1 + k) (firstAt c (1 + k))).set (16 + (1 + k)) (rd c (1 + k))).set (32 + (1 + k)) (L : Int), by simp [hm],
              ((HC.out.set (by omega) _).set (by rw [List.length_set]; omega) _).set (by rw [List.length_set, List.length_set]; omega) _,
              ((HN.out.other ⟨w1.heap.size, 1 + k, none⟩ _ (Ne.symm hd1)).other ⟨w1.heap.size, 16 + (1 + k), none⟩ _ (Ne.symm hd1)).other ⟨w1.heap.size, 32 + (1 + k), none⟩ _ (Ne.symm hd1),
              ((HF.out.other ⟨w1.heap.size, 1 + k, none⟩ _ (Ne.symm hd2)).other ⟨w1.heap.size, 16 + (1 + k), none⟩ _ (Ne.symm hd2)).other ⟨w1.heap.size, 32 + (1 + k), none⟩ _ (Ne.symm hd2),
              ownsRow_setCell_other (a := ⟨w1.heap.size, 32 + (1 + k), none⟩) (ownsRow_setCell_other (a := ⟨w1.heap.size, 16 + (1 + k), none⟩) (ownsRow_setCell_other (a := ⟨w1.heap.size, 1 + k, none⟩) Hown.out hv1 _) hv1 _) hv1 _, ?_,
              (((Hbel.out.setCell (p := ⟨w1.heap.size, 1 + k, none⟩) hs1 _).setCell (p := ⟨w1.heap.size, 16 + (1 + k), none⟩) hs1 _).setCell (p := ⟨w1.heap.size, 32 + (1 + k), none⟩) hs1 _).drew⟩
            intro j
            rw [rd_set (by rw [List.length_set, List.length_set]; omega), rd_set (by rw [List.length_set]; omega), rd_set (by omega)]
            by_cases e1 : j = 1 + k
            · rw [if_pos e1, if_neg (by omega), if_neg (by omega), if_pos (by omega)]
            · rw [if_neg e1]
              by_cases e2 : j = 16 + (1 + k)
              · rw [if_pos e2, if_neg (by omega), if_pos (by omega)]
              · rw [if_neg e2]
                by_cases e3 : j = 32 + (1 + k)
                · rw [if_pos e3, if_pos (by omega)]
                · rw [if_neg e3, if_neg (by omega), if_neg (by omega), if_neg (by omega)]
        case rest =>
          clear n1 f1 c48 ca cb cd fa fb fd s1 s2 s3 s4 HC HN HF Hown Hbel
          obtain ⟨m', hm', hC, hN, hF, hown, Hm', hbel⟩ := hcut
          have HC := Lib.hid hC
          have HN := Lib.hid hN
          have HF := Lib.hid hF
          have Hown := Lib.hid hown
          have Hbel := Lib.hid hbel
          clear hC hN hF hown hbel
          go_wp2
          go_loopw [56] (fun i wr => ∃ (s : Nat) (v : Value), s ≤ n ∧ i = .int .i64 s ∧ CoderAt wr w1.heap.size m' v ∧ Blk wr w2.heap.size 107 .i64 c ∧ Blk wr w3.heap.size 112 .u64 (firstsOf c) ∧ wr.ownsRow w.heap.size 3 1 v (L + (ofLen xs (1 + k) s).length) (ints .i64 (symsTo xs k ++ ofLen xs (1 + k) s)) ∧ Below w.heap.size w wr) (fun i _ => n - (intOf i).toNat)
          case atStart => exact ⟨0, .slice sA L sc, by omega, rfl, HC.out, HN.out, HF.out, by rw [show ofLen xs (1 + k) 0 = [] from rfl, List.append_nil]; exact Hown.out, Hbel.out⟩
          case round =>
            obtain ⟨s, v, hs, rfl, hC, hN, hF, hown, hbel⟩ := hrel
            have hv1 := own_ne hC (by decide) hown
            have hv2 := own_ne hN (by decide) hown
            have hv3 := own_ne hF (by decide) hown
            have lo := ofLen_le xs (1 + k) s
            have hszs := hbel.size
            have l1 := hC.lt
            have c48 := hC.last hm'
            have f48 := hC.frozen 48
            have HC := Lib.hid hC
            have HN := Lib.hid hN
            have HF := Lib.hid hF
            have Hown := Lib.hid hown
            have Hbel := Lib.hid hbel
            clear hC hN hF hown hbel
            by_cases hlt2 : s < n
            · obtain ⟨b, o, rfl, hcx⟩ := HR.out.2 (by omega)
              have z := kept_cell Hbel.out (hcx s hlt2)
              clear hcx
              cases hx : (rd xs s == 1 + (k : Int))
              · have hmiss := Lib.hid (ofLen_miss xs (1 + k) s (by intro e; rw [e] at hx; simp at hx))
                go_wp2
                go_roundw
                case rel => exact ⟨s + 1, v, by omega, by go_num, HC.out, HN.out, HF.out, by rw [hmiss.out]; exact Hown.out, Hbel.out⟩
                case measure => simp [intOf]; omega
              · have hhit := Lib.hid (ofLen_hit xs (1 + k) s (by have := eq_of_beq hx; rw [this]; simp))
                obtain ⟨sA2, sc2, rfl⟩ := own_slice Hown.out
                go_wp2_with (at_builtin; refine wpList_app1 rfl _ _ rfl elIntN Hown.out rfl rfl rfl rfl (by omega) (by omega) ?_; intro v' w' hown' hbel' hgrown; have q1 := hgrown.cell (kept_new c48 _) (Ne.symm hv1); have q2 := (World.frozen?_of_block (a := ⟨w1.heap.size, 48, none⟩) (hgrown.block w1.heap.size (by simp; omega) (Ne.symm hv1))).trans ((HC.out.alloc _).frozen 48); obtain ⟨sA3, sc3, rfl⟩ := own_slice hown'; have Hown' := Lib.hid hown'; have Hgrown := Lib.hid hgrown; clear hown' hgrown)
                have g1 : CoderAt w' w1.heap.size m' _ := (Hgrown.out.block w1.heap.size (by simp; omega) (Ne.symm hv1)).trans (HC.out.alloc _)
                have g2 : Blk w' w2.heap.size 107 .i64 c := (Hgrown.out.block w2.heap.size (by simp; have := HN.out.lt; omega) (Ne.symm hv2)).trans (HN.out.alloc _)
                have g3 : Blk w' w3.heap.size 112 .u64 (firstsOf c) := (Hgrown.out.block w3.heap.size (by simp; have := HF.out.lt; omega) (Ne.symm hv3)).trans (HF.out.alloc _)
                have hv4 := own_ne g1 (by decide) Hown'.out
                have G1 := Lib.hid g1
                have G2 := Lib.hid g2
                have G3 := Lib.hid g3
                have Hbel2 := Lib.hid (Hbel.out.trans hbel')
                clear g1 g2 g3 hbel'
                refine ⟨⟨_, _, _, ⟨s + 1, by omega, ?_, _, G1.out.setLast hm' _, G2.out.other ⟨w1.heap.size, 48, none⟩ _ (by show w2.heap.size ≠ w1.heap.size; omega), G3.out.other ⟨w1.heap.size, 48, none⟩ _ (by show w3.heap.size ≠ w1.heap.size; omega), ?_, Hbel2.out.setCell (p := ⟨w1.heap.size, 48, none⟩) hs1 _⟩, rfl, rfl, rfl⟩, ?_⟩
                · go_num
                · have h9 := ownsRow_setCell_other (a := ⟨w1.heap.size, 48, none⟩) Hown'.out hv4 (Value.slice sA3 (L + (ofLen xs (1 + k) s).length + 1) sc3)
                  rw [hhit.out, List.length_append, ← List.append_assoc, ints_append]
                  exact h9
                · simp [intOf]
                  omega
            · have hsn : s = n := by omega
              rw [hsn, ← hlen.out] at Hown
              have eS : symsTo xs (k + 1) = symsTo xs k ++ ofLen xs (1 + k) xs.length := by rw [Nat.add_comm 1 k]; rfl
              have ES := Lib.hid eS
              clear eS hsn
              go_wp2
              go_roundw
              case rel =>
                refine ⟨k + 1, m', v, by omega, by go_num, hm', HC.out, HN.out, HF.out, ?_, ?_, Hbel.out⟩
                · rw [ES.out, List.length_append, hlenS]
                  exact Hown.out
                · intro j h1 h2
                  by_cases e : j = k + 1
                  · subst e
                    refine ⟨?_, ?_, ?_⟩
                    · rw [Hm'.out, if_pos (by omega), Nat.add_comm 1 k]
                    · rw [Hm'.out, if_neg (by omega), if_pos (by omega), Nat.add_comm 1 k]
                    · rw [Hm'.out, if_neg (by omega), if_neg (by omega), if_pos (by omega), Nat.add_sub_cancel, hlenS]
                  · obtain ⟨q1, q2, q3⟩ := Hm.out j h1 (by omega)
                    refine ⟨?_, ?_, ?_⟩
                    · rw [Hm'.out, if_neg (by omega), if_neg (by omega), if_neg (by omega), q1]
                    · rw [Hm'.out, if_neg (by omega), if_neg (by omega), if_neg (by omega), q2]
                    · rw [Hm'.out, if_neg (by omega), if_neg (by omega), if_neg (by omega), q3]
              case measure => simp [intOf]; omega
      · have hk15 : k = 15 := by omega
        rw [hk15] at Hm Hown
        clear hk15
        go_wp2
        refine bodyPost_ret (v := .tuple #[.pointer (some ⟨w1.heap.size, 0, none⟩), .bool true]) (by simp [results, Tryd.results40, go_sem]) rfl ⟨.inr ⟨trivial, w1.heap.size, rfl, m, v, hm, hs1, HC.out, (by rw [Hcd.out]; exact Hm.out), Hown.out⟩, Hbel.out⟩
end Go.Proofs.YtkjoncllnlmdgaaDoor
/-
  Plain facts: and, or of numbers; bits of bytes (no program).
-/
namespace Go.Proofs.YtkjoncllnlmdgaaDoor
theorem and7_i64 (p : Nat) (hp : p < 4611686018427387904) : bits BinOp.and IntKind.i64 (p : Int) 7 = ((p % 8 : Nat) : Int) := by
  have h1 : (BitVec.ofInt 64 (p : Int)).toNat = p := by
    rw [BitVec.ofInt_natCast, BitVec.toNat_ofNat]; exact Nat.mod_eq_of_lt (by omega)
  have h2 : (BitVec.ofInt 64 (7 : Int)).toNat = 7 := by decide
  show IntKind.i64.wrap ((BitVec.ofInt 64 (p : Int) &&& BitVec.ofInt 64 (7 : Int)).toNat : Int) = _
  rw [BitVec.toNat_and, h1, h2, show (7 : Nat) = 2 ^ 3 - 1 from rfl, Nat.and_two_pow_sub_one_eq_mod]
  exact IntWalk.i64_in _ (by omega)
theorem and1_u8 (p : Nat) (hp : p < 256) : bits BinOp.and IntKind.u8 (p : Int) 1 = ((p % 2 : Nat) : Int) := by
  have h1 : (BitVec.ofInt 8 (p : Int)).toNat = p := by
    rw [BitVec.ofInt_natCast, BitVec.toNat_ofNat]; exact Nat.mod_eq_of_lt (by omega)
  have h2 : (BitVec.ofInt 8 (1 : Int)).toNat = 1 := by decide
  show IntKind.u8.wrap ((BitVec.ofInt 8 (p : Int) &&& BitVec.ofInt 8 (1 : Int)).toNat : Int) = _
  rw [BitVec.toNat_and, h1, h2, Nat.and_one_is_mod]
  exact IntWalk.u8_in _ (by omega)
theorem or_u64_top (x b k : Nat) (hx : x < 2 ^ k) (hb : b ≤ 1) (hk : k < 64) : bits BinOp.or IntKind.u64 (x : Int) ((b * 2 ^ k : Nat) : Int) = ((x + b * 2 ^ k : Nat) : Int) := by
  have hp : (2 : Nat) ^ k ≤ 2 ^ 63 := Nat.pow_le_pow_right (by omega) (by omega)
  have hp2 : (2 : Nat) ^ 63 = 9223372036854775808 := by decide
  have hb2 : b * 2 ^ k ≤ 2 ^ k := by
    have := Nat.mul_le_mul_right (2 ^ k) hb
    omega
  rw [bits_or_u64_nat x (b * 2 ^ k) (by omega) (by omega)]
  have h := Nat.two_pow_add_eq_or_of_lt hx b
  rw [Nat.mul_comm] at h
  rw [Nat.or_comm, ← h, Nat.add_comm]
end Go.Proofs.YtkjoncllnlmdgaaDoor
/-
  The walks of package bits: Reader.
-/
namespace Go.Proofs.YtkjoncllnlmdgaaDoor
open Go.RowKit

/-- A reader of these bytes, that stands at this bit. -/
def RdrAt (w : World) (r : Nat) (A : Option Addr) (len cap : Nat) (at' : Nat) : Prop := w.heap[r]? = some (.cells #[.slice A len cap, .int .i64 at'] 62 (0, 0))
theorem RdrAt.lt {w : World} {r : Nat} {A : Option Addr} {len cap at' : Nat} (h : RdrAt w r A len cap at') : r < w.heap.size := (Array.getElem?_eq_some_iff.1 h).1
theorem RdrAt.c0 {w : World} {r : Nat} {A : Option Addr} {len cap at' : Nat} (h : RdrAt w r A len cap at') : w.cell? ⟨r, 0, none⟩ = some (.slice A len cap) := by
  rw [cell_of_row w r 0 _ _ (0, 0) h]; rfl
theorem RdrAt.c1 {w : World} {r : Nat} {A : Option Addr} {len cap at' : Nat} (h : RdrAt w r A len cap at') : w.cell? ⟨r, 1, none⟩ = some (.int .i64 at') := by
  rw [cell_of_row w r 1 _ _ (0, 0) h]; rfl
theorem RdrAt.frozen {w : World} {r : Nat} {A : Option Addr} {len cap at' : Nat} (h : RdrAt w r A len cap at') (j : Nat) : w.frozen? ⟨r, j, none⟩ = false := frozen_of_row w r j _ _ h
theorem RdrAt.set {w : World} {r : Nat} {A : Option Addr} {len cap at' : Nat} (h : RdrAt w r A len cap at') (x : Nat) : RdrAt (w.setCell ⟨r, 1, none⟩ (.int .i64 x)) r A len cap x := by
  unfold RdrAt
  rw [heap_setCell_same w r 1 _ _ _ h]
  rfl
theorem RdrAt.keep {w w' : World} {r : Nat} {A : Option Addr} {len cap at' : Nat} (h : RdrAt w r A len cap at') (hb : Below w.heap.size w w') : RdrAt w' r A len cap at' := (hb.block r h.lt).trans h

set_option maxHeartbeats 1000000 in
theorem Left_calls (r : Nat) (A : Option Addr) (len cap at' : Nat) (w : World) (hR : RdrAt w r A len cap at') (hlen : len ≤ 140737488355328) (hat : at' ≤ 8 * len) :
    Calls Tryd.prog 20 #[.pointer (some ⟨r, 0, none⟩)] w fun e w' => e = .returned (.int .i64 (8 * len - at')) ∧ Below w.heap.size w w' := by
  have c0 := hR.c0
  have c1 := hR.c1
  clear hR
  have s1 : IntKind.i64.wrap (8 * (len : Int)) = 8 * len := IntWalk.i64_in _ (by omega)
  have s2 : IntKind.i64.wrap (8 * (len : Int) - at') = 8 * len - at' := IntWalk.i64_in _ (by omega)
  go_enter Tryd.func20, Tryd.ntmps20
  go_wp2
  go_quiet (fail)
  go_wp2
  go_ret
  exact ⟨rfl, (Below.refl _ _).trans ⟨rfl, rfl, rfl, Nat.le_refl _, fun _ _ => rfl⟩⟩

theorem Rd.grown {w w1 : World} {k : IntKind} {A : Option Addr} {n : Nat} {xs : List Int} (h : Rd w k A n xs) {r : Nat} (hg : w.grownBy w1 (some r)) (hne : ∀ b o, A = some ⟨b, o, none⟩ → b ≠ r) : Rd w1 k A n xs :=
  ⟨h.1, fun hn => by obtain ⟨b, o, e, hc⟩ := h.2 hn; exact ⟨b, o, e, fun j hj => hg.cell (hc j hj) (by simpa using hne b o e)⟩⟩
theorem grown_below {w w1 w2 : World} {r : Nat} (h : w.grownBy w1 (some r)) (hb : Below w1.heap.size w1 w2) : w.grownBy w2 (some r) :=
  ⟨hb.os.trans h.os, hb.tape.trans h.tape, hb.output.trans h.output, Nat.le_trans h.size hb.size, fun k hk hne => (hb.block k (Nat.lt_of_lt_of_le hk h.size)).trans (h.block k hk hne)⟩
theorem grown_set {w w1 : World} {r : Nat} (h : w.grownBy w1 (some r)) (j : Nat) (v : Value) : w.grownBy (w1.setCell ⟨r, j, none⟩ v) (some r) :=
  ⟨h.os, h.tape, h.output, by simpa using h.size, fun k hk hne => (heap_setCell_other w1 ⟨r, j, none⟩ k v (by intro e; exact hne (by rw [e]))).trans (h.block k hk hne)⟩
theorem grown_refl (w : World) (row : Option Nat) : w.grownBy w row := ⟨rfl, rfl, rfl, Nat.le_refl _, fun _ _ _ => rfl⟩
def bitAt (bs : List Int) (i : Nat) : Nat := (rd bs (i / 8)).toNat / 2 ^ (i % 8) % 2
def numAt (bs : List Int) (at' : Nat) : Nat → Nat
  | 0 => 0
  | i + 1 => numAt bs at' i + bitAt bs (at' + i) * 2 ^ i
theorem bitAt_le (bs : List Int) (i : Nat) : bitAt bs i ≤ 1 := by unfold bitAt; omega
theorem numAt_lt (bs : List Int) (at' i : Nat) : numAt bs at' i < 2 ^ i := by
  induction i with
  | zero => simp [numAt]
  | succ i ih =>
    have h := Nat.mul_le_mul_right (2 ^ i) (bitAt_le bs (at' + i))
    simp only [numAt, Nat.pow_succ]
    omega
theorem bit_step (bs : List Int) (at' k p y : Nat) (hp : p = at' + k) (hy : rd bs (p / 8) = y) (hy2 : y < 256) (hk : k < 60) :
    bits BinOp.or IntKind.u64 ((numAt bs at' k : Nat) : Int) (IntKind.u64.wrap (IntKind.u64.wrap (bits BinOp.and IntKind.u8 ((y : Int) / 2 ^ (p % 8)) 1) * 2 ^ k)) = ((numAt bs at' (k + 1) : Nat) : Int) := by
  have e1 : (y : Int) / 2 ^ (p % 8) = ((y / 2 ^ (p % 8) : Nat) : Int) := by
    rw [Int.natCast_ediv, Int.natCast_pow]
    rfl
  have hd : y / 2 ^ (p % 8) ≤ y := Nat.div_le_self _ _
  have e2 : bitAt bs p = y / 2 ^ (p % 8) % 2 := by unfold bitAt; rw [hy]; rfl
  have hb := bitAt_le bs p
  have hpow : (2 : Nat) ^ k ≤ 2 ^ 60 := Nat.pow_le_pow_right (by omega) (by omega)
  have hp60 : (2 : Nat) ^ 60 = 1152921504606846976 := by decide
  have hm : bitAt bs p * 2 ^ k ≤ 1 * 2 ^ k := Nat.mul_le_mul_right _ hb
  rw [e1, and1_u8 _ (by omega), ← e2, IntWalk.u64_in ((bitAt bs p : Nat) : Int) (by omega)]
  have e3 : ((bitAt bs p : Nat) : Int) * 2 ^ k = ((bitAt bs p * 2 ^ k : Nat) : Int) := by
    rw [Int.natCast_mul, Int.natCast_pow]
    rfl
  rw [e3, IntWalk.u64_in _ (by omega), or_u64_top _ _ _ (numAt_lt bs at' k) hb (by omega)]
  simp only [numAt, hp]
set_option maxHeartbeats 1000000 in
theorem Bits_calls (r : Nat) (A : Option Addr) (len cap at' n : Nat) (bs : List Int) (w : World) (hR : RdrAt w r A len cap at') (hB : Rd w .u8 A len bs) (hb : ∀ j, j < len → 0 ≤ rd bs j ∧ rd bs j ≤ 255) (hne : ∀ b o, A = some ⟨b, o, none⟩ → b ≠ r) (hlen : len ≤ 140737488355328) (hat : at' ≤ 8 * len) (hn : n ≤ 60) (hok : at' + n ≤ 8 * len) :
    Calls Tryd.prog 39 #[.pointer (some ⟨r, 0, none⟩), .int .i64 n] w fun e w' => e = .returned (.tuple #[(.int .u64 (numAt bs at' n : Nat)), .bool true]) ∧ RdrAt w' r A len cap (at' + n) ∧ w.grownBy w' (some r) := by
  have HR := Lib.hid hR
  have HB := Lib.hid hB
  have Hb := Lib.hid hb
  clear hR hB hb
  go_enter Tryd.func39, Tryd.ntmps39
  go_wp2_with fail
  refine (Left_calls r A len cap at' _ HR.out hlen hat).mono ?_
  rintro e w1 ⟨rfl, hb1⟩
  have HR1 := Lib.hid (HR.out.keep hb1)
  have HB1 := Lib.hid (HB.out.below hb1)
  have Hb1 := Lib.hid hb1
  clear hb1
  go_wp2
  go_loopw [6, 21] (fun x i wr => ∃ k : Nat, k ≤ n ∧ i = .int .i64 k ∧ x = .int .u64 (numAt bs at' k : Nat) ∧ RdrAt wr r A len cap (at' + k) ∧ Hid (w.grownBy wr (some r))) (fun _ i _ => n - (intOf i).toNat)
  case atStart => exact ⟨0, by omega, rfl, rfl, HR1.out, grown_below (grown_refl w _) Hb1.out⟩
  case round =>
    obtain ⟨k, hk, rfl, rfl, hR, Hg⟩ := hrel
    have HRk := Lib.hid hR
    have c0 := hR.c0
    have c1 := hR.c1
    have f1 := hR.frozen 1
    clear hR
    by_cases hlt : k < n
    · obtain ⟨b, o, rfl, hc⟩ := (HB.out.grown Hg.out hne).2 (by omega)
      obtain ⟨p, hp⟩ : ∃ p : Nat, p = at' + k := ⟨_, rfl⟩
      have Hp := Lib.hid hp
      rw [← hp] at c1
      have hj : p / 8 < len := by omega
      have z := hc _ hj
      clear hc hp
      have hbr := Hb.out _ hj
      have s1 : ((p : Int) / 8).toNat = p / 8 := by omega
      have s2 : (0 : Int) ≤ (p : Int) / 8 := by omega
      have s3 : (p : Int) / 8 < len := by omega
      obtain ⟨y, hy⟩ : ∃ y : Nat, rd bs (p / 8) = y := ⟨(rd bs (p / 8)).toNat, by omega⟩
      rw [hy] at z hbr
      have Ev := Lib.hid (bit_step bs at' k p y Hp.out hy (by omega) (by omega))
      obtain ⟨q, hq⟩ : ∃ q : Nat, q = p % 8 := ⟨_, rfl⟩
      have a1 := and7_i64 p (by omega)
      rw [← hq] at a1
      have hbit : bitAt bs p = y / 2 ^ q % 2 := by unfold bitAt; rw [hy, ← hq]; rfl
      have Hbit := Lib.hid hbit
      have hyd : y / 2 ^ q ≤ y := Nat.div_le_self _ _
      obtain ⟨u, hu⟩ : ∃ u : Nat, u = y / 2 ^ q := ⟨_, rfl⟩
      have a2 := and1_u8 u (by omega)
      have hq8 : q < 8 := by omega
      clear hbit
      go_wp2
      go_region
      rw [Ev.out]
      go_wp2
      go_roundw
      case rel =>
        refine ⟨k + 1, by omega, by go_num, rfl, ?_, grown_set (grown_below Hg.out (Below.refl _ _).drew) 1 _⟩
        have h9 : RdrAt (wr.setCell ⟨r, 1, none⟩ (.int .i64 ((p : Int) + 1))) r (some ⟨b, o, none⟩) len cap (p + 1) := HRk.out.set (p + 1)
        rw [show at' + (k + 1) = p + 1 from by rw [Hp.out]; omega]
        exact h9
      case measure => simp [intOf]; omega
    · have hkn : k = n := by omega
      rw [hkn] at HRk
      go_wp2
      refine bodyPost_ret (v := .tuple #[.int .u64 (numAt bs at' k : Nat), .bool true]) (by simp [results, Tryd.results39, go_sem]) rfl ⟨by rw [hkn], HRk.out, Hg.out⟩
set_option maxHeartbeats 1000000 in
theorem BitsShort_calls (r : Nat) (A : Option Addr) (len cap at' n : Nat) (w : World) (hR : RdrAt w r A len cap at') (hlen : len ≤ 140737488355328) (hat : at' ≤ 8 * len) (hn : n ≤ 60) (hno : 8 * len < at' + n) :
    Calls Tryd.prog 39 #[.pointer (some ⟨r, 0, none⟩), .int .i64 n] w fun e w' => e = .returned (.tuple #[.int .u64 0, .bool false]) ∧ Below w.heap.size w w' := by
  have HR := Lib.hid hR
  clear hR
  go_enter Tryd.func39, Tryd.ntmps39
  go_wp2_with fail
  refine (Left_calls r A len cap at' _ HR.out hlen hat).mono ?_
  rintro e w1 ⟨rfl, hb1⟩
  have Hb1 := Lib.hid hb1
  clear hb1
  go_wp2
  refine bodyPost_ret (v := .tuple #[.int .u64 0, .bool false]) (by simp [results, Tryd.results39, go_sem]) rfl ⟨rfl, Hb1.out⟩
end Go.Proofs.YtkjoncllnlmdgaaDoor
/-
  The walk of Next.
-/
namespace Go.Proofs.YtkjoncllnlmdgaaDoor
open Go.RowKit

/-- The number that k bits tell, the highest first. -/
def codeTo (bs : List Int) (p : Nat) : Nat → Nat
  | 0 => 0
  | k + 1 => 2 * codeTo bs p k + bitAt bs (p + k)
theorem codeTo_lt (bs : List Int) (p k : Nat) : codeTo bs p k < 2 ^ k := by
  induction k with
  | zero => simp [codeTo]
  | succ k ih =>
    have := bitAt_le bs (p + k)
    simp only [codeTo, Nat.pow_succ]
    omega
def hitB (xs bs : List Int) (p k : Nat) : Bool := decide (0 ≤ (codeTo bs p k : Int) - firstAt (cntOf xs) k) && decide ((codeTo bs p k : Int) - firstAt (cntOf xs) k < rd (cntOf xs) k)
def symAt (xs bs : List Int) (p k : Nat) : Int := rd (symsTo xs 15) ((symsTo xs (k - 1)).length + ((codeTo bs p k : Int) - firstAt (cntOf xs) k).toNat)
theorem ofLen_len (xs : List Int) (k s : Nat) (hs : s ≤ xs.length) : (ofLen xs k s).length = before xs k s := by
  induction s with
  | zero => simp [ofLen, before]
  | succ s ih =>
    have h1 := ih (by omega)
    by_cases e : rd xs s = k
    · rw [ofLen_hit xs k s e, before_hit xs k s (by omega) e, List.length_append, h1]
      rfl
    · rw [ofLen_miss xs k s e, before_miss xs k s (by omega) e, h1]
theorem symsTo_mono (xs : List Int) (k d : Nat) : (symsTo xs k).length ≤ (symsTo xs (k + d)).length := by
  induction d with
  | zero => exact Nat.le_refl _
  | succ d ih =>
    have : (symsTo xs (k + d + 1)).length = (symsTo xs (k + d)).length + (ofLen xs (k + d + 1) xs.length).length := by simp [symsTo]
    show _ ≤ (symsTo xs (k + d + 1)).length
    omega
theorem symsTo_room (xs : List Int) (k : Nat) (hk : 0 < k) (hk2 : k ≤ 15) : (symsTo xs (k - 1)).length + rd (cntOf xs) k ≤ ((symsTo xs 15).length : Nat) := by
  obtain ⟨j, rfl⟩ : ∃ j, k = j + 1 := ⟨k - 1, by omega⟩
  have h1 := symsTo_mono xs (j + 1) (15 - (j + 1))
  rw [show j + 1 + (15 - (j + 1)) = 15 from by omega] at h1
  have h2 : (symsTo xs (j + 1)).length = (symsTo xs j).length + (ofLen xs (j + 1) xs.length).length := by simp [symsTo]
  rw [ofLen_len xs (j + 1) xs.length (Nat.le_refl _)] at h2
  rw [rd_cntOf_pos xs (j + 1) (by omega) (by omega)]
  simp only [Nat.add_sub_cancel]
  omega
theorem grown_trans {w w1 w2 : World} {row : Option Nat} (h : w.grownBy w1 row) (k : w1.grownBy w2 row) : w.grownBy w2 row :=
  ⟨k.os.trans h.os, k.tape.trans h.tape, k.output.trans h.output, Nat.le_trans h.size k.size, fun i hi hne => (k.block i (Nat.lt_of_lt_of_le hi h.size) hne).trans (h.block i hi hne)⟩
theorem numAt_one (bs : List Int) (p : Nat) : numAt bs p 1 = bitAt bs p := by simp [numAt]

set_option maxHeartbeats 2000000 in
set_option maxRecDepth 100000 in
theorem Next_calls (h r base : Nat) (A : Option Addr) (len cap p : Nat) (xs bs : List Int) (w : World) (hC : Coder w base h xs) (hxs : xs.length ≤ 1000000) (hR : RdrAt w r A len cap p) (hB : Rd w .u8 A len bs) (hb : ∀ j, j < len → 0 ≤ rd bs j ∧ rd bs j ≤ 255) (hne : ∀ b o, A = some ⟨b, o, none⟩ → b ≠ r) (hlen : len ≤ 1000000) (hp : p ≤ 8 * len) (hhr : h ≠ r) :
    Calls Tryd.prog 75 #[.pointer (some ⟨h, 0, none⟩), .pointer (some ⟨r, 0, none⟩)] w fun e w' =>
      ((∃ k, 0 < k ∧ k ≤ 15 ∧ p + k ≤ 8 * len ∧ (∀ i, 0 < i → i < k → hitB xs bs p i = false) ∧ hitB xs bs p k = true ∧ e = .returned (.tuple #[.int .i64 (symAt xs bs p k), .bool true]) ∧ RdrAt w' r A len cap (p + k)) ∨
       (∃ k, k ≤ 15 ∧ p + k ≤ 8 * len ∧ (∀ i, 0 < i → i ≤ k → hitB xs bs p i = false) ∧ (k = 15 ∨ p + k = 8 * len) ∧ e = .returned (.tuple #[.int .i64 0, .bool false]) ∧ RdrAt w' r A len cap (p + k))) ∧ w.grownBy w' (some r) := by
  have HC := Lib.hid hC
  have HR := Lib.hid hR
  have HB := Lib.hid hB
  have Hb := Lib.hid hb
  clear hC hR hB hb
  go_enter Tryd.func75, Tryd.ntmps75
  go_wp2
  go_loopw [6, 7] (fun x i wr => ∃ k : Nat, k ≤ 15 ∧ i = .int .i64 (1 + k) ∧ x = .int .i64 (codeTo bs p k : Nat) ∧ p + k ≤ 8 * len ∧ RdrAt wr r A len cap (p + k) ∧ Hid (∀ i, 0 < i → i ≤ k → hitB xs bs p i = false) ∧ Hid (w.grownBy wr (some r))) (fun _ i _ => 16 - (intOf i).toNat)
  case atStart => exact ⟨0, by omega, rfl, rfl, by omega, HR.out, (fun i h1 h2 => by omega), grown_refl w _⟩
  case round =>
    obtain ⟨k, hk, rfl, rfl, hpk, hR, Hno, Hg⟩ := hrel
    have HRk := Lib.hid hR
    clear hR
    by_cases hlt : k < 15
    · by_cases hmore : p + k < 8 * len
      · go_wp2_with fail
        refine (Bits_calls r A len cap (p + k) 1 bs _ HRk.out (HB.out.grown Hg.out hne) Hb.out hne (by omega) hpk (by omega) (by omega)).mono ?_
        rintro e w2 ⟨rfl, hR2, hg2⟩
        rw [numAt_one]
        obtain ⟨m, v, hm, hbase, hCA, hmm, hown⟩ := HC.out
        have hg02 := grown_trans Hg.out hg2
        have hC2 : CoderAt w2 h m v := (hg02.block h hCA.lt (by simpa using hhr)).trans hCA
        obtain ⟨q1, q2, q3⟩ := hmm (1 + k) (by omega) (by omega)
        have cf := hC2.cell (j := 1 + k) (by omega)
        have cc := hC2.cell (j := 16 + (1 + k)) (by omega)
        have ca := hC2.cell (j := 32 + (1 + k)) (by omega)
        rw [q1] at cf
        rw [q2] at cc
        rw [q3] at ca
        have cl := hC2.last hm
        have hbt := bitAt_le bs (p + k)
        have hcode : codeTo bs p (1 + k) = 2 * codeTo bs p k + bitAt bs (p + k) := by rw [Nat.add_comm]; rfl
        have hclt := codeTo_lt bs p k
        have hpow : (2 : Nat) ^ k ≤ 2 ^ 15 := Nat.pow_le_pow_right (by omega) (by omega)
        have hp15 : (2 : Nat) ^ 15 = 32768 := by decide
        have hcl : codeTo bs p k ≤ 32768 := by omega
        have hfr := firstAt_le (cntOf xs) xs.length (by omega) (rd_cntOf xs) (1 + k) (by omega)
        have hroom := symsTo_room xs (1 + k) (by omega) (by omega)
        have s2 : ((1 : Int) + k).toNat = 1 + k := by omega
        have s3 : (0 : Int) ≤ 1 + k := by omega
        have s4 : (1 : Int) + k < 16 := by omega
        have e1 : (2 : Int) * (codeTo bs p k : Nat) + (bitAt bs (p + k) : Nat) = (codeTo bs p (1 + k) : Nat) := by rw [hcode]; omega
        have HC2 := Lib.hid hC2
        have HR2 := Lib.hid hR2
        have Hg2 := Lib.hid hg02
        have Hown := Lib.hid hown
        have Hcode := Lib.hid hcode
        clear hC2 hR2 hg02 hg2 hown hmm hCA q1 q2 q3 hpow hclt hp15 hcode
        have E1 := Lib.hid e1
        clear e1
        rcases Int.lt_or_le (2 * ((codeTo bs p k : Nat) : Int) + (bitAt bs (p + k) : Nat)) (firstAt (cntOf xs) (1 + k)) with t1 | t1
        · have hmiss : Hid (hitB xs bs p (1 + k) = false) := by show hitB xs bs p (1 + k) = false; unfold hitB; rw [← E1.out]; simp; omega
          have t3 : 2 * ((codeTo bs p k : Nat) : Int) + (bitAt bs (p + k) : Nat) - firstAt (cntOf xs) (1 + k) < 0 := by omega
          go_wp2
          go_roundw
          case rel =>
            refine ⟨k + 1, by omega, by go_num, ?_, by omega, by rw [← Nat.add_assoc]; exact HR2.out, ?_, Hg2.out⟩
            · rw [Nat.add_comm k 1, ← E1.out]
            · intro i h1 h2
              rcases Nat.lt_or_ge k i with h | h
              · rw [show i = 1 + k from by omega]; exact hmiss.out
              · exact Hno.out i h1 h
          case measure => simp [intOf]; omega
        · have t3 : (0 : Int) ≤ 2 * ((codeTo bs p k : Nat) : Int) + (bitAt bs (p + k) : Nat) - firstAt (cntOf xs) (1 + k) := by omega
          rcases Int.lt_or_le (2 * ((codeTo bs p k : Nat) : Int) + (bitAt bs (p + k) : Nat) - firstAt (cntOf xs) (1 + k)) (rd (cntOf xs) (1 + k)) with t2 | t2
          · have hhit : Hid (hitB xs bs p (1 + k) = true) := by show hitB xs bs p (1 + k) = true; unfold hitB; rw [← E1.out]; simp only [t3, t2, decide_true]; rfl
            have hsl := symsTo_le xs 15
            obtain ⟨J, hJ⟩ : ∃ J : Nat, (J : Int) = ((symsTo xs (1 + k - 1)).length : Nat) + (2 * ((codeTo bs p k : Nat) : Int) + (bitAt bs (p + k) : Nat) - firstAt (cntOf xs) (1 + k)) := ⟨_, Int.toNat_of_nonneg (by omega)⟩
            have hJlt : J < (symsTo xs 15).length := by omega
            have hsym : symAt xs bs p (1 + k) = rd (symsTo xs 15) J := by
              unfold symAt
              rw [← E1.out, show (symsTo xs (1 + k - 1)).length + (2 * ((codeTo bs p k : Nat) : Int) + (bitAt bs (p + k) : Nat) - firstAt (cntOf xs) (1 + k)).toNat = J from by omega]
            have s5 : IntKind.i64.wrap (((symsTo xs (1 + k - 1)).length : Nat) + (2 * ((codeTo bs p k : Nat) : Int) + (bitAt bs (p + k) : Nat) - firstAt (cntOf xs) (1 + k))) = (J : Int) := by rw [← hJ]; exact IntWalk.i64_in _ (by omega)
            have hown2 := Hown.out.kept Hg2.out (.inr (own_ne HR.out (by decide) Hown.out))
            obtain ⟨g, gc, rfl, _, _, hgc, hgcell, _⟩ := own_form hown2 (by omega)
            have hz := hgcell J _ (ints_get hJlt)
            have Hsym := Lib.hid hsym
            clear hown2 hgcell hsym hJ Hown HC hroom
            generalize hSL : (symsTo xs 15).length = SL at *
            generalize hSA : ((symsTo xs (1 + k - 1)).length : Int) = SA at *
            go_wp2
            go_region
            go_wp2
            refine bodyPost_ret (v := .tuple #[.int .i64 (rd (symsTo xs 15) J), .bool true]) (by simp [results, Tryd.results75, go_sem]) rfl ⟨.inl ⟨1 + k, by omega, by omega, by omega, ?_, hhit.out, by rw [Hsym.out], by rw [← Nat.add_assoc, Nat.add_right_comm]; exact HR2.out⟩, ?_⟩
            · intro i h1 h2
              exact Hno.out i h1 (by omega)
            · exact grown_below Hg2.out (Below.refl _ _).drew
          · have hmiss : Hid (hitB xs bs p (1 + k) = false) := by show hitB xs bs p (1 + k) = false; unfold hitB; rw [← E1.out, decide_eq_false (p := _ < _) (by omega), Bool.and_false]
            go_wp2
            go_roundw
            case rel =>
              refine ⟨k + 1, by omega, by go_num, ?_, by omega, by rw [← Nat.add_assoc]; exact HR2.out, ?_, Hg2.out⟩
              · rw [Nat.add_comm k 1, ← E1.out]
              · intro i h1 h2
                rcases Nat.lt_or_ge k i with h | h
                · rw [show i = 1 + k from by omega]; exact hmiss.out
                · exact Hno.out i h1 h
            case measure => simp [intOf]; omega
      · go_wp2_with fail
        refine (BitsShort_calls r A len cap (p + k) 1 _ HRk.out (by omega) hpk (by omega) (by omega)).mono ?_
        rintro e w2 ⟨rfl, hb2⟩
        have HR2 := Lib.hid (HRk.out.keep hb2)
        have Hg2 := Lib.hid (grown_below Hg.out hb2)
        clear hb2
        go_wp2
        refine bodyPost_ret (v := .tuple #[.int .i64 0, .bool false]) (by simp [results, Tryd.results75, go_sem]) rfl ⟨.inr ⟨k, hk, hpk, Hno.out, .inr (by omega), rfl, HR2.out⟩, Hg2.out⟩
    · have hk15 : k = 15 := by omega
      go_wp2
      refine bodyPost_ret (v := .tuple #[.int .i64 0, .bool false]) (by simp [results, Tryd.results75, go_sem]) rfl ⟨.inr ⟨k, hk, hpk, Hno.out, .inl hk15, rfl, HRk.out⟩, Hg.out⟩
end Go.Proofs.YtkjoncllnlmdgaaDoor
/-
  Small facts: what is read in two lists joined; rows that lie nowhere (no program).
-/
namespace Go.Proofs.YtkjoncllnlmdgaaDoor
open Go.RowKit

theorem rd_appL {a b : List Int} {i : Nat} (h : i < a.length) : rd (a ++ b) i = rd a i := by
  unfold rd
  rw [List.getD_eq_getElem?_getD, List.getD_eq_getElem?_getD, List.getElem?_append_left h]
theorem rd_appR {a b : List Int} (i : Nat) : rd (a ++ b) (a.length + i) = rd b i := by
  unfold rd
  rw [List.getD_eq_getElem?_getD, List.getD_eq_getElem?_getD, List.getElem?_append_right (Nat.le_add_right _ _), Nat.add_sub_cancel_left]
theorem own_none {w : World} {base n c : Nat} {e : TypeId} {size : Nat} {A : Option Addr} {xs : List Value} (h : w.ownsRow base e size (.slice A n c) n xs) : A = none → n = 0 ∧ c = 0 := by
  intro hA
  subst hA
  rcases h.2 with ⟨h1, h2⟩ | ⟨g, cap, cur, h1, _⟩
  · simp at h1
    exact ⟨h2, h1.2⟩
  · cases h1
/-- What was there first lies apart from a younger block. -/
theorem Rd.apart {w0 w w1 : World} {k : IntKind} {A : Option Addr} {n : Nat} {xs : List Int} (h0 : Rd w0 k A n xs) (h : Rd w k A n xs) {r : Nat} (hg : w.grownBy w1 (some r)) (hr : w0.heap.size ≤ r) : Rd w1 k A n xs :=
  ⟨h.1, fun hn => by
    obtain ⟨b, o, e, hc⟩ := h.2 hn
    obtain ⟨b', o', e', hc'⟩ := h0.2 hn
    rw [e] at e'
    cases e'
    have hlt := World.block_lt_of_cell? _ _ (hc' 0 hn)
    exact ⟨b, o, e, fun j hj => hg.cell (hc j hj) (by simp at hlt ⊢; omega)⟩⟩
end Go.Proofs.YtkjoncllnlmdgaaDoor
/-
  At most one symbol's code stands at a place of the bits (no program); what Coder.Next reads, told by it.
-/
namespace Go.Proofs.YtkjoncllnlmdgaaDoor
open Go.RowKit

theorem firstAt_far (c : List Int) (hc : ∀ j, j < 16 → 0 ≤ rd c j) (k d : Nat) (h : k + d + 1 ≤ 16) : 2 ^ (d + 1) * (firstAt c k + rd c k) ≤ firstAt c (k + d + 1) := by
  induction d with
  | zero => simp [firstAt]
  | succ d ih =>
    have h1 := ih (by omega)
    have h2 := hc (k + d + 1) (by omega)
    have e : (2 : Int) ^ (d + 1 + 1) * (firstAt c k + rd c k) = 2 * (2 ^ (d + 1) * (firstAt c k + rd c k)) := by rw [Int.pow_succ, Int.mul_comm _ 2, Int.mul_assoc]
    have e2 : firstAt c (k + (d + 1) + 1) = 2 * (firstAt c (k + d + 1) + rd c (k + d + 1)) := rfl
    rw [e, e2]
    omega
theorem codeTo_far (bs : List Int) (p k d : Nat) : 2 ^ d * codeTo bs p k ≤ codeTo bs p (k + d) ∧ codeTo bs p (k + d) + 1 ≤ 2 ^ d * (codeTo bs p k + 1) := by
  induction d with
  | zero => simp
  | succ d ih =>
    have hb := bitAt_le bs (p + (k + d))
    have e1 : 2 ^ (d + 1) * codeTo bs p k = 2 * (2 ^ d * codeTo bs p k) := by rw [Nat.pow_succ, Nat.mul_comm _ 2, Nat.mul_assoc]
    have e2 : 2 ^ (d + 1) * (codeTo bs p k + 1) = 2 * (2 ^ d * (codeTo bs p k + 1)) := by rw [Nat.pow_succ, Nat.mul_comm _ 2, Nat.mul_assoc]
    have e3 : codeTo bs p (k + (d + 1)) = 2 * codeTo bs p (k + d) + bitAt bs (p + (k + d)) := rfl
    rw [e1, e2, e3]
    omega
theorem hitB_iff (xs bs : List Int) (p k : Nat) : hitB xs bs p k = true ↔ firstAt (cntOf xs) k ≤ (codeTo bs p k : Int) ∧ (codeTo bs p k : Int) < firstAt (cntOf xs) k + rd (cntOf xs) k := by
  unfold hitB
  rw [Bool.and_eq_true, decide_eq_true_iff, decide_eq_true_iff]
  omega
theorem hitB_lt (xs bs : List Int) (p k d : Nat) (hd : k + d + 1 ≤ 15) (h1 : hitB xs bs p k = true) (h2 : hitB xs bs p (k + d + 1) = true) : False := by
  rw [hitB_iff] at h1 h2
  have f := firstAt_far (cntOf xs) (fun j hj => (rd_cntOf xs j hj).1) k d (by omega)
  have c := (codeTo_far bs p k (d + 1)).2
  have c2 : ((codeTo bs p (k + d + 1) : Nat) : Int) + 1 ≤ 2 ^ (d + 1) * ((codeTo bs p k : Int) + 1) := by
    have : ((codeTo bs p (k + (d + 1)) + 1 : Nat) : Int) ≤ ((2 ^ (d + 1) * (codeTo bs p k + 1) : Nat) : Int) := Int.ofNat_le.2 c
    rw [Int.natCast_mul, Int.natCast_pow] at this
    exact this
  have m : (2 : Int) ^ (d + 1) * ((codeTo bs p k : Int) + 1) ≤ 2 ^ (d + 1) * (firstAt (cntOf xs) k + rd (cntOf xs) k) := Int.mul_le_mul_of_nonneg_left (by omega) (Int.le_of_lt (Int.pow_pos (by omega)))
  omega
theorem before_mono (xs : List Int) (k : Int) {s t : Nat} (h : s ≤ t) : before xs k s ≤ before xs k t := by
  unfold before
  refine List.Sublist.length_le (List.Sublist.filter _ ?_)
  rw [show s = min s t from by omega, ← List.take_take]
  exact List.take_sublist _ _
theorem before_lt (xs : List Int) (k : Int) {s t : Nat} (h : s < t) (ht : s < xs.length) (hk : rd xs s = k) : before xs k s < before xs k t := by
  have h1 := before_hit xs k s ht hk
  have h2 := before_mono xs k (s := s + 1) (t := t) h
  omega
/-- The symbol whose code stands at the place, of which so many bits are left. -/
def Hit (xs bs : List Int) (p m s : Nat) : Prop := s < xs.length ∧ 0 < rd xs s ∧ rd xs s ≤ 15 ∧ (rd xs s).toNat ≤ m ∧ ((codeTo bs p (rd xs s).toNat : Nat) : Int) = codeAt xs s
theorem Hit.code {xs bs : List Int} {p m s : Nat} (h : Hit xs bs p m s) : ((codeTo bs p (rd xs s).toNat : Nat) : Int) = firstAt (cntOf xs) (rd xs s).toNat + (before xs (rd xs s) s : Nat) := by
  obtain ⟨_, h2, h3, _, h5⟩ := h
  rw [h5]
  unfold codeAt nextCode
  rw [if_pos ⟨h2, h3⟩, Int.toNat_of_nonneg (by omega)]
theorem Hit.b {xs bs : List Int} {p m s : Nat} (h : Hit xs bs p m s) : hitB xs bs p (rd xs s).toNat = true := by
  have c := h.code
  obtain ⟨h1, h2, h3, _, _⟩ := h
  rw [hitB_iff, c, rd_cntOf_pos xs (rd xs s).toNat (by omega) (by omega), Int.toNat_of_nonneg (by omega)]
  have := before_lt xs (rd xs s) h1 h1 rfl
  omega
theorem Hit.one {xs bs : List Int} {p m s t : Nat} (h : Hit xs bs p m s) (g : Hit xs bs p m t) : s = t := by
  have b1 := h.b
  have b2 := g.b
  have c1 := h.code
  have c2 := g.code
  obtain ⟨h1, h2, h3, _, _⟩ := h
  obtain ⟨g1, g2, g3, _, _⟩ := g
  rcases Nat.lt_trichotomy (rd xs s).toNat (rd xs t).toNat with q | q | q
  · obtain ⟨d, hd⟩ : ∃ d, (rd xs t).toNat = (rd xs s).toNat + d + 1 := ⟨(rd xs t).toNat - (rd xs s).toNat - 1, by omega⟩
    rw [hd] at b2
    exact (hitB_lt xs bs p _ d (by omega) b1 b2).elim
  · have e : rd xs s = rd xs t := by omega
    rw [← q, ← e, c1] at c2
    rcases Nat.lt_trichotomy s t with z | z | z
    · have := before_lt xs (rd xs s) z h1 rfl
      omega
    · exact z
    · have := before_lt xs (rd xs s) z g1 e.symm
      omega
  · obtain ⟨d, hd⟩ : ∃ d, (rd xs s).toNat = (rd xs t).toNat + d + 1 := ⟨(rd xs s).toNat - (rd xs t).toNat - 1, by omega⟩
    rw [hd] at b1
    exact (hitB_lt xs bs p _ d (by omega) b2 b1).elim
theorem ofLen_at (xs : List Int) (k : Nat) : ∀ n, n ≤ xs.length → ∀ i, i < (ofLen xs k n).length → ∃ s : Nat, s < n ∧ rd xs s = k ∧ before xs k s = i ∧ rd (ofLen xs k n) i = s := by
  intro n
  induction n with
  | zero => intro _ i hi; simp [ofLen] at hi
  | succ n ih =>
    intro hn i hi
    by_cases e : rd xs n = k
    · rw [ofLen_hit xs k n e] at hi ⊢
      rcases Nat.lt_or_ge i (ofLen xs k n).length with g | g
      · obtain ⟨s, h1, h2, h3, h4⟩ := ih (by omega) i g
        refine ⟨s, by omega, h2, h3, ?_⟩
        rw [← h4, rd_appL g]
      · rw [List.length_append, List.length_cons, List.length_nil] at hi
        have ei : i = (ofLen xs k n).length := by omega
        refine ⟨n, by omega, e, by rw [ei, ofLen_len xs k n (by omega)], ?_⟩
        rw [ei, show (ofLen xs k n).length = (ofLen xs k n).length + 0 from rfl, rd_appR]
        rfl
    · rw [ofLen_miss xs k n e] at hi ⊢
      obtain ⟨s, h1, h2, h3, h4⟩ := ih (by omega) i hi
      exact ⟨s, by omega, h2, h3, h4⟩
theorem symsTo_split (xs : List Int) (j d : Nat) : ∃ r, symsTo xs (j + 1 + d) = symsTo xs j ++ (ofLen xs (j + 1) xs.length ++ r) := by
  induction d with
  | zero => exact ⟨[], by simp [symsTo]⟩
  | succ d ih =>
    obtain ⟨r, h⟩ := ih
    exact ⟨r ++ ofLen xs (j + 1 + d + 1) xs.length, by
      show symsTo xs (j + 1 + d) ++ _ = _
      rw [h, List.append_assoc, List.append_assoc]
      rfl⟩
theorem hit_sym (xs bs : List Int) (p m k : Nat) (h0 : 0 < k) (h15 : k ≤ 15) (hm : k ≤ m) (h : hitB xs bs p k = true) : ∃ s : Nat, Hit xs bs p m s ∧ rd xs s = k ∧ symAt xs bs p k = s := by
  rw [hitB_iff, rd_cntOf_pos xs k h0 (by omega)] at h
  obtain ⟨i, hi⟩ : ∃ i : Nat, (codeTo bs p k : Int) = firstAt (cntOf xs) k + i := ⟨((codeTo bs p k : Int) - firstAt (cntOf xs) k).toNat, by omega⟩
  have hlen := ofLen_len xs k xs.length (Nat.le_refl _)
  obtain ⟨s, h1, h2, h3, h4⟩ := ofLen_at xs k xs.length (Nat.le_refl _) i (by omega)
  refine ⟨s, ⟨h1, by omega, by omega, by omega, ?_⟩, h2, ?_⟩
  · unfold codeAt nextCode
    rw [if_pos ⟨by omega, by omega⟩, h2, Int.toNat_natCast, hi, h3]
  · obtain ⟨j, rfl⟩ : ∃ j, k = j + 1 := ⟨k - 1, by omega⟩
    obtain ⟨r, hr⟩ := symsTo_split xs j (15 - (j + 1))
    rw [show j + 1 + (15 - (j + 1)) = 15 from by omega] at hr
    unfold symAt
    rw [show ((codeTo bs p (j + 1) : Int) - firstAt (cntOf xs) (j + 1)).toNat = i from by omega, hr, Nat.add_sub_cancel, ← h4, rd_appR, rd_appL (by omega)]
theorem Next_hit (h r base : Nat) (A : Option Addr) (len cap p : Nat) (xs bs : List Int) (w : World) (hC : Coder w base h xs) (hxs : xs.length ≤ 1000000) (hR : RdrAt w r A len cap p) (hB : Rd w .u8 A len bs) (hb : ∀ j, j < len → 0 ≤ rd bs j ∧ rd bs j ≤ 255) (hne : ∀ b o, A = some ⟨b, o, none⟩ → b ≠ r) (hlen : len ≤ 1000000) (hp : p ≤ 8 * len) (hhr : h ≠ r) :
    Calls Tryd.prog 75 #[.pointer (some ⟨h, 0, none⟩), .pointer (some ⟨r, 0, none⟩)] w fun e w' =>
      ((∃ s : Nat, Hit xs bs p (8 * len - p) s ∧ e = .returned (.tuple #[.int .i64 s, .bool true]) ∧ RdrAt w' r A len cap (p + (rd xs s).toNat)) ∨
       ((∀ s, ¬ Hit xs bs p (8 * len - p) s) ∧ e = .returned (.tuple #[.int .i64 0, .bool false]) ∧ ∃ q, q ≤ 8 * len ∧ RdrAt w' r A len cap q)) ∧ w.grownBy w' (some r) := by
  refine (Next_calls h r base A len cap p xs bs w hC hxs hR hB hb hne hlen hp hhr).mono ?_
  rintro e w1 ⟨h1 | h1, hg⟩
  · obtain ⟨k, k0, k15, kp, kno, kh, rfl, kr⟩ := h1
    obtain ⟨s, s1, s2, s3⟩ := hit_sym xs bs p (8 * len - p) k k0 k15 (by omega) kh
    rw [s3]
    exact ⟨.inl ⟨s, s1, rfl, by rw [s2]; exact kr⟩, hg⟩
  · obtain ⟨k, k15, kp, kno, kk, rfl, kr⟩ := h1
    refine ⟨.inr ⟨fun s hs => ?_, rfl, _, by omega, kr⟩, hg⟩
    have hb1 := hs.b
    obtain ⟨_, g2, g3, g4, _⟩ := hs
    rw [kno _ (by omega) (by omega)] at hb1
    cases hb1
end Go.Proofs.YtkjoncllnlmdgaaDoor
