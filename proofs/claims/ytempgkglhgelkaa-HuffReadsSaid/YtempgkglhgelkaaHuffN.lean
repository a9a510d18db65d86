/-
  The walk of New.
-/
import Derived.Test.YtempgkglhgelkaaHuffD
import Derived.Test.YtempgkglhgelkaaHuffQ
import Derived.Deep.RegionWith
import Derived.Deep.Cut
import Derived.Deep.CutRange
import Derived.Deep.CutBlock
import Derived.BigRegion
import Derived.OneCell
import Derived.IntWalk
namespace Go.Proofs.Ytempgkglhgelkaa
open Go.RowKit

/-- A coder: 48 numbers, and a slice. -/
def CoderAt (w : World) (h : Nat) (m : List Int) (v : Value) : Prop := w.heap[h]? = some (.cells (ints .i64 m ++ [v]).toArray 63 (0, 0))
theorem CoderAt.lt {w : World} {h : Nat} {m : List Int} {v : Value} (hc : CoderAt w h m v) : h < w.heap.size := (Array.getElem?_eq_some_iff.1 hc).1
theorem CoderAt.cell {w : World} {h : Nat} {m : List Int} {v : Value} (hc : CoderAt w h m v) {j : Nat} (hj : j < m.length) : w.cell? ⟨h, j, none⟩ = some (.int .i64 (rd m j)) := by
  rw [cell_of_row w h j _ _ (0, 0) hc, List.getElem?_toArray, List.getElem?_append_left (by rw [ints_length]; exact hj), ints_get hj]
theorem CoderAt.last {w : World} {h : Nat} {m : List Int} {v : Value} (hc : CoderAt w h m v) (hm : m.length = 48) : w.cell? ⟨h, 48, none⟩ = some v := by
  rw [cell_of_row w h 48 _ _ (0, 0) hc, List.getElem?_toArray, List.getElem?_append_right (by rw [ints_length]; omega), ints_length, hm]
  rfl
theorem CoderAt.frozen {w : World} {h : Nat} {m : List Int} {v : Value} (hc : CoderAt w h m v) (j : Nat) : w.frozen? ⟨h, j, none⟩ = false := frozen_of_row w h j _ _ hc
theorem CoderAt.set {w : World} {h : Nat} {m : List Int} {v : Value} (hc : CoderAt w h m v) {j : Nat} (hj : j < m.length) (x : Int) : CoderAt (w.setCell ⟨h, j, none⟩ (.int .i64 x)) h (m.set j x) v := by
  unfold CoderAt
  rw [heap_setCell_same w h j _ _ _ hc, ints_set]
  simp only [List.setIfInBounds_toArray]
  rw [List.set_append_left _ _ (by rw [ints_length]; exact hj)]
theorem CoderAt.setLast {w : World} {h : Nat} {m : List Int} {v : Value} (hc : CoderAt w h m v) (hm : m.length = 48) (u : Value) : CoderAt (w.setCell ⟨h, 48, none⟩ u) h m u := by
  unfold CoderAt
  rw [heap_setCell_same w h 48 _ _ _ hc]
  simp only [List.setIfInBounds_toArray]
  rw [List.set_append_right _ _ (by rw [ints_length]; omega), ints_length, hm]
  rfl
theorem CoderAt.other {w : World} {h : Nat} {m : List Int} {v : Value} (hc : CoderAt w h m v) (a : Addr) (u : Value) (hne : h ≠ a.block) : CoderAt (w.setCell a u) h m v := (heap_setCell_other w a h u hne).trans hc
theorem CoderAt.below {w w' : World} {h : Nat} {m : List Int} {v : Value} (hc : CoderAt w h m v) {B : Nat} (hb : Below B w w') (hB : h < B) : CoderAt w' h m v := (hb.block h hB).trans hc
theorem CoderAt.alloc {w : World} {h : Nat} {m : List Int} {v : Value} (hc : CoderAt w h m v) (o : Obj) : CoderAt (w.alloc o) h m v := (Below.heap_alloc _ _ _ hc.lt).trans hc
theorem own_ne {w : World} {h : Nat} {cells : Array Value} {T e : TypeId} {base n size : Nat} {v : Value} {xs : List Value} (hh : w.heap[h]? = some (.cells cells T (0, 0))) (hT : T ≠ e) (ho : w.ownsRow base e size v n xs) : v.ownBlock ≠ some h := by
  intro hb
  rcases ho.2 with ⟨rfl, _⟩ | ⟨g, cap, cur, rfl, _, hg, _⟩
  · simp [Value.ownBlock] at hb
  · simp [Value.ownBlock] at hb
    subst hb
    rw [hh] at hg
    simp at hg
    exact hT hg.2
def ofLen (xs : List Int) (k s : Nat) : List Int := ((List.range s).filter fun j => rd xs j == (k : Int)).map Int.ofNat
def symsTo (xs : List Int) : Nat → List Int
  | 0 => []
  | k + 1 => symsTo xs k ++ ofLen xs (k + 1) xs.length
theorem ofLen_le (xs : List Int) (k s : Nat) : (ofLen xs k s).length ≤ s := by
  unfold ofLen
  have := List.length_filter_le (fun j => rd xs j == (k : Int)) (List.range s)
  simpa using this
theorem ofLen_hit (xs : List Int) (k s : Nat) (h : rd xs s = k) : ofLen xs k (s + 1) = ofLen xs k s ++ [(s : Int)] := by
  unfold ofLen
  simp [List.range_succ, List.filter_append, h]
theorem ofLen_miss (xs : List Int) (k s : Nat) (h : rd xs s ≠ k) : ofLen xs k (s + 1) = ofLen xs k s := by
  unfold ofLen
  have : (rd xs s == (k : Int)) = false := by simpa using h
  simp [List.range_succ, List.filter_append, this]
theorem symsTo_le (xs : List Int) (k : Nat) : (symsTo xs k).length ≤ k * xs.length := by
  induction k with
  | zero => simp [symsTo]
  | succ k ih =>
    have h1 := ofLen_le xs (k + 1) xs.length
    simp only [symsTo, List.length_append, Nat.succ_mul]
    omega
theorem elIntN : ElT Try.prog 26 3 (.int .i64 0) 1 8 := ⟨Try.underlying26, by kernel_rfl, rfl, by decide, by decide⟩
/-- A coder of such lengths. -/
def Coder (w : World) (base h : Nat) (xs : List Int) : Prop :=
  ∃ (m : List Int) (v : Value), m.length = 48 ∧ base ≤ h ∧ CoderAt w h m v ∧ (∀ j, 0 < j → j ≤ 15 → rd m j = firstAt (cntOf xs) j ∧ rd m (16 + j) = rd (cntOf xs) j ∧ rd m (32 + j) = ((symsTo xs (j - 1)).length : Nat)) ∧ w.ownsRow base 3 1 v (symsTo xs 15).length (ints .i64 (symsTo xs 15))

set_option maxHeartbeats 2000000 in
set_option maxRecDepth 200000 in
theorem New_calls (A : Option Addr) (n cap : Nat) (xs : List Int) (w : World) (hR : Rd w .i64 A n xs) (hn : n ≤ 1000000) :
    Calls Try.prog 22 #[.slice A n cap] w fun e w' => (rightB xs = false ∧ e = .returned (.tuple #[.pointer none, .bool false]) ∨ rightB xs = true ∧ ∃ h, e = .returned (.tuple #[.pointer (some ⟨h, 0, none⟩), .bool true]) ∧ Coder w' w.heap.size h xs) ∧ Below w.heap.size w w' := by
  have HR := Lib.hid hR
  have hlen := Lib.hid hR.1
  clear hR
  cases hrt : rightB xs
  · go_enter Try.func22, Try.ntmps22
    go_wp2_with fail
    refine (Right_calls A n cap xs _ HR.out (by omega)).mono ?_
    rintro e w1 ⟨rfl, hb1⟩
    rw [hrt]
    have Hb1 := Lib.hid hb1
    clear hb1 hrt
    go_wp2
    refine bodyPost_ret (v := .tuple #[.pointer none, .bool false]) (by simp [results, Try.results22, go_sem]) rfl ⟨.inl ⟨trivial, rfl⟩, Hb1.out⟩
  · have hok : lensOk xs = true := by
      unfold rightB at hrt
      simp at hrt
      exact hrt.1
    have Hok := Lib.hid hok
    clear hok
    go_enter Try.func22, Try.ntmps22
    go_wp2_with fail
    refine (Right_calls A n cap xs _ HR.out (by omega)).mono ?_
    rintro e w1 ⟨rfl, hb1⟩
    rw [hrt]
    have Hb1 := Lib.hid hb1
    have hs1 := hb1.size
    clear hb1 hrt
    go_wp2_with fail
    refine (counts_calls A n cap xs _ (HR.out.below (below_new Hb1.out (Nat.le_refl _) _)) (by omega)).mono ?_
    rintro e w2 ⟨l, hl, rfl, hcnt, hb2⟩
    obtain rfl := hcnt Hok.out
    have Hl := Lib.hid hl
    have CA : Hid (CoderAt w2 w1.heap.size (List.replicate 48 0) (.slice none 0 0)) := CoderAt.below (m := List.replicate 48 0) (v := .slice none 0 0) (heap_alloc_new w1 _) hb2 (by simp)
    have Hb2 := Lib.hid (below_seq (below_new Hb1.out (Nat.le_refl _) _) (Nat.le_refl _) hb2)
    have hs2 := Hb2.out.size
    have hs12 : w1.heap.size < w2.heap.size := CA.out.lt
    have Hc := Lib.hid (rd_cntOf xs)
    clear hl hcnt hb2 Hb1
    generalize hcd : cntOf xs = c at *
    have Hcd := Lib.hid hcd
    clear hcd
    have W2 : Hid (∀ o, Below w2.heap.size w2 (World.setRow (w2.alloc o) w2.heap.size (ints .i64 c).toArray)) := fun o => (below_new (Below.refl _ _) (Nat.le_refl _) _).trans ⟨rfl, rfl, rfl, by simp, fun i hi => setRow_other _ w2.heap.size i _ (by omega)⟩
    go_wp2_with (first
      | (refine wpList_store_row rfl 59 _ _ rfl w2.heap.size _ rfl rfl 59 _ (heap_alloc_new _ _) (by rw [ints_size, Hl.out]; kernel_rfl) (by rw [ints_size, Hl.out]; rfl) (ints_one _ _) ?_)
      | (refine wpList_load_row rfl 59 _ rfl w2.heap.size rfl 59 _ (0, 0) _ (setRow_heap _ w2.heap.size _ _ 59 _ (heap_alloc_new _ _)) Try.underlying59 rfl (by rw [ints_size, Hl.out]; kernel_rfl) ?_))
    have NB2 : Hid (∀ old, Blk (World.setRow (w2.alloc (.cells old 59)) w2.heap.size (ints .i64 c).toArray) w2.heap.size 59 .i64 c) := fun old => setRow_heap _ w2.heap.size _ _ 59 _ (heap_alloc_new w2 (Obj.cells old 59))
    refine (firsts_calls c n _ Hl.out hn (by have := Hc.out; rw [hlen.out] at this; exact this)).mono ?_
    rintro e w3 ⟨rfl, hb3⟩
    have hb23 : Below w2.heap.size w2 w3 := below_seq (W2.out _) (Nat.le_refl _) hb3
    have CA3 := Lib.hid (CA.out.below hb23 hs12)
    have NB3 := Lib.hid ((NB2.out _).below hb3 (by simp))
    have Hb3 := Lib.hid (below_seq Hb2.out (Nat.le_refl _) hb23)
    have hs3 : w2.heap.size < w3.heap.size := NB3.out.lt
    have Fl := Lib.hid (firstsOf_length c)
    have W4 : Hid (∀ o, Below w3.heap.size w3 (World.setRow (w3.alloc o) w3.heap.size (ints .u64 (firstsOf c)).toArray)) := fun o => (below_new (Below.refl _ _) (Nat.le_refl _) _).trans ⟨rfl, rfl, rfl, by simp, fun i hi => setRow_other _ w3.heap.size i _ (by omega)⟩
    have FB4 : Hid (∀ old, Blk (World.setRow (w3.alloc (.cells old 64)) w3.heap.size (ints .u64 (firstsOf c)).toArray) w3.heap.size 64 .u64 (firstsOf c)) := fun old => setRow_heap _ w3.heap.size _ _ 64 _ (heap_alloc_new w3 (Obj.cells old 64))
    clear hb3 hb23 W2 NB2 CA
    go_wp2_with (first
      | (refine wpList_store_row rfl 64 _ _ rfl w3.heap.size _ rfl rfl 64 _ (heap_alloc_new _ _) (by rw [ints_size, Fl.out]; kernel_rfl) (by rw [ints_size, Fl.out]; rfl) (ints_one _ _) ?_))
    go_loopw [8] (fun i wr => ∃ (k : Nat) (m : List Int) (v : Value), k ≤ 15 ∧ i = .int .i64 (1 + k) ∧ m.length = 48 ∧ CoderAt wr w1.heap.size m v ∧ Blk wr w2.heap.size 59 .i64 c ∧ Blk wr w3.heap.size 64 .u64 (firstsOf c) ∧ wr.ownsRow w.heap.size 3 1 v (symsTo xs k).length (ints .i64 (symsTo xs k)) ∧ Hid (∀ j, 0 < j → j ≤ k → rd m j = firstAt c j ∧ rd m (16 + j) = rd c j ∧ rd m (32 + j) = ((symsTo xs (j - 1)).length : Nat)) ∧ Below w.heap.size w wr) (fun i _ => 16 - (intOf i).toNat)
    case atStart =>
      refine ⟨0, List.replicate 48 0, .slice none 0 0, by omega, rfl, by simp, CA3.out.below (W4.out _) (by omega), NB3.out.below (W4.out _) hs3, FB4.out _, World.ownsRow_nil _ _ _ _, (fun j h1 h2 => by omega), below_seq Hb3.out (Nat.le_refl _) (W4.out _)⟩
    case round =>
      obtain ⟨k, m, v, hk, rfl, hm, hC, hN, hF, hown, Hm, hbel⟩ := hrel
      have HC := Lib.hid hC
      have HN := Lib.hid hN
      have HF := Lib.hid hF
      have Hown := Lib.hid hown
      have Hbel := Lib.hid hbel
      have hszr := hbel.size
      have l1 := hC.lt
      have l2 := hN.lt
      have l3 := hF.lt
      clear hC hN hF hown hbel
      by_cases hlt : k < 15
      · have n1 := HN.out.cell (j := 1 + k) (by rw [Hl.out]; omega)
        have f1 := HF.out.cell (j := 1 + k) (by rw [firstsOf_length]; omega)
        rw [rd_firstsOf _ _ (by omega)] at f1
        obtain ⟨sA, sc, rfl⟩ := own_slice Hown.out
        have c48 := HC.out.last hm
        have ca := HC.out.cell (j := 1 + k) (by omega)
        have cb := HC.out.cell (j := 16 + (1 + k)) (by omega)
        have cd := HC.out.cell (j := 32 + (1 + k)) (by omega)
        have fa := HC.out.frozen (1 + k)
        have fb := HC.out.frozen (16 + (1 + k))
        have fd := HC.out.frozen (32 + (1 + k))
        go_upto_region 9 with fail
        have hfr := firstAt_le c n (by omega) (by have := Hc.out; rw [hlen.out] at this; exact this) (1 + k) (by omega)
        have hlen48 : (symsTo xs k).length ≤ 15000000 := by
          have h1 := symsTo_le xs k
          have h2 : k * xs.length ≤ 15 * xs.length := Nat.mul_le_mul_right _ hk
          rw [hlen.out] at h1 h2
          omega
        have s1 : IntKind.i64.wrap (firstAt c (1 + k)) = firstAt c (1 + k) := IntWalk.i64_in _ (by omega)
        have s2 : ((1 : Int) + k).toNat = 1 + k := by omega
        have s3 : (0 : Int) ≤ 1 + k := by omega
        have s4 : (1 : Int) + k < 16 := by omega
        generalize hlenS : (symsTo xs k).length = L at *
        go_cut [] from 27 to 53 (fun wx => ∃ m', m'.length = 48 ∧ CoderAt wx w1.heap.size m' (.slice sA L sc) ∧ Blk wx w2.heap.size 59 .i64 c ∧ Blk wx w3.heap.size 64 .u64 (firstsOf c) ∧ wx.ownsRow w.heap.size 3 1 (.slice sA L sc) L (ints .i64 (symsTo xs k)) ∧ Hid (∀ j, rd m' j = if j = 1 + k then firstAt c (1 + k) else if j = 16 + (1 + k) then rd c (1 + k) else if j = 32 + (1 + k) then (L : Int) else rd m j) ∧ Below w.heap.size w wx)
        case first =>
          have hd1 : w1.heap.size ≠ w2.heap.size := by omega
          have hd2 : w1.heap.size ≠ w3.heap.size := by omega
          have hv1 := own_ne HC.out (by decide) Hown.out
          go_region
          all_goals
            go_wp2
            go_meet
            refine ⟨((m.set (1 + k) (firstAt c (1 + k))).set (16 + (1 + k)) (rd c (1 + k))).set (32 + (1 + k)) (L : Int), by simp [hm],
              ((HC.out.set (by omega) _).set (by rw [List.length_set]; omega) _).set (by rw [List.length_set, List.length_set]; omega) _,
              ((HN.out.other ⟨w1.heap.size, 1 + k, none⟩ _ (Ne.symm hd1)).other ⟨w1.heap.size, 16 + (1 + k), none⟩ _ (Ne.symm hd1)).other ⟨w1.heap.size, 32 + (1 + k), none⟩ _ (Ne.symm hd1),
              ((HF.out.other ⟨w1.heap.size, 1 + k, none⟩ _ (Ne.symm hd2)).other ⟨w1.heap.size, 16 + (1 + k), none⟩ _ (Ne.symm hd2)).other ⟨w1.heap.size, 32 + (1 + k), none⟩ _ (Ne.symm hd2),
              ownsRow_setCell_other (a := ⟨w1.heap.size, 32 + (1 + k), none⟩) (ownsRow_setCell_other (a := ⟨w1.heap.size, 16 + (1 + k), none⟩) (ownsRow_setCell_other (a := ⟨w1.heap.size, 1 + k, none⟩) Hown.out hv1 _) hv1 _) hv1 _, ?_,
              (((Hbel.out.setCell (p := ⟨w1.heap.size, 1 + k, none⟩) hs1 _).setCell (p := ⟨w1.heap.size, 16 + (1 + k), none⟩) hs1 _).setCell (p := ⟨w1.heap.size, 32 + (1 + k), none⟩) hs1 _).drew⟩
            intro j
            rw [rd_set (by rw [List.length_set, List.length_set]; omega), rd_set (by rw [List.length_set]; omega), rd_set (by omega)]
            by_cases e1 : j = 1 + k
            · rw [if_pos e1, if_neg (by omega), if_neg (by omega), if_pos (by omega)]
            · rw [if_neg e1]
              by_cases e2 : j = 16 + (1 + k)
              · rw [if_pos e2, if_neg (by omega), if_pos (by omega)]
              · rw [if_neg e2]
                by_cases e3 : j = 32 + (1 + k)
                · rw [if_pos e3, if_pos (by omega)]
                · rw [if_neg e3, if_neg (by omega), if_neg (by omega), if_neg (by omega)]
        case rest =>
          clear n1 f1 c48 ca cb cd fa fb fd s1 s2 s3 s4 HC HN HF Hown Hbel
          obtain ⟨m', hm', hC, hN, hF, hown, Hm', hbel⟩ := hcut
          have HC := Lib.hid hC
          have HN := Lib.hid hN
          have HF := Lib.hid hF
          have Hown := Lib.hid hown
          have Hbel := Lib.hid hbel
          clear hC hN hF hown hbel
          go_wp2
          go_loopw [56] (fun i wr => ∃ (s : Nat) (v : Value), s ≤ n ∧ i = .int .i64 s ∧ CoderAt wr w1.heap.size m' v ∧ Blk wr w2.heap.size 59 .i64 c ∧ Blk wr w3.heap.size 64 .u64 (firstsOf c) ∧ wr.ownsRow w.heap.size 3 1 v (L + (ofLen xs (1 + k) s).length) (ints .i64 (symsTo xs k ++ ofLen xs (1 + k) s)) ∧ Below w.heap.size w wr) (fun i _ => n - (intOf i).toNat)
          case atStart => exact ⟨0, .slice sA L sc, by omega, rfl, HC.out, HN.out, HF.out, by rw [show ofLen xs (1 + k) 0 = [] from rfl, List.append_nil]; exact Hown.out, Hbel.out⟩
          case round =>
            obtain ⟨s, v, hs, rfl, hC, hN, hF, hown, hbel⟩ := hrel
            have hv1 := own_ne hC (by decide) hown
            have hv2 := own_ne hN (by decide) hown
            have hv3 := own_ne hF (by decide) hown
            have lo := ofLen_le xs (1 + k) s
            have hszs := hbel.size
            have l1 := hC.lt
            have c48 := hC.last hm'
            have f48 := hC.frozen 48
            have HC := Lib.hid hC
            have HN := Lib.hid hN
            have HF := Lib.hid hF
            have Hown := Lib.hid hown
            have Hbel := Lib.hid hbel
            clear hC hN hF hown hbel
            by_cases hlt2 : s < n
            · obtain ⟨b, o, rfl, hcx⟩ := HR.out.2 (by omega)
              have z := kept_cell Hbel.out (hcx s hlt2)
              clear hcx
              cases hx : (rd xs s == 1 + (k : Int))
              · have hmiss := Lib.hid (ofLen_miss xs (1 + k) s (by intro e; rw [e] at hx; simp at hx))
                go_wp2
                go_roundw
                case rel => exact ⟨s + 1, v, by omega, by go_num, HC.out, HN.out, HF.out, by rw [hmiss.out]; exact Hown.out, Hbel.out⟩
                case measure => simp [intOf]; omega
              · have hhit := Lib.hid (ofLen_hit xs (1 + k) s (by have := eq_of_beq hx; rw [this]; simp))
                obtain ⟨sA2, sc2, rfl⟩ := own_slice Hown.out
                go_wp2_with (at_builtin; refine wpList_app1 rfl _ _ rfl elIntN Hown.out rfl rfl rfl rfl (by omega) (by omega) ?_; intro v' w' hown' hbel' hgrown; have q1 := hgrown.cell (kept_new c48 _) (Ne.symm hv1); have q2 := (World.frozen?_of_block (a := ⟨w1.heap.size, 48, none⟩) (hgrown.block w1.heap.size (by simp; omega) (Ne.symm hv1))).trans ((HC.out.alloc _).frozen 48); obtain ⟨sA3, sc3, rfl⟩ := own_slice hown'; have Hown' := Lib.hid hown'; have Hgrown := Lib.hid hgrown; clear hown' hgrown)
                have g1 : CoderAt w' w1.heap.size m' _ := (Hgrown.out.block w1.heap.size (by simp; omega) (Ne.symm hv1)).trans (HC.out.alloc _)
                have g2 : Blk w' w2.heap.size 59 .i64 c := (Hgrown.out.block w2.heap.size (by simp; have := HN.out.lt; omega) (Ne.symm hv2)).trans (HN.out.alloc _)
                have g3 : Blk w' w3.heap.size 64 .u64 (firstsOf c) := (Hgrown.out.block w3.heap.size (by simp; have := HF.out.lt; omega) (Ne.symm hv3)).trans (HF.out.alloc _)
                have hv4 := own_ne g1 (by decide) Hown'.out
                have G1 := Lib.hid g1
                have G2 := Lib.hid g2
                have G3 := Lib.hid g3
                have Hbel2 := Lib.hid (Hbel.out.trans hbel')
                clear g1 g2 g3 hbel'
                refine ⟨⟨_, _, _, ⟨s + 1, by omega, ?_, _, G1.out.setLast hm' _, G2.out.other ⟨w1.heap.size, 48, none⟩ _ (by show w2.heap.size ≠ w1.heap.size; omega), G3.out.other ⟨w1.heap.size, 48, none⟩ _ (by show w3.heap.size ≠ w1.heap.size; omega), ?_, Hbel2.out.setCell (p := ⟨w1.heap.size, 48, none⟩) hs1 _⟩, rfl, rfl, rfl⟩, ?_⟩
                · go_num
                · have h9 := ownsRow_setCell_other (a := ⟨w1.heap.size, 48, none⟩) Hown'.out hv4 (Value.slice sA3 (L + (ofLen xs (1 + k) s).length + 1) sc3)
                  rw [hhit.out, List.length_append, ← List.append_assoc, ints_append]
                  exact h9
                · simp [intOf]
                  omega
            · have hsn : s = n := by omega
              rw [hsn, ← hlen.out] at Hown
              have eS : symsTo xs (k + 1) = symsTo xs k ++ ofLen xs (1 + k) xs.length := by rw [Nat.add_comm 1 k]; rfl
              have ES := Lib.hid eS
              clear eS hsn
              go_wp2
              go_roundw
              case rel =>
                refine ⟨k + 1, m', v, by omega, by go_num, hm', HC.out, HN.out, HF.out, ?_, ?_, Hbel.out⟩
                · rw [ES.out, List.length_append, hlenS]
                  exact Hown.out
                · intro j h1 h2
                  by_cases e : j = k + 1
                  · subst e
                    refine ⟨?_, ?_, ?_⟩
                    · rw [Hm'.out, if_pos (by omega), Nat.add_comm 1 k]
                    · rw [Hm'.out, if_neg (by omega), if_pos (by omega), Nat.add_comm 1 k]
                    · rw [Hm'.out, if_neg (by omega), if_neg (by omega), if_pos (by omega), Nat.add_sub_cancel, hlenS]
                  · obtain ⟨q1, q2, q3⟩ := Hm.out j h1 (by omega)
                    refine ⟨?_, ?_, ?_⟩
                    · rw [Hm'.out, if_neg (by omega), if_neg (by omega), if_neg (by omega), q1]
                    · rw [Hm'.out, if_neg (by omega), if_neg (by omega), if_neg (by omega), q2]
                    · rw [Hm'.out, if_neg (by omega), if_neg (by omega), if_neg (by omega), q3]
              case measure => simp [intOf]; omega
      · have hk15 : k = 15 := by omega
        rw [hk15] at Hm Hown
        clear hk15
        go_wp2
        refine bodyPost_ret (v := .tuple #[.pointer (some ⟨w1.heap.size, 0, none⟩), .bool true]) (by simp [results, Try.results22, go_sem]) rfl ⟨.inr ⟨trivial, w1.heap.size, rfl, m, v, hm, hs1, HC.out, (by rw [Hcd.out]; exact Hm.out), Hown.out⟩, Hbel.out⟩
end Go.Proofs.Ytempgkglhgelkaa
