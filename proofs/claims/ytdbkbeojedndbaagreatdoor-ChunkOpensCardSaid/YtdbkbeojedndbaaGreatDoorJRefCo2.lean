/-
  Texts joined into one file: HuffD, HuffQ, HuffN, BitsP, Bits.
-/
import Derived.Test.YtdbkbeojedndbaaGreatDoorJRefCo1
import Derived.OneCell
import Derived.BigQuiet
import Derived.Deep.RegionWith
import Derived.Deep.Cut
import Derived.Deep.CutRange
import Derived.Deep.CutBlock
import Derived.BigRegion
import Derived.IntWalk
import Derived.WalkSmall
import Derived.Laws.Bits64b
import Derived.Deep.RegionHeld3
namespace Go.Proofs.YtdbkbeojedndbaaGreatDoor
open Go.RowKit

theorem elU64 : ElT Tryz.prog 68 36 (.int .u64 0) 1 8 := ⟨Tryz.underlying68, by kernel_rfl, rfl, by decide, by decide⟩

theorem lensOk_at {xs : List Int} (h : lensOk xs = true) (s : Nat) (hs : s < xs.length) : 0 ≤ rd xs s ∧ rd xs s ≤ 15 := by
 have := List.all_eq_true.1 h xs[s] (List.getElem_mem _)
 rw [rd_getElem hs]
 simpa using this

set_option maxHeartbeats 2000000 in
set_option maxRecDepth 200000 in
theorem Codes_calls (A : Option Addr) (n cap : Nat) (xs : List Int) (w : World) (hR : Rd w .i64 A n xs) (hn : n ≤ 1000000) (hok : lensOk xs = true) :
  Calls Tryz.prog 70 #[.slice A n cap] w fun e w' => ∃ v, e = .returned v ∧ w'.ownsRow w.heap.size 36 1 v n (ints .u64 (codesOf xs)) ∧ Below w.heap.size w w' := by
 have HR := Lib.hid hR
 have hlen := Lib.hid hR.1
 have Hok := Lib.hid hok
 clear hR hok
 go_enter Tryz.func70, Tryz.ntmps70
 go_wp2_with fail
 refine (counts_calls A n cap xs _ HR.out (by omega)).mono ?_
 rintro e w1 ⟨l, hl, rfl, hcnt, hb1⟩
 obtain rfl := hcnt Hok.out
 have Hl := Lib.hid hl
 have Hb1 := Lib.hid hb1
 have hs1 := hb1.size
 have Hc := Lib.hid (rd_cntOf xs)
 clear hl hcnt hb1
 generalize hcd : cntOf xs = c at *
 have Hcd := Lib.hid hcd
 clear hcd
 have W2 : Hid (∀ o, Below w.heap.size w (World.setRow (w1.alloc o) w1.heap.size (ints .i64 c).toArray)) := fun o => (below_new Hb1.out (Nat.le_refl _) _).trans ⟨rfl, rfl, rfl, by simp, fun i hi => setRow_other _ w1.heap.size i _ (by omega)⟩
 go_wp2_with (first
  | (refine wpList_store_row rfl 133 _ _ rfl w1.heap.size _ rfl rfl 133 _ (heap_alloc_new _ _) (by rw [ints_size, Hl.out]; kernel_rfl) (by rw [ints_size, Hl.out]; rfl) (ints_one _ _) ?_)
  | (refine wpList_load_row rfl 133 _ rfl w1.heap.size rfl 133 _ (0, 0) _ (setRow_heap _ w1.heap.size _ _ 133 _ (heap_alloc_new _ _)) Tryz.underlying133 rfl (by rw [ints_size, Hl.out]; kernel_rfl) ?_))
 refine (firsts_calls c n _ Hl.out hn (by have := Hc.out; rw [hlen.out] at this; exact this)).mono ?_
 rintro e w2 ⟨rfl, hb2⟩
 have Hb2 := Lib.hid (below_seq (W2.out _) (Nat.le_refl _) hb2)
 have hs2 := Hb2.out.size
 have Fl := Lib.hid (firstsOf_length c)
 have W3 : Hid (∀ o, Below w.heap.size w (World.setRow (w2.alloc o) w2.heap.size (ints .u64 (firstsOf c)).toArray)) := fun o => (below_new Hb2.out (Nat.le_refl _) _).trans ⟨rfl, rfl, rfl, by simp, fun i hi => setRow_other _ w2.heap.size i _ (by omega)⟩
 have B3 : Hid (∀ old, Blk (World.setRow (w2.alloc (.cells old 138)) w2.heap.size (ints .u64 (firstsOf c)).toArray) w2.heap.size 138 .u64 (firstsOf c)) := fun old => setRow_heap _ w2.heap.size _ _ 138 _ (heap_alloc_new w2 (Obj.cells old 138))
 clear hb2 W2 Hb1
 go_wp2_with (first
  | (refine wpList_store_row rfl 138 _ _ rfl w2.heap.size _ rfl rfl 138 _ (heap_alloc_new _ _) (by rw [ints_size, Fl.out]; kernel_rfl) (by rw [ints_size, Fl.out]; rfl) (ints_one _ _) ?_)
  | (at_make; refine wpList_mk1 (base := w.heap.size) (n := n) _ rfl _ _ rfl elU64 rfl rfl rfl rfl (by omega) (by simp; omega) ?_; intro w4 hown4 hb4 hsz4))
 have hown4' : w4.ownsRow w.heap.size 36 1 (.slice (some ⟨w2.heap.size + 1, 0, none⟩) n n) n (ints .u64 (List.replicate n 0)) := by simpa using hown4
 have hsz4' : w4.heap.size = w2.heap.size + 1 + 1 := by simpa using hsz4
 have Hown4 := Lib.hid hown4'
 have HB4 := Lib.hid ((B3.out _).below hb4 (by simp))
 have Hb4 := Lib.hid (below_seq (W3.out _) (Nat.le_refl _) hb4)
 have hs4 : w2.heap.size < w4.heap.size := HB4.out.lt
 clear hown4 hown4' hb4 W3 B3 hsz4
 go_loopw [21] (fun i wr => ∃ (s : Nat) (nx l : List Int), s ≤ n ∧ i = .int .i64 s ∧ wr.ownsRow w.heap.size 36 1 (.slice (some ⟨w2.heap.size + 1, 0, none⟩) n n) n (ints .u64 l) ∧ Blk wr w2.heap.size 138 .u64 nx ∧ nx.length = 16 ∧ Hid (∀ j, 0 < j → j < 16 → rd nx j = nextCode xs j s) ∧ Hid (∀ j, j < n → rd l j = if j < s then codeAt xs j else 0) ∧ Below w.heap.size w wr) (fun i _ => n - (intOf i).toNat)
 case atStart =>
  refine ⟨0, _, _, by omega, rfl, Hown4.out, HB4.out, Fl.out, ?_, ?_, Hb4.out⟩
  ·intro j h1 h2
   rw [rd_firstsOf _ _ h2]
   unfold nextCode
   rw [Hcd.out, before_zero]
   exact (Int.add_zero _).symm
  ·intro j hj
   rw [if_neg (by omega), rd_getElem (by rw [List.length_replicate]; exact hj), List.getElem_replicate]
 case round =>
  obtain ⟨s, nx, l, hs, rfl, hown, hB, hnl, Hnx, Hl2, hbel⟩ := hrel
  have hll : l.length = n := by have := hown.1; simpa [ints] using this
  have Hown := Lib.hid hown
  have HB := Lib.hid hB
  have Hbel := Lib.hid hbel
  clear hown hB hbel
  by_cases hlt : s < n
  ·obtain ⟨b, o, rfl, hcx⟩ := HR.out.2 (by omega)
   have z := kept_cell Hbel.out (hcx s hlt)
   clear hcx
   have hx := lensOk_at Hok.out s (by rw [hlen.out]; exact hlt)
   by_cases h0 : rd xs s = 0
   ·have e1 : codeAt xs s = 0 := by unfold codeAt; rw [if_neg (by omega)]
    have H0 := Lib.hid h0
    have Hnx2 : Hid (∀ j, 0 < j → j < 16 → rd nx j = nextCode xs j (s + 1)) := fun j h1 h2 => by
     rw [Hnx.out j h1 h2]
     unfold nextCode
     rw [before_miss xs j s (by rw [hlen.out]; exact hlt) (by rw [H0.out]; omega)]
    rw [h0] at z
    clear h0 hx
    go_wp2
    go_roundw
    case rel =>
     refine ⟨s + 1, nx, l, by omega, by go_num, Hown.out, HB.out, hnl, Hnx2, ?_, Hbel.out⟩
     intro j hj
     rw [Hl2.out j hj]
     by_cases g : j < s
     ·rw [if_pos g, if_pos (by omega)]
     ·rw [if_neg g]
      by_cases g2 : j = s
      ·subst g2; rw [if_pos (by omega), e1]
      ·rw [if_neg (by omega)]
    case measure => simp [intOf]; omega
   ·obtain ⟨k, hk⟩ : ∃ k : Nat, rd xs s = k := ⟨(rd xs s).toNat, by omega⟩
    rw [hk] at z
    have k1 : 0 < k := by omega
    have k2 : k < 16 := by omega
    have hv := nextCode_range xs k s (by omega)
    rw [hlen.out] at hv
    have e1 : codeAt xs s = rd nx k := by
     unfold codeAt
     rw [if_pos (by omega), hk, Hnx.out k k1 k2]
     rfl
    rw [← Hnx.out k k1 k2] at hv
    have E1 := Lib.hid e1
    have HK := Lib.hid hk
    have yc := HB.out.cell (j := k) (by omega)
    have yf := HB.out.frozen k
    have xc := Hown.out.cellAt s (by omega)
    rw [ints_get (by omega)] at xc
    have xf := Hown.out.frozenAt s
    have Hnx2 : Hid (∀ j, 0 < j → j < 16 → rd (nx.set k (rd nx k + 1)) j = nextCode xs j (s + 1)) := fun j h1 h2 => by
     rw [rd_set (by omega)]
     by_cases e : k = j
     ·subst e
      rw [if_pos rfl, Hnx.out k h1 h2]
      unfold nextCode
      rw [before_hit xs k s (by rw [hlen.out]; exact hlt) HK.out]
      omega
     ·rw [if_neg e, Hnx.out j h1 h2]
      unfold nextCode
      rw [before_miss xs j s (by rw [hlen.out]; exact hlt) (by rw [HK.out]; omega)]
    clear h0 hx hk e1
    go_wp2
    go_roundw
    case rel =>
     refine ⟨s + 1, nx.set k (rd nx k + 1), l.set s (rd nx k), by omega, by go_num, ?_, ?_, by rw [List.length_set]; exact hnl, Hnx2, ?_, (Hbel.out.setCell (p := ⟨w2.heap.size + 1, s, none⟩) (by show _ ≤ w2.heap.size + 1; omega) _).setCell (p := ⟨w2.heap.size, k, none⟩) hs2 _⟩
     ·exact ownsRow_setCell_other (a := ⟨w2.heap.size, k, none⟩) (by rw [ints_set]; exact (Hown.out.stored s _).1) (by simp [Value.ownBlock]) _
     ·exact (HB.out.other ⟨w2.heap.size + 1, s, none⟩ _ (by simp)).set k _
     ·intro j hj
      rw [rd_set (by omega), Hl2.out j hj]
      by_cases g2 : s = j
      ·subst g2; rw [if_pos rfl, if_pos (by omega), E1.out]
      ·rw [if_neg g2]
       by_cases g : j < s
       ·rw [if_pos g, if_pos (by omega)]
       ·rw [if_neg g, if_neg (by omega)]
    case measure => simp [intOf]; omega
  ·obtain rfl : s = n := by omega
   have e : l = codesOf xs := ext_rd (by rw [hll, codesOf_length, hlen.out]) (fun j hj => by rw [Hl2.out j (by omega), if_pos (by omega), rd_codesOf _ _ (by rw [hlen.out]; omega)])
   subst e
   go_wp2
   go_ret
   exact ⟨_, rfl, Hown.out, Hbel.out⟩
end Go.Proofs.YtdbkbeojedndbaaGreatDoor
namespace Go.Proofs.YtdbkbeojedndbaaGreatDoor

def tot (f : Nat → Int) : Nat → Int
 | 0 => 0
 | i + 1 => 2 * tot f i + f (i + 1)
def plainSum (f : Nat → Int) : Nat → Int
 | 0 => 0
 | i + 1 => plainSum f i + f (i + 1)
theorem tot_add (f g : Nat → Int) (k : Nat) (hk : 0 < k) (i : Nat) (h : ∀ j, 0 < j → j ≤ i → g j = f j + if j = k then 1 else 0) : tot g i = tot f i + if k ≤ i then 2 ^ (i - k) else 0 := by
 induction i with
 | zero => simp [tot]; omega
 | succ i ih =>
  have h1 := ih (fun j h1 h2 => h j h1 (by omega))
  simp only [tot]
  rw [h1, h (i + 1) (by omega) (Nat.le_refl _)]
  by_cases e : k ≤ i
  ·rw [if_pos e, if_neg (by omega), if_pos (by omega), show i + 1 - k = (i - k) + 1 from by omega, Int.pow_succ]
   omega
  ·rw [if_neg e]
   by_cases e2 : i + 1 = k
   ·rw [if_pos e2, if_pos (by omega), show i + 1 - k = 0 from by omega]
    omega
   ·rw [if_neg e2, if_neg (by omega)]
    omega
theorem plainSum_add (f g : Nat → Int) (k : Nat) (hk : 0 < k) (i : Nat) (h : ∀ j, 0 < j → j ≤ i → g j = f j + if j = k then 1 else 0) : plainSum g i = plainSum f i + if k ≤ i then 1 else 0 := by
 induction i with
 | zero => simp [plainSum]; omega
 | succ i ih =>
  have h1 := ih (fun j h1 h2 => h j h1 (by omega))
  simp only [plainSum]
  rw [h1, h (i + 1) (by omega) (Nat.le_refl _)]
  by_cases e : k ≤ i
  ·rw [if_pos e, if_neg (by omega), if_pos (by omega)]
   omega
  ·rw [if_neg e]
   by_cases e2 : i + 1 = k
   ·rw [if_pos e2, if_pos (by omega)]
    omega
   ·rw [if_neg e2, if_neg (by omega)]
    omega
theorem tot_same (f g : Nat → Int) (i : Nat) (h : ∀ j, 0 < j → j ≤ i → g j = f j) : tot g i = tot f i := by
 induction i with
 | zero => rfl
 | succ i ih => simp only [tot]; rw [ih (fun j h1 h2 => h j h1 (by omega)), h (i + 1) (by omega) (Nat.le_refl _)]
theorem plainSum_same (f g : Nat → Int) (i : Nat) (h : ∀ j, 0 < j → j ≤ i → g j = f j) : plainSum g i = plainSum f i := by
 induction i with
 | zero => rfl
 | succ i ih => simp only [plainSum]; rw [ih (fun j h1 h2 => h j h1 (by omega)), h (i + 1) (by omega) (Nat.le_refl _)]
theorem tot_nil (i : Nat) : tot (fun _ => 0) i = 0 := by
 induction i with
 | zero => rfl
 | succ i ih => simp only [tot]; rw [ih]; rfl
theorem plainSum_nil (i : Nat) : plainSum (fun _ => 0) i = 0 := by
 induction i with
 | zero => rfl
 | succ i ih => simp only [plainSum]; rw [ih]; rfl
theorem leftAt_tot (c : List Int) (i : Nat) : leftAt c i = 2 ^ i - tot (rd c) i := by
 induction i with
 | zero => rfl
 | succ i ih =>
  simp only [leftAt, tot]
  rw [ih, Int.pow_succ]
  omega
theorem sumAt_plain (c : List Int) (i : Nat) : sumAt c i = plainSum (rd c) i := by
 induction i with
 | zero => rfl
 | succ i ih => simp only [sumAt, plainSum]; rw [ih]
def befores (xs : List Int) (s : Nat) (j : Nat) : Int := (before xs j s : Nat)
def sumR (xs : List Int) (s : Nat) : Int := tot (befores xs s) 15
def manyR (xs : List Int) (s : Nat) : Int := plainSum (befores xs s) 15
theorem befores_next (xs : List Int) (s k : Nat) (hs : s < xs.length) (hx : rd xs s = k) (j : Nat) : befores xs (s + 1) j = befores xs s j + if j = k then 1 else 0 := by
 unfold befores
 by_cases e : j = k
 ·subst e; rw [before_hit xs j s hs hx, if_pos rfl]; omega
 ·rw [before_miss xs j s hs (by rw [hx]; omega), if_neg e]; omega
theorem sumR_next (xs : List Int) (s k : Nat) (hs : s < xs.length) (hx : rd xs s = k) (hk : 0 < k) (hk2 : k ≤ 15) : sumR xs (s + 1) = sumR xs s + 2 ^ (15 - k) := by
 have := tot_add (befores xs s) (befores xs (s + 1)) k hk 15 (fun j _ _ => befores_next xs s k hs hx j)
 rw [if_pos hk2] at this
 exact this
theorem manyR_next (xs : List Int) (s k : Nat) (hs : s < xs.length) (hx : rd xs s = k) (hk : 0 < k) (hk2 : k ≤ 15) : manyR xs (s + 1) = manyR xs s + 1 := by
 have := plainSum_add (befores xs s) (befores xs (s + 1)) k hk 15 (fun j _ _ => befores_next xs s k hs hx j)
 rw [if_pos hk2] at this
 exact this
theorem sumR_zero (xs : List Int) (s : Nat) (hs : s < xs.length) (hx : rd xs s = 0) : sumR xs (s + 1) = sumR xs s :=
 tot_same _ _ 15 (fun j h1 _ => by unfold befores; rw [before_miss xs j s hs (by rw [hx]; omega)])
theorem manyR_zero (xs : List Int) (s : Nat) (hs : s < xs.length) (hx : rd xs s = 0) : manyR xs (s + 1) = manyR xs s :=
 plainSum_same _ _ 15 (fun j h1 _ => by unfold befores; rw [before_miss xs j s hs (by rw [hx]; omega)])
theorem sumR_start (xs : List Int) : sumR xs 0 = 0 := (tot_same (fun _ => 0) _ 15 (fun j _ _ => by unfold befores; rw [before_zero]; rfl)).trans (tot_nil 15)
theorem manyR_start (xs : List Int) : manyR xs 0 = 0 := (plainSum_same (fun _ => 0) _ 15 (fun j _ _ => by unfold befores; rw [before_zero]; rfl)).trans (plainSum_nil 15)
theorem cnt_befores (xs : List Int) (j : Nat) (h : 0 < j) (h2 : j ≤ 15) : rd (cntOf xs) j = befores xs xs.length j := rd_cntOf_pos xs j h (by omega)
theorem left_end (xs : List Int) : leftAt (cntOf xs) 15 = 32768 - sumR xs xs.length := by
 rw [leftAt_tot, tot_same (befores xs xs.length) (rd (cntOf xs)) 15 (fun j h1 h2 => cnt_befores xs j h1 h2), show ((2 : Int) ^ 15) = 32768 from by decide +kernel]
 rfl
theorem sum_end (xs : List Int) : sumAt (cntOf xs) 15 = manyR xs xs.length := by
 rw [sumAt_plain, plainSum_same (befores xs xs.length) (rd (cntOf xs)) 15 (fun j h1 h2 => cnt_befores xs j h1 h2)]
 rfl
theorem left_neg (c : List Int) (hc : ∀ j, j < 16 → 0 ≤ rd c j) (i d : Nat) (h : leftAt c i < 0) (hd : i + d ≤ 15) : leftAt c (i + d) < 0 := by
 induction d with
 | zero => exact h
 | succ d ih =>
  have h1 := ih (by omega)
  have h2 := hc (i + d + 1) (by omega)
  show leftAt c (i + d + 1) < 0
  simp only [leftAt]
  omega
theorem sum_mono (c : List Int) (hc : ∀ j, j < 16 → 0 ≤ rd c j) (i d : Nat) (hd : i + d ≤ 15) : sumAt c i ≤ sumAt c (i + d) := by
 induction d with
 | zero => exact Int.le_refl _
 | succ d ih =>
  have h1 := ih (by omega)
  have h2 := hc (i + d + 1) (by omega)
  show sumAt c i ≤ sumAt c (i + d + 1)
  simp only [sumAt]
  omega
theorem left_alone (c : List Int) (hc : ∀ j, j < 16 → 0 ≤ rd c j) (h1 : rd c 1 = 1) (hs : sumAt c 15 = 1) (i : Nat) (hi : i < 15) : 1 ≤ leftAt c (i + 1) := by
 induction i with
 | zero => simp only [leftAt, Nat.zero_add]; omega
 | succ i ih =>
  have h2 := ih (by omega)
  have h3 := sum_mono c hc 1 i (by omega)
  have h4 := sum_mono c hc (i + 2) (15 - (i + 2)) (by omega)
  rw [show i + 2 + (15 - (i + 2)) = 15 from by omega, hs] at h4
  have h5 : sumAt c 1 = 1 := by simp only [sumAt, Nat.zero_add]; omega
  have h6 : sumAt c (i + 2) = sumAt c (i + 1) + rd c (i + 2) := rfl
  rw [Nat.add_comm 1 i] at h3
  have h7 := hc (i + 2) (by omega)
  show 1 ≤ 2 * leftAt c (i + 1) - rd c (i + 2)
  omega
theorem rightOf_end (c : List Int) (hc : ∀ j, j < 16 → 0 ≤ rd c j) : rightOf c = (leftAt c 15 == 0 || (sumAt c 15 == 1 && rd c 1 == 1)) := by
 unfold rightOf
 cases hl : leftOk c 15
 ·rw [Bool.false_and]
  have hex : ∃ i, i < 15 ∧ leftAt c (i + 1) < 0 := by
   unfold leftOk at hl
   rw [List.all_eq_false] at hl
   obtain ⟨i, hi, hn⟩ := hl
   exact ⟨i, List.mem_range.1 hi, by simpa using hn⟩
  obtain ⟨i, hi, hn⟩ := hex
  have h1 := left_neg c hc (i + 1) (15 - (i + 1)) hn (by omega)
  rw [show i + 1 + (15 - (i + 1)) = 15 from by omega] at h1
  have e1 : (leftAt c 15 == 0) = false := by simp; omega
  rw [e1, Bool.false_or]
  cases e2 : (sumAt c 15 == 1)
  ·rfl
  ·cases e3 : (rd c 1 == 1)
   ·rfl
   ·have h9 : 1 ≤ leftAt c 15 := left_alone c hc (by simpa using e3) (by simpa using e2) 14 (by omega)
    omega
 ·rw [Bool.true_and]
def rightR (xs : List Int) : Bool := lensOk xs && (sumR xs xs.length == 32768 || (manyR xs xs.length == 1 && befores xs xs.length 1 == 1))
theorem rightR_eq (xs : List Int) : rightR xs = rightB xs := by
 unfold rightR rightB
 rw [rightOf_end _ (fun j hj => (rd_cntOf xs j hj).1), left_end, sum_end, cnt_befores xs 1 (by omega) (by omega)]
 have : (32768 - sumR xs xs.length == 0) = (sumR xs xs.length == 32768) := by
  rw [Bool.eq_iff_iff]
  simp
  omega
 rw [this]
end Go.Proofs.YtdbkbeojedndbaaGreatDoor
namespace Go.Proofs.YtdbkbeojedndbaaGreatDoor
open Go.RowKit

def CoderAt (w : World) (h : Nat) (m : List Int) (v : Value) : Prop := w.heap[h]? = some (.cells (ints .i64 m ++ [v]).toArray 135 (0, 0))
theorem CoderAt.lt {w : World} {h : Nat} {m : List Int} {v : Value} (hc : CoderAt w h m v) : h < w.heap.size := (Array.getElem?_eq_some_iff.1 hc).1
theorem CoderAt.cell {w : World} {h : Nat} {m : List Int} {v : Value} (hc : CoderAt w h m v) {j : Nat} (hj : j < m.length) : w.cell? ⟨h, j, none⟩ = some (.int .i64 (rd m j)) := by
 rw [cell_of_row w h j _ _ (0, 0) hc, List.getElem?_toArray, List.getElem?_append_left (by rw [ints_length]; exact hj), ints_get hj]
theorem CoderAt.last {w : World} {h : Nat} {m : List Int} {v : Value} (hc : CoderAt w h m v) (hm : m.length = 48) : w.cell? ⟨h, 48, none⟩ = some v := by
 rw [cell_of_row w h 48 _ _ (0, 0) hc, List.getElem?_toArray, List.getElem?_append_right (by rw [ints_length]; omega), ints_length, hm]
 rfl
theorem CoderAt.frozen {w : World} {h : Nat} {m : List Int} {v : Value} (hc : CoderAt w h m v) (j : Nat) : w.frozen? ⟨h, j, none⟩ = false := frozen_of_row w h j _ _ hc
theorem CoderAt.set {w : World} {h : Nat} {m : List Int} {v : Value} (hc : CoderAt w h m v) {j : Nat} (hj : j < m.length) (x : Int) : CoderAt (w.setCell ⟨h, j, none⟩ (.int .i64 x)) h (m.set j x) v := by
 unfold CoderAt
 rw [heap_setCell_same w h j _ _ _ hc, ints_set]
 simp only [List.setIfInBounds_toArray]
 rw [List.set_append_left _ _ (by rw [ints_length]; exact hj)]
theorem CoderAt.setLast {w : World} {h : Nat} {m : List Int} {v : Value} (hc : CoderAt w h m v) (hm : m.length = 48) (u : Value) : CoderAt (w.setCell ⟨h, 48, none⟩ u) h m u := by
 unfold CoderAt
 rw [heap_setCell_same w h 48 _ _ _ hc]
 simp only [List.setIfInBounds_toArray]
 rw [List.set_append_right _ _ (by rw [ints_length]; omega), ints_length, hm]
 rfl
theorem CoderAt.other {w : World} {h : Nat} {m : List Int} {v : Value} (hc : CoderAt w h m v) (a : Addr) (u : Value) (hne : h ≠ a.block) : CoderAt (w.setCell a u) h m v := (heap_setCell_other w a h u hne).trans hc
theorem CoderAt.below {w w' : World} {h : Nat} {m : List Int} {v : Value} (hc : CoderAt w h m v) {B : Nat} (hb : Below B w w') (hB : h < B) : CoderAt w' h m v := (hb.block h hB).trans hc
theorem CoderAt.alloc {w : World} {h : Nat} {m : List Int} {v : Value} (hc : CoderAt w h m v) (o : Obj) : CoderAt (w.alloc o) h m v := (Below.heap_alloc _ _ _ hc.lt).trans hc
theorem own_ne {w : World} {h : Nat} {cells : Array Value} {T e : TypeId} {base n size : Nat} {v : Value} {xs : List Value} (hh : w.heap[h]? = some (.cells cells T (0, 0))) (hT : T ≠ e) (ho : w.ownsRow base e size v n xs) : v.ownBlock ≠ some h := by
 intro hb
 rcases ho.2 with ⟨rfl, _⟩ | ⟨g, cap, cur, rfl, _, hg, _⟩
 ·simp [Value.ownBlock] at hb
 ·simp [Value.ownBlock] at hb
  subst hb
  rw [hh] at hg
  simp at hg
  exact hT hg.2
def ofLen (xs : List Int) (k s : Nat) : List Int := ((List.range s).filter fun j => rd xs j == (k : Int)).map Int.ofNat
def symsTo (xs : List Int) : Nat → List Int
 | 0 => []
 | k + 1 => symsTo xs k ++ ofLen xs (k + 1) xs.length
theorem ofLen_le (xs : List Int) (k s : Nat) : (ofLen xs k s).length ≤ s := by
 unfold ofLen
 have := List.length_filter_le (fun j => rd xs j == (k : Int)) (List.range s)
 simpa using this
theorem ofLen_hit (xs : List Int) (k s : Nat) (h : rd xs s = k) : ofLen xs k (s + 1) = ofLen xs k s ++ [(s : Int)] := by
 unfold ofLen
 simp [List.range_succ, List.filter_append, h]
theorem ofLen_miss (xs : List Int) (k s : Nat) (h : rd xs s ≠ k) : ofLen xs k (s + 1) = ofLen xs k s := by
 unfold ofLen
 have : (rd xs s == (k : Int)) = false := by simpa using h
 simp [List.range_succ, List.filter_append, this]
theorem symsTo_le (xs : List Int) (k : Nat) : (symsTo xs k).length ≤ k * xs.length := by
 induction k with
 | zero => simp [symsTo]
 | succ k ih =>
  have h1 := ofLen_le xs (k + 1) xs.length
  simp only [symsTo, List.length_append, Nat.succ_mul]
  omega
theorem elIntN : ElT Tryz.prog 38 3 (.int .i64 0) 1 8 := ⟨Tryz.underlying38, by kernel_rfl, rfl, by decide, by decide⟩
def Coder (w : World) (base h : Nat) (xs : List Int) : Prop :=
 ∃ (m : List Int) (v : Value), m.length = 48 ∧ base ≤ h ∧ CoderAt w h m v ∧ (∀ j, 0 < j → j ≤ 15 → rd m j = firstAt (cntOf xs) j ∧ rd m (16 + j) = rd (cntOf xs) j ∧ rd m (32 + j) = ((symsTo xs (j - 1)).length : Nat)) ∧ w.ownsRow base 3 1 v (symsTo xs 15).length (ints .i64 (symsTo xs 15))

set_option maxHeartbeats 2000000 in
set_option maxRecDepth 200000 in
theorem New_calls (A : Option Addr) (n cap : Nat) (xs : List Int) (w : World) (hR : Rd w .i64 A n xs) (hn : n ≤ 1000000) :
  Calls Tryz.prog 59 #[.slice A n cap] w fun e w' => (rightB xs = false ∧ e = .returned (.tuple #[.pointer none, .bool false]) ∨ rightB xs = true ∧ ∃ h, e = .returned (.tuple #[.pointer (some ⟨h, 0, none⟩), .bool true]) ∧ Coder w' w.heap.size h xs) ∧ Below w.heap.size w w' := by
 have HR := Lib.hid hR
 have hlen := Lib.hid hR.1
 clear hR
 cases hrt : rightB xs
 ·go_enter Tryz.func59, Tryz.ntmps59
  go_wp2_with fail
  refine (Right_calls A n cap xs _ HR.out (by omega)).mono ?_
  rintro e w1 ⟨rfl, hb1⟩
  rw [hrt]
  have Hb1 := Lib.hid hb1
  clear hb1 hrt
  go_wp2
  refine bodyPost_ret (v := .tuple #[.pointer none, .bool false]) (by simp [results, Tryz.results59, go_sem]) rfl ⟨.inl ⟨trivial, rfl⟩, Hb1.out⟩
 ·have hok : lensOk xs = true := by
   unfold rightB at hrt
   simp at hrt
   exact hrt.1
  have Hok := Lib.hid hok
  clear hok
  go_enter Tryz.func59, Tryz.ntmps59
  go_wp2_with fail
  refine (Right_calls A n cap xs _ HR.out (by omega)).mono ?_
  rintro e w1 ⟨rfl, hb1⟩
  rw [hrt]
  have Hb1 := Lib.hid hb1
  have hs1 := hb1.size
  clear hb1 hrt
  go_wp2_with fail
  refine (counts_calls A n cap xs _ (HR.out.below (below_new Hb1.out (Nat.le_refl _) _)) (by omega)).mono ?_
  rintro e w2 ⟨l, hl, rfl, hcnt, hb2⟩
  obtain rfl := hcnt Hok.out
  have Hl := Lib.hid hl
  have CA : Hid (CoderAt w2 w1.heap.size (List.replicate 48 0) (.slice none 0 0)) := CoderAt.below (m := List.replicate 48 0) (v := .slice none 0 0) (heap_alloc_new w1 _) hb2 (by simp)
  have Hb2 := Lib.hid (below_seq (below_new Hb1.out (Nat.le_refl _) _) (Nat.le_refl _) hb2)
  have hs2 := Hb2.out.size
  have hs12 : w1.heap.size < w2.heap.size := CA.out.lt
  have Hc := Lib.hid (rd_cntOf xs)
  clear hl hcnt hb2 Hb1
  generalize hcd : cntOf xs = c at *
  have Hcd := Lib.hid hcd
  clear hcd
  have W2 : Hid (∀ o, Below w2.heap.size w2 (World.setRow (w2.alloc o) w2.heap.size (ints .i64 c).toArray)) := fun o => (below_new (Below.refl _ _) (Nat.le_refl _) _).trans ⟨rfl, rfl, rfl, by simp, fun i hi => setRow_other _ w2.heap.size i _ (by omega)⟩
  go_wp2_with (first
   | (refine wpList_store_row rfl 133 _ _ rfl w2.heap.size _ rfl rfl 133 _ (heap_alloc_new _ _) (by rw [ints_size, Hl.out]; kernel_rfl) (by rw [ints_size, Hl.out]; rfl) (ints_one _ _) ?_)
   | (refine wpList_load_row rfl 133 _ rfl w2.heap.size rfl 133 _ (0, 0) _ (setRow_heap _ w2.heap.size _ _ 133 _ (heap_alloc_new _ _)) Tryz.underlying133 rfl (by rw [ints_size, Hl.out]; kernel_rfl) ?_))
  have NB2 : Hid (∀ old, Blk (World.setRow (w2.alloc (.cells old 133)) w2.heap.size (ints .i64 c).toArray) w2.heap.size 133 .i64 c) := fun old => setRow_heap _ w2.heap.size _ _ 133 _ (heap_alloc_new w2 (Obj.cells old 133))
  refine (firsts_calls c n _ Hl.out hn (by have := Hc.out; rw [hlen.out] at this; exact this)).mono ?_
  rintro e w3 ⟨rfl, hb3⟩
  have hb23 : Below w2.heap.size w2 w3 := below_seq (W2.out _) (Nat.le_refl _) hb3
  have CA3 := Lib.hid (CA.out.below hb23 hs12)
  have NB3 := Lib.hid ((NB2.out _).below hb3 (by simp))
  have Hb3 := Lib.hid (below_seq Hb2.out (Nat.le_refl _) hb23)
  have hs3 : w2.heap.size < w3.heap.size := NB3.out.lt
  have Fl := Lib.hid (firstsOf_length c)
  have W4 : Hid (∀ o, Below w3.heap.size w3 (World.setRow (w3.alloc o) w3.heap.size (ints .u64 (firstsOf c)).toArray)) := fun o => (below_new (Below.refl _ _) (Nat.le_refl _) _).trans ⟨rfl, rfl, rfl, by simp, fun i hi => setRow_other _ w3.heap.size i _ (by omega)⟩
  have FB4 : Hid (∀ old, Blk (World.setRow (w3.alloc (.cells old 138)) w3.heap.size (ints .u64 (firstsOf c)).toArray) w3.heap.size 138 .u64 (firstsOf c)) := fun old => setRow_heap _ w3.heap.size _ _ 138 _ (heap_alloc_new w3 (Obj.cells old 138))
  clear hb3 hb23 W2 NB2 CA
  go_wp2_with (first
   | (refine wpList_store_row rfl 138 _ _ rfl w3.heap.size _ rfl rfl 138 _ (heap_alloc_new _ _) (by rw [ints_size, Fl.out]; kernel_rfl) (by rw [ints_size, Fl.out]; rfl) (ints_one _ _) ?_))
  go_loopw [8] (fun i wr => ∃ (k : Nat) (m : List Int) (v : Value), k ≤ 15 ∧ i = .int .i64 (1 + k) ∧ m.length = 48 ∧ CoderAt wr w1.heap.size m v ∧ Blk wr w2.heap.size 133 .i64 c ∧ Blk wr w3.heap.size 138 .u64 (firstsOf c) ∧ wr.ownsRow w.heap.size 3 1 v (symsTo xs k).length (ints .i64 (symsTo xs k)) ∧ Hid (∀ j, 0 < j → j ≤ k → rd m j = firstAt c j ∧ rd m (16 + j) = rd c j ∧ rd m (32 + j) = ((symsTo xs (j - 1)).length : Nat)) ∧ Below w.heap.size w wr) (fun i _ => 16 - (intOf i).toNat)
  case atStart =>
   refine ⟨0, List.replicate 48 0, .slice none 0 0, by omega, rfl, by simp, CA3.out.below (W4.out _) (by omega), NB3.out.below (W4.out _) hs3, FB4.out _, World.ownsRow_nil _ _ _ _, (fun j h1 h2 => by omega), below_seq Hb3.out (Nat.le_refl _) (W4.out _)⟩
  case round =>
   obtain ⟨k, m, v, hk, rfl, hm, hC, hN, hF, hown, Hm, hbel⟩ := hrel
   have HC := Lib.hid hC
   have HN := Lib.hid hN
   have HF := Lib.hid hF
   have Hown := Lib.hid hown
   have Hbel := Lib.hid hbel
   have hszr := hbel.size
   have l1 := hC.lt
   have l2 := hN.lt
   have l3 := hF.lt
   clear hC hN hF hown hbel
   by_cases hlt : k < 15
   ·have n1 := HN.out.cell (j := 1 + k) (by rw [Hl.out]; omega)
    have f1 := HF.out.cell (j := 1 + k) (by rw [firstsOf_length]; omega)
    rw [rd_firstsOf _ _ (by omega)] at f1
    obtain ⟨sA, sc, rfl⟩ := own_slice Hown.out
    have c48 := HC.out.last hm
    have ca := HC.out.cell (j := 1 + k) (by omega)
    have cb := HC.out.cell (j := 16 + (1 + k)) (by omega)
    have cd := HC.out.cell (j := 32 + (1 + k)) (by omega)
    have fa := HC.out.frozen (1 + k)
    have fb := HC.out.frozen (16 + (1 + k))
    have fd := HC.out.frozen (32 + (1 + k))
    go_upto_region 9 with fail
    have hfr := firstAt_le c n (by omega) (by have := Hc.out; rw [hlen.out] at this; exact this) (1 + k) (by omega)
    have hlen48 : (symsTo xs k).length ≤ 15000000 := by
     have h1 := symsTo_le xs k
     have h2 : k * xs.length ≤ 15 * xs.length := Nat.mul_le_mul_right _ hk
     rw [hlen.out] at h1 h2
     omega
    have s1 : IntKind.i64.wrap (firstAt c (1 + k)) = firstAt c (1 + k) := IntWalk.i64_in _ (by omega)
    have s2 : ((1 : Int) + k).toNat = 1 + k := by omega
    have s3 : (0 : Int) ≤ 1 + k := by omega
    have s4 : (1 : Int) + k < 16 := by omega
    generalize hlenS : (symsTo xs k).length = L at *
    go_cut [] from 27 to 53 (fun wx => ∃ m', m'.length = 48 ∧ CoderAt wx w1.heap.size m' (.slice sA L sc) ∧ Blk wx w2.heap.size 133 .i64 c ∧ Blk wx w3.heap.size 138 .u64 (firstsOf c) ∧ wx.ownsRow w.heap.size 3 1 (.slice sA L sc) L (ints .i64 (symsTo xs k)) ∧ Hid (∀ j, rd m' j = if j = 1 + k then firstAt c (1 + k) else if j = 16 + (1 + k) then rd c (1 + k) else if j = 32 + (1 + k) then (L : Int) else rd m j) ∧ Below w.heap.size w wx)
    case first =>
     have hd1 : w1.heap.size ≠ w2.heap.size := by omega
     have hd2 : w1.heap.size ≠ w3.heap.size := by omega
     have hv1 := own_ne HC.out (by decide) Hown.out
     go_region
     all_goals
      go_wp2
      go_meet
      refine ⟨((m.set (1 + k) (firstAt c (1 + k))).set (16 + (1 + k)) (rd c (1 + k))).set (32 + (1 + k)) (L : Int), by simp [hm],
       ((HC.out.set (by omega) _).set (by rw [List.length_set]; omega) _).set (by rw [List.length_set, List.length_set]; omega) _,
       ((HN.out.other ⟨w1.heap.size, 1 + k, none⟩ _ (Ne.symm hd1)).other ⟨w1.heap.size, 16 + (1 + k), none⟩ _ (Ne.symm hd1)).other ⟨w1.heap.size, 32 + (1 + k), none⟩ _ (Ne.symm hd1),
       ((HF.out.other ⟨w1.heap.size, 1 + k, none⟩ _ (Ne.symm hd2)).other ⟨w1.heap.size, 16 + (1 + k), none⟩ _ (Ne.symm hd2)).other ⟨w1.heap.size, 32 + (1 + k), none⟩ _ (Ne.symm hd2),
       ownsRow_setCell_other (a := ⟨w1.heap.size, 32 + (1 + k), none⟩) (ownsRow_setCell_other (a := ⟨w1.heap.size, 16 + (1 + k), none⟩) (ownsRow_setCell_other (a := ⟨w1.heap.size, 1 + k, none⟩) Hown.out hv1 _) hv1 _) hv1 _, ?_,
       (((Hbel.out.setCell (p := ⟨w1.heap.size, 1 + k, none⟩) hs1 _).setCell (p := ⟨w1.heap.size, 16 + (1 + k), none⟩) hs1 _).setCell (p := ⟨w1.heap.size, 32 + (1 + k), none⟩) hs1 _).drew⟩
      intro j
      rw [rd_set (by rw [List.length_set, List.length_set]; omega), rd_set (by rw [List.length_set]; omega), rd_set (by omega)]
      by_cases e1 : j = 1 + k
      ·rw [if_pos e1, if_neg (by omega), if_neg (by omega), if_pos (by omega)]
      ·rw [if_neg e1]
       by_cases e2 : j = 16 + (1 + k)
       ·rw [if_pos e2, if_neg (by omega), if_pos (by omega)]
       ·rw [if_neg e2]
        by_cases e3 : j = 32 + (1 + k)
        ·rw [if_pos e3, if_pos (by omega)]
        ·rw [if_neg e3, if_neg (by omega), if_neg (by omega), if_neg (by omega)]
    case rest =>
     clear n1 f1 c48 ca cb cd fa fb fd s1 s2 s3 s4 HC HN HF Hown Hbel
     obtain ⟨m', hm', hC, hN, hF, hown, Hm', hbel⟩ := hcut
     have HC := Lib.hid hC
     have HN := Lib.hid hN
     have HF := Lib.hid hF
     have Hown := Lib.hid hown
     have Hbel := Lib.hid hbel
     clear hC hN hF hown hbel
     go_wp2
     go_loopw [56] (fun i wr => ∃ (s : Nat) (v : Value), s ≤ n ∧ i = .int .i64 s ∧ CoderAt wr w1.heap.size m' v ∧ Blk wr w2.heap.size 133 .i64 c ∧ Blk wr w3.heap.size 138 .u64 (firstsOf c) ∧ wr.ownsRow w.heap.size 3 1 v (L + (ofLen xs (1 + k) s).length) (ints .i64 (symsTo xs k ++ ofLen xs (1 + k) s)) ∧ Below w.heap.size w wr) (fun i _ => n - (intOf i).toNat)
     case atStart => exact ⟨0, .slice sA L sc, by omega, rfl, HC.out, HN.out, HF.out, by rw [show ofLen xs (1 + k) 0 = [] from rfl, List.append_nil]; exact Hown.out, Hbel.out⟩
     case round =>
      obtain ⟨s, v, hs, rfl, hC, hN, hF, hown, hbel⟩ := hrel
      have hv1 := own_ne hC (by decide) hown
      have hv2 := own_ne hN (by decide) hown
      have hv3 := own_ne hF (by decide) hown
      have lo := ofLen_le xs (1 + k) s
      have hszs := hbel.size
      have l1 := hC.lt
      have c48 := hC.last hm'
      have f48 := hC.frozen 48
      have HC := Lib.hid hC
      have HN := Lib.hid hN
      have HF := Lib.hid hF
      have Hown := Lib.hid hown
      have Hbel := Lib.hid hbel
      clear hC hN hF hown hbel
      by_cases hlt2 : s < n
      ·obtain ⟨b, o, rfl, hcx⟩ := HR.out.2 (by omega)
       have z := kept_cell Hbel.out (hcx s hlt2)
       clear hcx
       cases hx : (rd xs s == 1 + (k : Int))
       ·have hmiss := Lib.hid (ofLen_miss xs (1 + k) s (by intro e; rw [e] at hx; simp at hx))
        go_wp2
        go_roundw
        case rel => exact ⟨s + 1, v, by omega, by go_num, HC.out, HN.out, HF.out, by rw [hmiss.out]; exact Hown.out, Hbel.out⟩
        case measure => simp [intOf]; omega
       ·have hhit := Lib.hid (ofLen_hit xs (1 + k) s (by have := eq_of_beq hx; rw [this]; simp))
        obtain ⟨sA2, sc2, rfl⟩ := own_slice Hown.out
        go_wp2_with (at_builtin; refine wpList_app1 rfl _ _ rfl elIntN Hown.out rfl rfl rfl rfl (by omega) (by omega) ?_; intro v' w' hown' hbel' hgrown; have q1 := hgrown.cell (kept_new c48 _) (Ne.symm hv1); have q2 := (World.frozen?_of_block (a := ⟨w1.heap.size, 48, none⟩) (hgrown.block w1.heap.size (by simp; omega) (Ne.symm hv1))).trans ((HC.out.alloc _).frozen 48); obtain ⟨sA3, sc3, rfl⟩ := own_slice hown'; have Hown' := Lib.hid hown'; have Hgrown := Lib.hid hgrown; clear hown' hgrown)
        have g1 : CoderAt w' w1.heap.size m' _ := (Hgrown.out.block w1.heap.size (by simp; omega) (Ne.symm hv1)).trans (HC.out.alloc _)
        have g2 : Blk w' w2.heap.size 133 .i64 c := (Hgrown.out.block w2.heap.size (by simp; have := HN.out.lt; omega) (Ne.symm hv2)).trans (HN.out.alloc _)
        have g3 : Blk w' w3.heap.size 138 .u64 (firstsOf c) := (Hgrown.out.block w3.heap.size (by simp; have := HF.out.lt; omega) (Ne.symm hv3)).trans (HF.out.alloc _)
        have hv4 := own_ne g1 (by decide) Hown'.out
        have G1 := Lib.hid g1
        have G2 := Lib.hid g2
        have G3 := Lib.hid g3
        have Hbel2 := Lib.hid (Hbel.out.trans hbel')
        clear g1 g2 g3 hbel'
        refine ⟨⟨_, _, _, ⟨s + 1, by omega, ?_, _, G1.out.setLast hm' _, G2.out.other ⟨w1.heap.size, 48, none⟩ _ (by show w2.heap.size ≠ w1.heap.size; omega), G3.out.other ⟨w1.heap.size, 48, none⟩ _ (by show w3.heap.size ≠ w1.heap.size; omega), ?_, Hbel2.out.setCell (p := ⟨w1.heap.size, 48, none⟩) hs1 _⟩, rfl, rfl, rfl⟩, ?_⟩
        ·go_num
        ·have h9 := ownsRow_setCell_other (a := ⟨w1.heap.size, 48, none⟩) Hown'.out hv4 (Value.slice sA3 (L + (ofLen xs (1 + k) s).length + 1) sc3)
         rw [hhit.out, List.length_append, ← List.append_assoc, ints_append]
         exact h9
        ·simp [intOf]
         omega
      ·have hsn : s = n := by omega
       rw [hsn, ← hlen.out] at Hown
       have eS : symsTo xs (k + 1) = symsTo xs k ++ ofLen xs (1 + k) xs.length := by rw [Nat.add_comm 1 k]; rfl
       have ES := Lib.hid eS
       clear eS hsn
       go_wp2
       go_roundw
       case rel =>
        refine ⟨k + 1, m', v, by omega, by go_num, hm', HC.out, HN.out, HF.out, ?_, ?_, Hbel.out⟩
        ·rw [ES.out, List.length_append, hlenS]
         exact Hown.out
        ·intro j h1 h2
         by_cases e : j = k + 1
         ·subst e
          refine ⟨?_, ?_, ?_⟩
          ·rw [Hm'.out, if_pos (by omega), Nat.add_comm 1 k]
          ·rw [Hm'.out, if_neg (by omega), if_pos (by omega), Nat.add_comm 1 k]
          ·rw [Hm'.out, if_neg (by omega), if_neg (by omega), if_pos (by omega), Nat.add_sub_cancel, hlenS]
         ·obtain ⟨q1, q2, q3⟩ := Hm.out j h1 (by omega)
          refine ⟨?_, ?_, ?_⟩
          ·rw [Hm'.out, if_neg (by omega), if_neg (by omega), if_neg (by omega), q1]
          ·rw [Hm'.out, if_neg (by omega), if_neg (by omega), if_neg (by omega), q2]
          ·rw [Hm'.out, if_neg (by omega), if_neg (by omega), if_neg (by omega), q3]
       case measure => simp [intOf]; omega
   ·have hk15 : k = 15 := by omega
    rw [hk15] at Hm Hown
    clear hk15
    go_wp2
    refine bodyPost_ret (v := .tuple #[.pointer (some ⟨w1.heap.size, 0, none⟩), .bool true]) (by simp [results, Tryz.results59, go_sem]) rfl ⟨.inr ⟨trivial, w1.heap.size, rfl, m, v, hm, hs1, HC.out, (by rw [Hcd.out]; exact Hm.out), Hown.out⟩, Hbel.out⟩
end Go.Proofs.YtdbkbeojedndbaaGreatDoor
namespace Go.Proofs.YtdbkbeojedndbaaGreatDoor
theorem and7_i64 (p : Nat) (hp : p < 4611686018427387904) : bits BinOp.and IntKind.i64 (p : Int) 7 = ((p % 8 : Nat) : Int) := by
 have h1 : (BitVec.ofInt 64 (p : Int)).toNat = p := by
  rw [BitVec.ofInt_natCast, BitVec.toNat_ofNat]; exact Nat.mod_eq_of_lt (by omega)
 have h2 : (BitVec.ofInt 64 (7 : Int)).toNat = 7 := by decide
 show IntKind.i64.wrap ((BitVec.ofInt 64 (p : Int) &&& BitVec.ofInt 64 (7 : Int)).toNat : Int) = _
 rw [BitVec.toNat_and, h1, h2, show (7 : Nat) = 2 ^ 3 - 1 from rfl, Nat.and_two_pow_sub_one_eq_mod]
 exact IntWalk.i64_in _ (by omega)
theorem and1_u8 (p : Nat) (hp : p < 256) : bits BinOp.and IntKind.u8 (p : Int) 1 = ((p % 2 : Nat) : Int) := by
 have h1 : (BitVec.ofInt 8 (p : Int)).toNat = p := by
  rw [BitVec.ofInt_natCast, BitVec.toNat_ofNat]; exact Nat.mod_eq_of_lt (by omega)
 have h2 : (BitVec.ofInt 8 (1 : Int)).toNat = 1 := by decide
 show IntKind.u8.wrap ((BitVec.ofInt 8 (p : Int) &&& BitVec.ofInt 8 (1 : Int)).toNat : Int) = _
 rw [BitVec.toNat_and, h1, h2, Nat.and_one_is_mod]
 exact IntWalk.u8_in _ (by omega)
theorem or_u64_top (x b k : Nat) (hx : x < 2 ^ k) (hb : b ≤ 1) (hk : k < 64) : bits BinOp.or IntKind.u64 (x : Int) ((b * 2 ^ k : Nat) : Int) = ((x + b * 2 ^ k : Nat) : Int) := by
 have hp : (2 : Nat) ^ k ≤ 2 ^ 63 := Nat.pow_le_pow_right (by omega) (by omega)
 have hp2 : (2 : Nat) ^ 63 = 9223372036854775808 := by decide
 have hb2 : b * 2 ^ k ≤ 2 ^ k := by
  have := Nat.mul_le_mul_right (2 ^ k) hb
  omega
 rw [bits_or_u64_nat x (b * 2 ^ k) (by omega) (by omega)]
 have h := Nat.two_pow_add_eq_or_of_lt hx b
 rw [Nat.mul_comm] at h
 rw [Nat.or_comm, ← h, Nat.add_comm]
end Go.Proofs.YtdbkbeojedndbaaGreatDoor
namespace Go.Proofs.YtdbkbeojedndbaaGreatDoor
open Go.RowKit

def RdrAt (w : World) (r : Nat) (A : Option Addr) (len cap : Nat) (at' : Nat) : Prop := w.heap[r]? = some (.cells #[.slice A len cap, .int .i64 at'] 71 (0, 0))
theorem RdrAt.lt {w : World} {r : Nat} {A : Option Addr} {len cap at' : Nat} (h : RdrAt w r A len cap at') : r < w.heap.size := (Array.getElem?_eq_some_iff.1 h).1
theorem RdrAt.c0 {w : World} {r : Nat} {A : Option Addr} {len cap at' : Nat} (h : RdrAt w r A len cap at') : w.cell? ⟨r, 0, none⟩ = some (.slice A len cap) := by
 rw [cell_of_row w r 0 _ _ (0, 0) h]; rfl
theorem RdrAt.c1 {w : World} {r : Nat} {A : Option Addr} {len cap at' : Nat} (h : RdrAt w r A len cap at') : w.cell? ⟨r, 1, none⟩ = some (.int .i64 at') := by
 rw [cell_of_row w r 1 _ _ (0, 0) h]; rfl
theorem RdrAt.frozen {w : World} {r : Nat} {A : Option Addr} {len cap at' : Nat} (h : RdrAt w r A len cap at') (j : Nat) : w.frozen? ⟨r, j, none⟩ = false := frozen_of_row w r j _ _ h
theorem RdrAt.set {w : World} {r : Nat} {A : Option Addr} {len cap at' : Nat} (h : RdrAt w r A len cap at') (x : Nat) : RdrAt (w.setCell ⟨r, 1, none⟩ (.int .i64 x)) r A len cap x := by
 unfold RdrAt
 rw [heap_setCell_same w r 1 _ _ _ h]
 rfl
theorem RdrAt.keep {w w' : World} {r : Nat} {A : Option Addr} {len cap at' : Nat} (h : RdrAt w r A len cap at') (hb : Below w.heap.size w w') : RdrAt w' r A len cap at' := (hb.block r h.lt).trans h

set_option maxHeartbeats 1000000 in
theorem Left_calls (r : Nat) (A : Option Addr) (len cap at' : Nat) (w : World) (hR : RdrAt w r A len cap at') (hlen : len ≤ 140737488355328) (hat : at' ≤ 8 * len) :
  Calls Tryz.prog 58 #[.pointer (some ⟨r, 0, none⟩)] w fun e w' => e = .returned (.int .i64 (8 * len - at')) ∧ Below w.heap.size w w' := by
 have c0 := hR.c0
 have c1 := hR.c1
 clear hR
 have s1 : IntKind.i64.wrap (8 * (len : Int)) = 8 * len := IntWalk.i64_in _ (by omega)
 have s2 : IntKind.i64.wrap (8 * (len : Int) - at') = 8 * len - at' := IntWalk.i64_in _ (by omega)
 go_enter Tryz.func58, Tryz.ntmps58
 go_wp2
 go_quiet (fail)
 go_wp2
 go_ret
 exact ⟨rfl, (Below.refl _ _).trans ⟨rfl, rfl, rfl, Nat.le_refl _, fun _ _ => rfl⟩⟩

theorem Rd.grown {w w1 : World} {k : IntKind} {A : Option Addr} {n : Nat} {xs : List Int} (h : Rd w k A n xs) {r : Nat} (hg : w.grownBy w1 (some r)) (hne : ∀ b o, A = some ⟨b, o, none⟩ → b ≠ r) : Rd w1 k A n xs :=
 ⟨h.1, fun hn => by obtain ⟨b, o, e, hc⟩ := h.2 hn; exact ⟨b, o, e, fun j hj => hg.cell (hc j hj) (by simpa using hne b o e)⟩⟩
theorem grown_below {w w1 w2 : World} {r : Nat} (h : w.grownBy w1 (some r)) (hb : Below w1.heap.size w1 w2) : w.grownBy w2 (some r) :=
 ⟨hb.os.trans h.os, hb.tape.trans h.tape, hb.output.trans h.output, Nat.le_trans h.size hb.size, fun k hk hne => (hb.block k (Nat.lt_of_lt_of_le hk h.size)).trans (h.block k hk hne)⟩
theorem grown_set {w w1 : World} {r : Nat} (h : w.grownBy w1 (some r)) (j : Nat) (v : Value) : w.grownBy (w1.setCell ⟨r, j, none⟩ v) (some r) :=
 ⟨h.os, h.tape, h.output, by simpa using h.size, fun k hk hne => (heap_setCell_other w1 ⟨r, j, none⟩ k v (by intro e; exact hne (by rw [e]))).trans (h.block k hk hne)⟩
theorem grown_refl (w : World) (row : Option Nat) : w.grownBy w row := ⟨rfl, rfl, rfl, Nat.le_refl _, fun _ _ _ => rfl⟩
def bitAt (bs : List Int) (i : Nat) : Nat := (rd bs (i / 8)).toNat / 2 ^ (i % 8) % 2
def numAt (bs : List Int) (at' : Nat) : Nat → Nat
 | 0 => 0
 | i + 1 => numAt bs at' i + bitAt bs (at' + i) * 2 ^ i
theorem bitAt_le (bs : List Int) (i : Nat) : bitAt bs i ≤ 1 := by unfold bitAt; omega
theorem numAt_lt (bs : List Int) (at' i : Nat) : numAt bs at' i < 2 ^ i := by
 induction i with
 | zero => simp [numAt]
 | succ i ih =>
  have h := Nat.mul_le_mul_right (2 ^ i) (bitAt_le bs (at' + i))
  simp only [numAt, Nat.pow_succ]
  omega
theorem bit_step (bs : List Int) (at' k p y : Nat) (hp : p = at' + k) (hy : rd bs (p / 8) = y) (hy2 : y < 256) (hk : k < 60) :
  bits BinOp.or IntKind.u64 ((numAt bs at' k : Nat) : Int) (IntKind.u64.wrap (IntKind.u64.wrap (bits BinOp.and IntKind.u8 ((y : Int) / 2 ^ (p % 8)) 1) * 2 ^ k)) = ((numAt bs at' (k + 1) : Nat) : Int) := by
 have e1 : (y : Int) / 2 ^ (p % 8) = ((y / 2 ^ (p % 8) : Nat) : Int) := by
  rw [Int.natCast_ediv, Int.natCast_pow]
  rfl
 have hd : y / 2 ^ (p % 8) ≤ y := Nat.div_le_self _ _
 have e2 : bitAt bs p = y / 2 ^ (p % 8) % 2 := by unfold bitAt; rw [hy]; rfl
 have hb := bitAt_le bs p
 have hpow : (2 : Nat) ^ k ≤ 2 ^ 60 := Nat.pow_le_pow_right (by omega) (by omega)
 have hp60 : (2 : Nat) ^ 60 = 1152921504606846976 := by decide
 have hm : bitAt bs p * 2 ^ k ≤ 1 * 2 ^ k := Nat.mul_le_mul_right _ hb
 rw [e1, and1_u8 _ (by omega), ← e2, IntWalk.u64_in ((bitAt bs p : Nat) : Int) (by omega)]
 have e3 : ((bitAt bs p : Nat) : Int) * 2 ^ k = ((bitAt bs p * 2 ^ k : Nat) : Int) := by
  rw [Int.natCast_mul, Int.natCast_pow]
  rfl
 rw [e3, IntWalk.u64_in _ (by omega), or_u64_top _ _ _ (numAt_lt bs at' k) hb (by omega)]
 simp only [numAt, hp]
set_option maxHeartbeats 1000000 in
theorem Bits_calls (r : Nat) (A : Option Addr) (len cap at' n : Nat) (bs : List Int) (w : World) (hR : RdrAt w r A len cap at') (hB : Rd w .u8 A len bs) (hb : ∀ j, j < len → 0 ≤ rd bs j ∧ rd bs j ≤ 255) (hne : ∀ b o, A = some ⟨b, o, none⟩ → b ≠ r) (hlen : len ≤ 140737488355328) (hat : at' ≤ 8 * len) (hn : n ≤ 60) (hok : at' + n ≤ 8 * len) :
  Calls Tryz.prog 43 #[.pointer (some ⟨r, 0, none⟩), .int .i64 n] w fun e w' => e = .returned (.tuple #[(.int .u64 (numAt bs at' n : Nat)), .bool true]) ∧ RdrAt w' r A len cap (at' + n) ∧ w.grownBy w' (some r) := by
 have HR := Lib.hid hR
 have HB := Lib.hid hB
 have Hb := Lib.hid hb
 clear hR hB hb
 go_enter Tryz.func43, Tryz.ntmps43
 go_wp2_with fail
 refine (Left_calls r A len cap at' _ HR.out hlen hat).mono ?_
 rintro e w1 ⟨rfl, hb1⟩
 have HR1 := Lib.hid (HR.out.keep hb1)
 have HB1 := Lib.hid (HB.out.below hb1)
 have Hb1 := Lib.hid hb1
 clear hb1
 go_wp2
 go_loopw [6, 21] (fun x i wr => ∃ k : Nat, k ≤ n ∧ i = .int .i64 k ∧ x = .int .u64 (numAt bs at' k : Nat) ∧ RdrAt wr r A len cap (at' + k) ∧ Hid (w.grownBy wr (some r))) (fun _ i _ => n - (intOf i).toNat)
 case atStart => exact ⟨0, by omega, rfl, rfl, HR1.out, grown_below (grown_refl w _) Hb1.out⟩
 case round =>
  obtain ⟨k, hk, rfl, rfl, hR, Hg⟩ := hrel
  have HRk := Lib.hid hR
  have c0 := hR.c0
  have c1 := hR.c1
  have f1 := hR.frozen 1
  clear hR
  by_cases hlt : k < n
  ·obtain ⟨b, o, rfl, hc⟩ := (HB.out.grown Hg.out hne).2 (by omega)
   obtain ⟨p, hp⟩ : ∃ p : Nat, p = at' + k := ⟨_, rfl⟩
   have Hp := Lib.hid hp
   rw [← hp] at c1
   have hj : p / 8 < len := by omega
   have z := hc _ hj
   clear hc hp
   have hbr := Hb.out _ hj
   have s1 : ((p : Int) / 8).toNat = p / 8 := by omega
   have s2 : (0 : Int) ≤ (p : Int) / 8 := by omega
   have s3 : (p : Int) / 8 < len := by omega
   obtain ⟨y, hy⟩ : ∃ y : Nat, rd bs (p / 8) = y := ⟨(rd bs (p / 8)).toNat, by omega⟩
   rw [hy] at z hbr
   have Ev := Lib.hid (bit_step bs at' k p y Hp.out hy (by omega) (by omega))
   obtain ⟨q, hq⟩ : ∃ q : Nat, q = p % 8 := ⟨_, rfl⟩
   have a1 := and7_i64 p (by omega)
   rw [← hq] at a1
   have hbit : bitAt bs p = y / 2 ^ q % 2 := by unfold bitAt; rw [hy, ← hq]; rfl
   have Hbit := Lib.hid hbit
   have hyd : y / 2 ^ q ≤ y := Nat.div_le_self _ _
   obtain ⟨u, hu⟩ : ∃ u : Nat, u = y / 2 ^ q := ⟨_, rfl⟩
   have a2 := and1_u8 u (by omega)
   have hq8 : q < 8 := by omega
   clear hbit
   go_wp2
   go_region
   rw [Ev.out]
   go_wp2
   go_roundw
   case rel =>
    refine ⟨k + 1, by omega, by go_num, rfl, ?_, grown_set (grown_below Hg.out (Below.refl _ _).drew) 1 _⟩
    have h9 : RdrAt (wr.setCell ⟨r, 1, none⟩ (.int .i64 ((p : Int) + 1))) r (some ⟨b, o, none⟩) len cap (p + 1) := HRk.out.set (p + 1)
    rw [show at' + (k + 1) = p + 1 from by rw [Hp.out]; omega]
    exact h9
   case measure => simp [intOf]; omega
  ·have hkn : k = n := by omega
   rw [hkn] at HRk
   go_wp2
   refine bodyPost_ret (v := .tuple #[.int .u64 (numAt bs at' k : Nat), .bool true]) (by simp [results, Tryz.results43, go_sem]) rfl ⟨by rw [hkn], HRk.out, Hg.out⟩
set_option maxHeartbeats 1000000 in
theorem BitsShort_calls (r : Nat) (A : Option Addr) (len cap at' n : Nat) (w : World) (hR : RdrAt w r A len cap at') (hlen : len ≤ 140737488355328) (hat : at' ≤ 8 * len) (hn : n ≤ 60) (hno : 8 * len < at' + n) :
  Calls Tryz.prog 43 #[.pointer (some ⟨r, 0, none⟩), .int .i64 n] w fun e w' => e = .returned (.tuple #[.int .u64 0, .bool false]) ∧ Below w.heap.size w w' := by
 have HR := Lib.hid hR
 clear hR
 go_enter Tryz.func43, Tryz.ntmps43
 go_wp2_with fail
 refine (Left_calls r A len cap at' _ HR.out hlen hat).mono ?_
 rintro e w1 ⟨rfl, hb1⟩
 have Hb1 := Lib.hid hb1
 clear hb1
 go_wp2
 refine bodyPost_ret (v := .tuple #[.int .u64 0, .bool false]) (by simp [results, Tryz.results43, go_sem]) rfl ⟨rfl, Hb1.out⟩
end Go.Proofs.YtdbkbeojedndbaaGreatDoor
