/-
  The walk of Codes.
-/
import Derived.Test.YtempgkglhgelkaaHuffC
import Derived.OneCell
import Derived.BigQuiet
namespace Go.Proofs.Ytempgkglhgelkaa
open Go.RowKit

theorem elU64 : ElT Try.prog 46 30 (.int .u64 0) 1 8 := ⟨Try.underlying46, by kernel_rfl, rfl, by decide, by decide⟩

theorem lensOk_at {xs : List Int} (h : lensOk xs = true) (s : Nat) (hs : s < xs.length) : 0 ≤ rd xs s ∧ rd xs s ≤ 15 := by
  have := List.all_eq_true.1 h xs[s] (List.getElem_mem _)
  rw [rd_getElem hs]
  simpa using this

set_option maxHeartbeats 2000000 in
set_option maxRecDepth 200000 in
theorem Codes_calls (A : Option Addr) (n cap : Nat) (xs : List Int) (w : World) (hR : Rd w .i64 A n xs) (hn : n ≤ 1000000) (hok : lensOk xs = true) :
    Calls Try.prog 24 #[.slice A n cap] w fun e w' => ∃ v, e = .returned v ∧ w'.ownsRow w.heap.size 30 1 v n (ints .u64 (codesOf xs)) ∧ Below w.heap.size w w' := by
  have HR := Lib.hid hR
  have hlen := Lib.hid hR.1
  have Hok := Lib.hid hok
  clear hR hok
  go_enter Try.func24, Try.ntmps24
  go_wp2_with fail
  refine (counts_calls A n cap xs _ HR.out (by omega)).mono ?_
  rintro e w1 ⟨l, hl, rfl, hcnt, hb1⟩
  obtain rfl := hcnt Hok.out
  have Hl := Lib.hid hl
  have Hb1 := Lib.hid hb1
  have hs1 := hb1.size
  have Hc := Lib.hid (rd_cntOf xs)
  clear hl hcnt hb1
  generalize hcd : cntOf xs = c at *
  have Hcd := Lib.hid hcd
  clear hcd
  have W2 : Hid (∀ o, Below w.heap.size w (World.setRow (w1.alloc o) w1.heap.size (ints .i64 c).toArray)) := fun o => (below_new Hb1.out (Nat.le_refl _) _).trans ⟨rfl, rfl, rfl, by simp, fun i hi => setRow_other _ w1.heap.size i _ (by omega)⟩
  go_wp2_with (first
    | (refine wpList_store_row rfl 59 _ _ rfl w1.heap.size _ rfl rfl 59 _ (heap_alloc_new _ _) (by rw [ints_size, Hl.out]; kernel_rfl) (by rw [ints_size, Hl.out]; rfl) (ints_one _ _) ?_)
    | (refine wpList_load_row rfl 59 _ rfl w1.heap.size rfl 59 _ (0, 0) _ (setRow_heap _ w1.heap.size _ _ 59 _ (heap_alloc_new _ _)) Try.underlying59 rfl (by rw [ints_size, Hl.out]; kernel_rfl) ?_))
  refine (firsts_calls c n _ Hl.out hn (by have := Hc.out; rw [hlen.out] at this; exact this)).mono ?_
  rintro e w2 ⟨rfl, hb2⟩
  have Hb2 := Lib.hid (below_seq (W2.out _) (Nat.le_refl _) hb2)
  have hs2 := Hb2.out.size
  have Fl := Lib.hid (firstsOf_length c)
  have W3 : Hid (∀ o, Below w.heap.size w (World.setRow (w2.alloc o) w2.heap.size (ints .u64 (firstsOf c)).toArray)) := fun o => (below_new Hb2.out (Nat.le_refl _) _).trans ⟨rfl, rfl, rfl, by simp, fun i hi => setRow_other _ w2.heap.size i _ (by omega)⟩
  have B3 : Hid (∀ old, Blk (World.setRow (w2.alloc (.cells old 64)) w2.heap.size (ints .u64 (firstsOf c)).toArray) w2.heap.size 64 .u64 (firstsOf c)) := fun old => setRow_heap _ w2.heap.size _ _ 64 _ (heap_alloc_new w2 (Obj.cells old 64))
  clear hb2 W2 Hb1
  go_wp2_with (first
    | (refine wpList_store_row rfl 64 _ _ rfl w2.heap.size _ rfl rfl 64 _ (heap_alloc_new _ _) (by rw [ints_size, Fl.out]; kernel_rfl) (by rw [ints_size, Fl.out]; rfl) (ints_one _ _) ?_)
    | (at_make; refine wpList_mk1 (base := w.heap.size) (n := n) _ rfl _ _ rfl elU64 rfl rfl rfl rfl (by omega) (by simp; omega) ?_; intro w4 hown4 hb4 hsz4))
  have hown4' : w4.ownsRow w.heap.size 30 1 (.slice (some ⟨w2.heap.size + 1, 0, none⟩) n n) n (ints .u64 (List.replicate n 0)) := by simpa using hown4
  have hsz4' : w4.heap.size = w2.heap.size + 1 + 1 := by simpa using hsz4
  have Hown4 := Lib.hid hown4'
  have HB4 := Lib.hid ((B3.out _).below hb4 (by simp))
  have Hb4 := Lib.hid (below_seq (W3.out _) (Nat.le_refl _) hb4)
  have hs4 : w2.heap.size < w4.heap.size := HB4.out.lt
  clear hown4 hown4' hb4 W3 B3 hsz4
  go_loopw [21] (fun i wr => ∃ (s : Nat) (nx l : List Int), s ≤ n ∧ i = .int .i64 s ∧ wr.ownsRow w.heap.size 30 1 (.slice (some ⟨w2.heap.size + 1, 0, none⟩) n n) n (ints .u64 l) ∧ Blk wr w2.heap.size 64 .u64 nx ∧ nx.length = 16 ∧ Hid (∀ j, 0 < j → j < 16 → rd nx j = nextCode xs j s) ∧ Hid (∀ j, j < n → rd l j = if j < s then codeAt xs j else 0) ∧ Below w.heap.size w wr) (fun i _ => n - (intOf i).toNat)
  case atStart =>
    refine ⟨0, _, _, by omega, rfl, Hown4.out, HB4.out, Fl.out, ?_, ?_, Hb4.out⟩
    · intro j h1 h2
      rw [rd_firstsOf _ _ h2]
      unfold nextCode
      rw [Hcd.out, before_zero]
      exact (Int.add_zero _).symm
    · intro j hj
      rw [if_neg (by omega), rd_getElem (by rw [List.length_replicate]; exact hj), List.getElem_replicate]
  case round =>
    obtain ⟨s, nx, l, hs, rfl, hown, hB, hnl, Hnx, Hl2, hbel⟩ := hrel
    have hll : l.length = n := by have := hown.1; simpa [ints] using this
    have Hown := Lib.hid hown
    have HB := Lib.hid hB
    have Hbel := Lib.hid hbel
    clear hown hB hbel
    by_cases hlt : s < n
    · obtain ⟨b, o, rfl, hcx⟩ := HR.out.2 (by omega)
      have z := kept_cell Hbel.out (hcx s hlt)
      clear hcx
      have hx := lensOk_at Hok.out s (by rw [hlen.out]; exact hlt)
      by_cases h0 : rd xs s = 0
      · have e1 : codeAt xs s = 0 := by unfold codeAt; rw [if_neg (by omega)]
        have H0 := Lib.hid h0
        have Hnx2 : Hid (∀ j, 0 < j → j < 16 → rd nx j = nextCode xs j (s + 1)) := fun j h1 h2 => by
          rw [Hnx.out j h1 h2]
          unfold nextCode
          rw [before_miss xs j s (by rw [hlen.out]; exact hlt) (by rw [H0.out]; omega)]
        rw [h0] at z
        clear h0 hx
        go_wp2
        go_roundw
        case rel =>
          refine ⟨s + 1, nx, l, by omega, by go_num, Hown.out, HB.out, hnl, Hnx2, ?_, Hbel.out⟩
          intro j hj
          rw [Hl2.out j hj]
          by_cases g : j < s
          · rw [if_pos g, if_pos (by omega)]
          · rw [if_neg g]
            by_cases g2 : j = s
            · subst g2; rw [if_pos (by omega), e1]
            · rw [if_neg (by omega)]
        case measure => simp [intOf]; omega
      · obtain ⟨k, hk⟩ : ∃ k : Nat, rd xs s = k := ⟨(rd xs s).toNat, by omega⟩
        rw [hk] at z
        have k1 : 0 < k := by omega
        have k2 : k < 16 := by omega
        have hv := nextCode_range xs k s (by omega)
        rw [hlen.out] at hv
        have e1 : codeAt xs s = rd nx k := by
          unfold codeAt
          rw [if_pos (by omega), hk, Hnx.out k k1 k2]
          rfl
        rw [← Hnx.out k k1 k2] at hv
        have E1 := Lib.hid e1
        have HK := Lib.hid hk
        have yc := HB.out.cell (j := k) (by omega)
        have yf := HB.out.frozen k
        have xc := Hown.out.cellAt s (by omega)
        rw [ints_get (by omega)] at xc
        have xf := Hown.out.frozenAt s
        have Hnx2 : Hid (∀ j, 0 < j → j < 16 → rd (nx.set k (rd nx k + 1)) j = nextCode xs j (s + 1)) := fun j h1 h2 => by
          rw [rd_set (by omega)]
          by_cases e : k = j
          · subst e
            rw [if_pos rfl, Hnx.out k h1 h2]
            unfold nextCode
            rw [before_hit xs k s (by rw [hlen.out]; exact hlt) HK.out]
            omega
          · rw [if_neg e, Hnx.out j h1 h2]
            unfold nextCode
            rw [before_miss xs j s (by rw [hlen.out]; exact hlt) (by rw [HK.out]; omega)]
        clear h0 hx hk e1
        go_wp2
        go_roundw
        case rel =>
          refine ⟨s + 1, nx.set k (rd nx k + 1), l.set s (rd nx k), by omega, by go_num, ?_, ?_, by rw [List.length_set]; exact hnl, Hnx2, ?_, (Hbel.out.setCell (p := ⟨w2.heap.size + 1, s, none⟩) (by show _ ≤ w2.heap.size + 1; omega) _).setCell (p := ⟨w2.heap.size, k, none⟩) hs2 _⟩
          · exact ownsRow_setCell_other (a := ⟨w2.heap.size, k, none⟩) (by rw [ints_set]; exact (Hown.out.stored s _).1) (by simp [Value.ownBlock]) _
          · exact (HB.out.other ⟨w2.heap.size + 1, s, none⟩ _ (by simp)).set k _
          · intro j hj
            rw [rd_set (by omega), Hl2.out j hj]
            by_cases g2 : s = j
            · subst g2; rw [if_pos rfl, if_pos (by omega), E1.out]
            · rw [if_neg g2]
              by_cases g : j < s
              · rw [if_pos g, if_pos (by omega)]
              · rw [if_neg g, if_neg (by omega)]
        case measure => simp [intOf]; omega
    · obtain rfl : s = n := by omega
      have e : l = codesOf xs := ext_rd (by rw [hll, codesOf_length, hlen.out]) (fun j hj => by rw [Hl2.out j (by omega), if_pos (by omega), rd_codesOf _ _ (by rw [hlen.out]; omega)])
      subst e
      go_wp2
      go_ret
      exact ⟨_, rfl, Hown.out, Hbel.out⟩
end Go.Proofs.Ytempgkglhgelkaa
