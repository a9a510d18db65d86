/-
  Texts joined into one file: Ref9X, Ref9Y, RefPk.
-/
import Derived.Test.YtendohnkhbgfbaaDoorJRefPk23
import Derived.Test.YtendohnkhbgfbaaDoorJRefPk24
import Derived.Test.YtendohnkhbgfbaaDoorJRefPk27
import Derived.Test.YtendohnkhbgfbaaDoorJRefPk28
import Derived.Test.YtendohnkhbgfbaaDoorJRefPk8
import Derived.Test.YtendohnkhbgfbaaDoorJRefPk21
import Derived.Test.YtendohnkhbgfbaaDoorJRefPk22
namespace Go.Proofs.YtendohnkhbgfbaaDoor
open Go.RowKit

theorem fixedS_le {bs : List Int} {len : Nat} (hl : bs.length = len) (hb : ∀ j, j < len → 0 ≤ rd bs j ∧ rd bs j ≤ 255) (hlen : len ≤ 100000) : (fixedS bs).length ≤ 8000000 := by
 have h1 := toksTo_len fixA_rng fixB_rng (tokOk_press hl hb) (pressL bs).length (Nat.le_refl _)
 rw [toksTo_all] at h1
 have h2 := symCode_len fixA_rng 256
 have h3 := pressL_length bs
 unfold fixedS toksS
 rw [List.length_append, List.length_append]
 show 3 + (_ + _) ≤ _
 omega
theorem dynS_le {bs : List Int} {len : Nat} (hl : bs.length = len) (hb : ∀ j, j < len → 0 ≤ rd bs j ∧ rd bs j ≤ 255) (hlen : len ≤ 100000) : (dynS bs).length ≤ 8000000 := by
 have h1 := toksTo_len (lenA_rng (pressL bs)) (lenD_rng (pressL bs)) (tokOk_press hl hb) (pressL bs).length (Nat.le_refl _)
 rw [toksTo_all] at h1
 have h2 := symCode_len (lenA_rng (pressL bs)) 256
 have h3 := pressL_length bs
 have h4 := putS_len (lenA (pressL bs)) (lenD (pressL bs)) (by rw [lenA_length]; decide) (by rw [lenA_length]; decide) (by rw [lenD_length]; decide) (by rw [lenD_length]; decide) (lenA_rng _) (lenD_rng _)
 unfold dynS toksS
 rw [List.length_append, List.length_append, List.length_append]
 show 3 + (_ + (_ + _)) ≤ _
 omega
theorem putS_bit (xs ys : List Int) : Bit01 (putS xs ys) := by
 have hl : ∀ (vs : List Int) (n m : Nat), Bit01 (lows vs n m) := by
  intro vs n m x hx
  obtain ⟨j, _, h⟩ := List.mem_flatMap.1 hx
  exact lowOf_bit _ _ x h
 have hi : ∀ (ls : List Int) (its : List Item) (k : Nat), Bit01 (bitsIt ls its k) := by
  intro ls its k x hx
  obtain ⟨j, _, h⟩ := List.mem_flatMap.1 hx
  exact ((hiOf_bit _ _).app (lowOf_bit _ _)) x h
 exact ((((lowOf_bit _ _).app (lowOf_bit _ _)).app (lowOf_bit _ _)).app (hl _ _ _)).app (hi _ _ _)
theorem toksS_bit (a b : List Int) (ts : List Tok) : Bit01 (toksS a b ts) := by
 unfold toksS
 rw [← toksTo_all]
 exact (toksTo_bit a b ts _).app (symCode_bit _ _)
theorem bit_lit {L : List Int} (h : ∀ x ∈ L, x = 0 ∨ x = 1) : Bit01 L := h
theorem fixedS_bit (b : List Int) : Bit01 (fixedS b) := (bit_lit (by decide)).app (toksS_bit _ _ _)
theorem dynS_bit (b : List Int) : Bit01 (dynS b) := (bit_lit (by decide)).app ((putS_bit _ _).app (toksS_bit _ _ _))
set_option maxHeartbeats 1000000 in set_option maxRecDepth 100000 in
theorem rFixed_calls (A : Option Addr) (len cap : Nat) (bs : List Int) (w : World) (hR : Rd w .u8 A len bs) (hb : ∀ j, j < len → 0 ≤ rd bs j ∧ rd bs j ≤ 255) (hlen : len ≤ 100000) :
  Calls Tryd.prog 31 #[.slice A len cap] w fun e w' => ∃ v, e = .returned v ∧ Hid (w'.ownsRow w.heap.size 5 1 v (fixedS bs).length (ints .u8 (fixedS bs))) ∧ Below w.heap.size w w' := by
 have HR := Lib.hid hR
 have Hok := Lib.hid (tokOk_press hR.1 hb)
 have hle := fixedS_le hR.1 hb hlen
 have Hle := Lib.hid hle
 have Hpl := Lib.hid (pressL_length bs)
 have Hl := Lib.hid hR.1
 clear hR hb hle
 go_enter Tryd.func31, Tryd.ntmps31
 go_wp2_with fail
 refine (Agreed_calls _).mono ?_
 rintro e w1 ⟨Aa, ca, Ab, cb, rfl, HA1, HB1, _, hb1⟩
 have Hb1 := Lib.hid hb1
 have hs1 := hb1.size
 clear hb1
 go_wp2_with fail
 have HO := Lib.hid (Blk.own (base := w.heap.size) (n := 3) (l := [1, 1, 0]) (k := .u8) (heap_alloc_new w1 (.cells #[.int .u8 1, .int .u8 1, .int .u8 0] 5)) rfl hs1 (by decide))
 have Hn1 := Lib.hid (below_new Hb1.out (Nat.le_refl _) (.cells #[.int .u8 1, .int .u8 1, .int .u8 0] 5))
 have HA2 := Lib.hid (HA1.out.alloc (.cells #[.int .u8 1, .int .u8 1, .int .u8 0] 5))
 have HB2 := Lib.hid (HB1.out.alloc (.cells #[.int .u8 1, .int .u8 1, .int .u8 0] 5))
 refine (rLPress_calls A len cap bs _ (HR.out.below Hn1.out) hlen).mono ?_
 rintro e w2 ⟨vt, rfl, hot, hb2⟩
 have HO2 := Lib.hid (own_below HO.out hb2)
 have HA3 := Lib.hid (HA2.out.below hb2)
 have HB3 := Lib.hid (HB2.out.below hb2)
 have Hn2 := Lib.hid (below_seq Hn1.out (Nat.le_refl _) hb2)
 obtain ⟨At, ct, rfl, htk⟩ := own_toks hot
 have Htk := Lib.hid htk
 have hpl := Hpl.out
 rw [Hl.out] at hpl
 clear hot hb2 htk HO Hn1 HA2 HB2 HA1 HB1
 go_wp2_with fail
 refine (rtokens_calls 288 32 ca cb (pressL bs).length ct _ _ _ fixA fixB (pressL bs) _ HA3.out HB3.out Htk.out Hok.out (by decide) (by decide) (by decide) (by decide) fixA_rng fixB_rng (by omega)).mono ?_
 rintro e w3 ⟨v3, rfl, Ho3, hb3⟩
 have HO3 := Lib.hid (own_below HO2.out hb3)
 have Hn3 := Lib.hid (below_seq Hn2.out (Nat.le_refl _) hb3)
 obtain ⟨A3, c3, rfl, _, hr3⟩ := own_rd Ho3.out
 have Hnn := Lib.hid (own_none Ho3.out)
 have Hr3 := Lib.hid hr3
 have hsz3 := Hn3.out.size
 have hfl : (toksS fixA fixB (pressL bs)).length ≤ 8000000 := by
  have := Hle.out
  unfold fixedS at this
  rw [List.length_append] at this
  omega
 clear hb3 hr3 Ho3
 obtain ⟨nt, hnt⟩ : ∃ n, n = (toksS fixA fixB (pressL bs)).length := ⟨_, rfl⟩
 rw [← hnt] at Hr3 Hnn hfl ⊢
 have Hnt := Lib.hid hnt
 clear hnt
 go_wp2_with (at_builtin; refine wpList_appRd rfl _ _ rfl elB HO3.out rfl rfl Hr3.out Hnn.out (by omega) hsz3 ?_; intro v4 w4 hown4 hg4; have HO4 := Lib.hid hown4; have HB4 := Lib.hid (Hn3.out.grown hg4 hsz3 (fun k hk => (HO3.out.lt k hk).1)); clear hown4 hg4)
 go_ret
 have e4 : [1, 1, 0] ++ toksS fixA fixB (pressL bs) = fixedS bs := rfl
 have h9 := HO4.out
 rw [e4] at h9
 have hl9 : 3 + nt = (fixedS bs).length := by rw [← e4, List.length_append, ← Hnt.out]; rfl
 exact ⟨_, rfl, by rw [← hl9]; exact h9, HB4.out⟩
set_option maxHeartbeats 1000000 in set_option maxRecDepth 100000 in
theorem rDyn_calls (A : Option Addr) (len cap : Nat) (bs : List Int) (w : World) (hR : Rd w .u8 A len bs) (hb : ∀ j, j < len → 0 ≤ rd bs j ∧ rd bs j ≤ 255) (hlen : len ≤ 100000) :
  Calls Tryd.prog 32 #[.slice A len cap] w fun e w' => ∃ v, e = .returned v ∧ Hid (w'.ownsRow w.heap.size 5 1 v (dynS bs).length (ints .u8 (dynS bs))) ∧ Below w.heap.size w w' := by
 have HR := Lib.hid hR
 have Hok := Lib.hid (tokOk_press hR.1 hb)
 have hle := dynS_le hR.1 hb hlen
 have Hle := Lib.hid hle
 have Hpl := Lib.hid (pressL_length bs)
 have Hl := Lib.hid hR.1
 clear hR hb hle
 go_enter Tryd.func32, Tryd.ntmps32
 go_wp2_with fail
 refine (rLPress_calls A len cap bs _ HR.out hlen).mono ?_
 rintro e w1 ⟨vt, rfl, hot, hb1⟩
 obtain ⟨ts, hts⟩ : ∃ ts, ts = pressL bs := ⟨_, rfl⟩
 have hpl := Hpl.out
 rw [Hl.out] at hpl
 rw [← hts] at hot Hok hpl
 have Hts := Lib.hid hts
 have hnt := fun g (e : vt.ownBlock = some g) => (hot.lt g e)
 obtain ⟨At, ct, rfl, htk⟩ := own_toks hot
 have Hnt : Hid (∀ g o, At = some ⟨g, o, none⟩ → g < w1.heap.size) := fun g o e => (hnt g (by rw [e]; rfl)).2
 have Htk := Lib.hid htk
 have Hb1 := Lib.hid hb1
 have hsz1 := hb1.size
 obtain ⟨nt, hnte⟩ : ∃ n, n = ts.length := ⟨_, rfl⟩
 rw [← hnte] at hpl Htk ⊢
 have Hnl := Lib.hid hnte
 clear hot htk hb1 hts hnt hnte
 go_wp2_with fail
 refine (rWeights_calls At nt ct ts _ Htk.out (by omega) (by rw [Hnl.out]; exact tokWf_press Hok.out) (fun j hj => (Hok.out j (by rw [← Hnl.out]; exact hj)).2)).mono ?_
 rintro e w2 ⟨ga, gb, la, lb, rfl, hoa, hob, Hla, Hlb, hb2⟩
 have hla : la = wtsA ts := wtsA_is (by have := hoa.1; simpa [ints] using this) Hla.out
 have hlb : lb = wtsD ts := wtsD_is (by have := hob.1; simpa [ints] using this) Hlb.out
 rw [hla] at hoa
 rw [hlb] at hob
 obtain ⟨_, _, e1, _, hra⟩ := own_rd hoa
 cases e1
 obtain ⟨_, _, e2, _, hrb⟩ := own_rd hob
 cases e2
 have Hra := Lib.hid hra
 have Hrb := Lib.hid hrb
 have Htk2 := Lib.hid (Htk.out.below hb2)
 have Hb2 := Lib.hid (below_seq Hb1.out (Nat.le_refl _) hb2)
 have hsz2 := hb2.size
 have hsA := wtsA_sum ts
 have hsD := wtsD_sum ts
 rw [← Hnl.out] at hsA hsD
 clear hoa hob hra hrb Hla Hlb hla hlb hb2
 go_wp2_with fail
 refine (refLengths_calls 15 _ 286 286 (wtsA ts) _ (by omega) Hra.out (fun e => by cases e) (by omega) (fun x hx => (wtsA_mem x hx).1) (by omega) (Nat.le_trans (posTo_le _ _) (by rw [wtsA_length]; decide))).mono ?_
 rintro e w3 ⟨v3, rfl, ho3, hb3⟩
 rw [show lensOf 15 (wtsA ts) = lenA ts from rfl] at ho3
 obtain ⟨g3, c3, rfl, _, hg3, hc3, _, _⟩ := own_form ho3 (by decide)
 obtain ⟨_, _, e3, _, hr3⟩ := own_rd ho3
 cases e3
 have Hr3 := Lib.hid hr3
 have Hrb3 := Lib.hid (Hrb.out.below hb3)
 have Htk3 := Lib.hid (Htk2.out.below hb3)
 have Hb3 := Lib.hid (below_seq Hb2.out (Nat.le_refl _) hb3)
 have hsz3 := hb3.size
 clear ho3 hr3 hb3
 go_wp2_with fail
 refine (refLengths_calls 15 _ 30 30 (wtsD ts) _ (by omega) Hrb3.out (fun e => by cases e) (by omega) (fun x hx => (wtsD_mem x hx).1) (by omega) (Nat.le_trans (posTo_le _ _) (by rw [wtsD_length]; decide))).mono ?_
 rintro e w4 ⟨v4, rfl, ho4, hb4⟩
 rw [show lensOf 15 (wtsD ts) = lenD ts from rfl] at ho4
 obtain ⟨g4, c4, rfl, _, hg4, hc4, _, _⟩ := own_form ho4 (by decide)
 obtain ⟨_, _, e4, _, hr4⟩ := own_rd ho4
 cases e4
 have Hr4 := Lib.hid hr4
 have Hr34 := Lib.hid (Hr3.out.below hb4)
 have Htk4 := Lib.hid (Htk3.out.below hb4)
 have Hb4 := Lib.hid (below_seq Hb3.out (Nat.le_refl _) hb4)
 have hsz4 := hb4.size
 have hs4 := Hb4.out.size
 have Hlt4 : Hid (g3 < w4.heap.size ∧ g4 < w4.heap.size ∧ w1.heap.size ≤ w4.heap.size) := Lib.hid (show g3 < w4.heap.size ∧ g4 < w4.heap.size ∧ w1.heap.size ≤ w4.heap.size by omega)
 clear ho4 hr4 hb4 Hr3 Hrb3 Hra Hrb
 go_wp2_with fail
 have HO := Lib.hid (Blk.own (base := w4.heap.size) (n := 3) (l := [1, 0, 1]) (k := .u8) (heap_alloc_new w4 (.cells #[.int .u8 1, .int .u8 0, .int .u8 1] 5)) rfl (Nat.le_refl _) (by decide))
 have hn5 : Below w4.heap.size w4 (w4.alloc (.cells #[.int .u8 1, .int .u8 0, .int .u8 1] 5)) := (Below.refl _ _).alloc (Nat.le_refl _) _
 have Hn5 := Lib.hid hn5
 have hsz5 := hn5.size
 clear hn5
 refine (refPut_calls _ _ 286 c3 30 c4 (lenA ts) (lenD ts) _ (Hr34.out.below Hn5.out) (Hr4.out.below Hn5.out) (by decide) (by decide) (by decide) (by decide) hc3 hc4 (fun j _ => lenA_rng ts j) (fun j _ => lenD_rng ts j)).mono ?_
 rintro e w6 ⟨v6, rfl, ho6, hb6⟩
 have HO6 := Lib.hid (own_below HO.out hb6)
 have HF6 : Hid (From w4.heap.size w4 w6) := From.step ⟨Hn5.out, hsz5⟩ hb6
 obtain ⟨A6, c6, rfl, _, hp6⟩ := own_rd ho6
 have Hp6 := Lib.hid hp6
 have Hpn := Lib.hid (own_none ho6)
 have hplen := putS_len (lenA ts) (lenD ts) (by rw [lenA_length]; decide) (by rw [lenA_length]; decide) (by rw [lenD_length]; decide) (by rw [lenD_length]; decide) (lenA_rng ts) (lenD_rng ts)
 obtain ⟨np, hnp⟩ : ∃ n, n = (putS (lenA ts) (lenD ts)).length := ⟨_, rfl⟩
 rw [← hnp] at Hp6 Hpn hplen ⊢
 have Hnp := Lib.hid hnp
 have hsz6 := HF6.out.size
 clear ho6 hp6 hb6 hnp HO Hn5 hsz5
 go_wp2_with (first | (at_builtin; refine wpList_appRd rfl _ _ rfl elB HO6.out rfl rfl Hp6.out Hpn.out (by omega) hsz6 ?_; intro v7 w7 hown7 hg7; have HO7 := Lib.hid hown7; have HF7 := Lib.hid (HF6.out.app HO6.out hg7); clear hown7 hg7) | fail)
 refine (rtokens_calls 286 30 c3 c4 nt ct _ _ _ (lenA ts) (lenD ts) ts _ (Hr34.out.fromW HF7.out (fun b o e => by cases e; exact Hlt4.out.1)) (Hr4.out.fromW HF7.out (fun b o e => by cases e; exact Hlt4.out.2.1)) ⟨Htk4.out.1, fun hn => by obtain ⟨b, o, e, hc⟩ := Htk4.out.2 hn; have hB : b < w4.heap.size := Nat.lt_of_lt_of_le (Hnt.out b o e) Hlt4.out.2.2; exact ⟨b, o, e, fun j hj => ⟨From.cell (hc j hj).1 hB _ HF7.out, From.cell (hc j hj).2.1 hB _ HF7.out, From.cell (hc j hj).2.2 hB _ HF7.out⟩⟩⟩ Hok.out (by decide) (by decide) (by decide) (by decide) (lenA_rng ts) (lenD_rng ts) (by omega)).mono ?_
 rintro e w8 ⟨v8, rfl, Ho8, hb8⟩
 have HO8 := Lib.hid (own_below HO7.out hb8)
 have HF8 := Lib.hid (HF7.out.step hb8)
 obtain ⟨A8, c8, rfl, _, hr8⟩ := own_rd Ho8.out
 have Hnn := Lib.hid (own_none Ho8.out)
 have Hr8 := Lib.hid hr8
 have hsz8 := HF8.out.size
 have hfl : np + (toksS (lenA ts) (lenD ts) ts).length ≤ 8000000 := by
  have := Hle.out
  unfold dynS at this
  rw [← Hts.out, List.length_append, List.length_append, ← Hnp.out] at this
  omega
 clear hb8 hr8 Ho8 HO6 HF6 HO7 HF7
 obtain ⟨n8, hn8⟩ : ∃ n, n = (toksS (lenA ts) (lenD ts) ts).length := ⟨_, rfl⟩
 rw [← hn8] at Hr8 Hnn hfl ⊢
 have Hn8 := Lib.hid hn8
 clear hn8
 go_wp2_with (at_builtin; refine wpList_appRd rfl _ _ rfl elB HO8.out rfl rfl Hr8.out Hnn.out (by omega) hsz8 ?_; intro v9 w9 hown9 hg9; have HO9 := Lib.hid hown9; have HF9 := Lib.hid (HF8.out.app HO8.out hg9); clear hown9 hg9)
 go_ret
 have e9 : ([1, 0, 1] ++ putS (lenA ts) (lenD ts)) ++ toksS (lenA ts) (lenD ts) ts = dynS bs := by rw [Hts.out, List.append_assoc]; rfl
 have h9 := HO9.out
 rw [e9] at h9
 have hl9 : 3 + np + n8 = (dynS bs).length := by rw [← e9, List.length_append, List.length_append, ← Hn8.out, ← Hnp.out]; rfl
 exact ⟨_, rfl, by rw [← hl9]; exact own_mono h9 hs4, Hb4.out.trans (HF9.out.bel.mono hs4)⟩
end Go.Proofs.YtendohnkhbgfbaaDoor
namespace Go.Proofs.YtendohnkhbgfbaaDoor
open Go.RowKit

set_option maxHeartbeats 1000000 in set_option maxRecDepth 100000 in
theorem rPress_calls (A : Option Addr) (len cap : Nat) (bs : List Int) (w : World) (hR : Rd w .u8 A len bs) (hb : ∀ j, j < len → 0 ≤ rd bs j ∧ rd bs j ≤ 255) (hA : A = none → len = 0 ∧ cap = 0) (hcap : len ≤ cap) (hlen : len ≤ 100000) :
  Calls Tryd.prog 19 #[.slice A len cap] w fun e w' => ∃ v, e = .returned v ∧ Hid (w'.ownsRow w.heap.size 5 1 v (pressB bs).length (ints .u8 (pressB bs))) ∧ Below w.heap.size w w' := by
 have HR := Lib.hid hR
 have Hb := Lib.hid hb
 have HfL := Lib.hid (fixedS_le hR.1 hb hlen)
 have HdL := Lib.hid (dynS_le hR.1 hb hlen)
 have Hfb := Lib.hid (fixedS_bit bs)
 have Hdb := Lib.hid (dynS_bit bs)
 have hsl : (storedB bs).length ≤ 700000 := by
  have := storedB_le (bs.length + 1) bs
  unfold storedB
  have h1 := hR.1
  omega
 have HA := Lib.hid hA
 clear hR hb hA
 go_enter Tryd.func19, Tryd.ntmps19
 go_wp2_with fail
 refine (rStored_calls A len cap bs _ HR.out HA.out hcap (by omega)).mono ?_
 rintro e w1 ⟨v1, rfl, ho1, hb1⟩
 obtain ⟨A1, c1, rfl⟩ := own_slice ho1
 have Ho1 := Lib.hid ho1
 have Hb1 := Lib.hid hb1
 have hsz1 := hb1.size
 obtain ⟨n0, hn0⟩ : ∃ n, n = (storedB bs).length := ⟨_, rfl⟩
 rw [← hn0] at Ho1 hsl ⊢
 have Hn0 := Lib.hid hn0
 clear ho1 hb1 hn0
 go_wp2_with fail
 refine (rFixed_calls A len cap bs _ (HR.out.below Hb1.out) Hb.out hlen).mono ?_
 rintro e w2 ⟨v2, rfl, Ho2, hb2⟩
 obtain ⟨A2, c2, rfl, _, hr2⟩ := own_rd Ho2.out
 have Hn2 := Lib.hid (own_none Ho2.out)
 have Hr2 := Lib.hid hr2
 have Ho12 := Lib.hid (own_below Ho1.out hb2)
 have Hb2 := Lib.hid (below_seq Hb1.out (Nat.le_refl _) hb2)
 have hsz2 := Hb2.out.size
 clear hb2 hr2
 obtain ⟨nf, hnf⟩ : ∃ n, n = (fixedS bs).length := ⟨_, rfl⟩
 rw [← hnf] at Hr2 Hn2 ⊢
 have Hnf := Lib.hid hnf
 have hfl := HfL.out
 rw [← hnf] at hfl
 clear hnf Ho2
 go_wp2_with fail
 refine (rDyn_calls A len cap bs _ (HR.out.below Hb2.out) Hb.out hlen).mono ?_
 rintro e w3 ⟨v3, rfl, Ho3, hb3⟩
 obtain ⟨A3, c3, rfl, _, hr3⟩ := own_rd Ho3.out
 have Hn3 := Lib.hid (own_none Ho3.out)
 have Hr3 := Lib.hid hr3
 have Ho13 := Lib.hid (own_below Ho12.out hb3)
 have Hr23 := Lib.hid (Hr2.out.below hb3)
 have Hb3 := Lib.hid (below_seq Hb2.out (Nat.le_refl _) hb3)
 have hsz3 := Hb3.out.size
 clear hb3 hr3
 obtain ⟨nd, hnd⟩ : ∃ n, n = (dynS bs).length := ⟨_, rfl⟩
 rw [← hnd] at Hr3 Hn3 ⊢
 have Hnd := Lib.hid hnd
 have hdl := HdL.out
 rw [← hnd] at hdl
 have hpb : pressB bs = if nf < 8 * n0 then (if nd < nf then packB (dynS bs) else packB (fixedS bs)) else if nd < 8 * n0 then packB (dynS bs) else storedB bs := by rw [Hnf.out, Hnd.out, Hn0.out]; rfl
 have Hpb := Lib.hid hpb
 clear hnd Ho3 hpb
 obtain ⟨m8, h8⟩ : ∃ m, m = 8 * n0 := ⟨_, rfl⟩
 rw [show (8 * (n0 : Int)) = (m8 : Int) by omega]
 have H8 := Lib.hid h8
 rw [← h8] at Hpb
 have hm8 : m8 ≤ 8000000 := by omega
 clear h8
 by_cases hf : nf < m8
 ·go_wp2_with fail
  refine (Bytes_calls A2 nf c2 (fixedS bs) _ Hr23.out Hn2.out Hfb.out (by omega)).mono ?_
  rintro e w4 ⟨v4, rfl, ho4, hb4⟩
  rw [show (nf + 7) / 8 = (packB (fixedS bs)).length by rw [packB_length, Hnf.out]] at ho4
  have Ho4 := Lib.hid (own_mono ho4 hsz3)
  have Hr34 := Lib.hid (Hr3.out.below hb4)
  have Hb4 := Lib.hid (below_seq Hb3.out (Nat.le_refl _) hb4)
  clear ho4 hb4
  by_cases hd : nd < nf
  ·go_wp2_with fail
   refine (Bytes_calls A3 nd c3 (dynS bs) _ Hr34.out Hn3.out Hdb.out (by omega)).mono ?_
   rintro e w5 ⟨v5, rfl, ho5, hb5⟩
   rw [show (nd + 7) / 8 = (packB (dynS bs)).length by rw [packB_length, Hnd.out]] at ho5
   have Ho5 := Lib.hid (own_mono ho5 Hb4.out.size)
   have Hb5 := Lib.hid (below_seq Hb4.out (Nat.le_refl _) hb5)
   clear ho5 hb5
   go_wp2_with fail
   go_ret
   have hp := Hpb.out
   rw [if_pos hf, if_pos hd] at hp
   exact ⟨_, rfl, by rw [hp]; exact Ho5.out, Hb5.out⟩
  ·go_wp2_with fail
   go_ret
   have hp := Hpb.out
   rw [if_pos hf, if_neg hd] at hp
   exact ⟨_, rfl, by rw [hp]; exact Ho4.out, Hb4.out⟩
 ·by_cases hd : nd < m8
  ·go_wp2_with fail
   refine (Bytes_calls A3 nd c3 (dynS bs) _ Hr3.out Hn3.out Hdb.out (by omega)).mono ?_
   rintro e w5 ⟨v5, rfl, ho5, hb5⟩
   rw [show (nd + 7) / 8 = (packB (dynS bs)).length by rw [packB_length, Hnd.out]] at ho5
   have Ho5 := Lib.hid (own_mono ho5 hsz3)
   have Hb5 := Lib.hid (below_seq Hb3.out (Nat.le_refl _) hb5)
   clear ho5 hb5
   go_wp2_with fail
   go_ret
   have hp := Hpb.out
   rw [if_neg hf, if_pos hd] at hp
   exact ⟨_, rfl, by rw [hp]; exact Ho5.out, Hb5.out⟩
  ·go_wp2_with fail
   go_ret
   have hp := Hpb.out
   rw [if_neg hf, if_neg hd] at hp
   exact ⟨_, rfl, by rw [hp, ← Hn0.out]; exact Ho13.out, Hb3.out⟩
end Go.Proofs.YtendohnkhbgfbaaDoor
namespace Go.Proofs.YtendohnkhbgfbaaDoor
open Go.RowKit

set_option maxHeartbeats 1000000 in set_option maxRecDepth 100000 in
theorem rPack_calls (A : Option Addr) (len cap : Nat) (bs : List Int) (w : World) (hR : Rd w .u8 A len bs) (hb : ∀ x ∈ bs, 0 ≤ x ∧ x ≤ 255) (hA : A = none → len = 0 ∧ cap = 0) (hcap : len ≤ cap) (hlen : len ≤ 100000) :
  Calls Tryd.prog 11 #[.slice A len cap] w fun e w' => ∃ A' n' c', e = .returned (.tuple #[.int .i64 (packK bs).1, .slice A' n' c']) ∧ Hid (Rd w' .u8 A' n' (packK bs).2) ∧ Hid (A' = none → n' = 0 ∧ c' = 0) ∧ n' ≤ c' ∧ Below w.heap.size w w' := by
 have HR := Lib.hid hR
 have Hb := Lib.hid hb
 have HA := Lib.hid hA
 have Hl := Lib.hid hR.1
 clear hR hb hA
 go_enter Tryd.func11, Tryd.ntmps11
 by_cases h256 : 256 ≤ len
 ·have h255 : 255 < (len : Int) := by omega
  go_wp2_with fail
  refine (rPress_calls A len cap bs _ HR.out (fun j hj => rd_bytes Hb.out j (by rw [Hl.out]; exact hj)) HA.out hcap hlen).mono ?_
  rintro e w1 ⟨v1, rfl, ho1, hb1⟩
  obtain ⟨m1, hm1⟩ : ∃ m1, m1 = (pressB bs).length := ⟨_, rfl⟩
  rw [← hm1] at ho1
  obtain ⟨A1, c1, e1, hc1, hr1⟩ := own_rd ho1.out
  subst e1
  have Hr1 := Lib.hid hr1
  have Hn1 := Lib.hid (own_none ho1.out)
  have HB1 := Lib.hid hb1
  clear ho1 hr1 hb1
  by_cases hlt : m1 < len
  ·have hpk := packK_pos (bs := bs) (by rw [Hl.out]; exact h256) (by rw [Hl.out, ← hm1]; exact hlt)
   have Hpk := Lib.hid hpk
   clear hm1 hpk
   go_wp2_with fail
   refine bodyPost_ret (v := .tuple #[.int .i64 2, .slice A1 m1 c1]) (by simp [results, Tryd.results11, go_sem]) rfl ⟨A1, m1, c1, by rw [Hpk.out], by rw [Hpk.out]; exact Hr1, Hn1, hc1, HB1.out⟩
  ·have hpk := packK_neg (bs := bs) (by rw [Hl.out, ← hm1]; omega)
   have Hpk := Lib.hid hpk
   clear hm1 hpk
   go_wp2_with fail
   refine bodyPost_ret (v := .tuple #[.int .i64 1, .slice A len cap]) (by simp [results, Tryd.results11, go_sem]) rfl ⟨A, len, cap, by rw [Hpk.out], by rw [Hpk.out]; exact Lib.hid (HR.out.below HB1.out), HA, hcap, HB1.out⟩
 ·have h255 : ¬ 255 < (len : Int) := by omega
  have hpk := packK_neg (bs := bs) (by rw [Hl.out]; omega)
  have Hpk := Lib.hid hpk
  clear hpk
  go_wp2_with fail
  refine bodyPost_ret (v := .tuple #[.int .i64 1, .slice A len cap]) (by simp [results, Tryd.results11, go_sem]) rfl ⟨A, len, cap, by rw [Hpk.out], by rw [Hpk.out]; exact HR, HA, hcap, Below.refl _ _⟩
end Go.Proofs.YtendohnkhbgfbaaDoor
