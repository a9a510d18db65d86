/-
  Texts joined into one file: Ref9X, Ref9Y, RPackZ, LebP, TlB, OpenZ, RefCo.
-/
import Derived.Test.YtdbkbeojedndbaaGreatDoorJRefCo27
import Derived.Test.YtdbkbeojedndbaaGreatDoorJRefCo28
import Derived.Test.YtdbkbeojedndbaaGreatDoorJRefCo25
import Derived.Test.YtdbkbeojedndbaaGreatDoorJRefCo30
import Derived.Test.YtdbkbeojedndbaaGreatDoorJRefCo31
import Derived.Test.YtdbkbeojedndbaaGreatDoorJRefCo11
import Derived.Test.YtdbkbeojedndbaaGreatDoorJRefCo26
import Derived.Test.YtdbkbeojedndbaaGreatDoorJRefCo5
import Derived.Lib.AppendStr
import Derived.Sort.KeysCollected
import Derived.Lib.Bytes
import Derived.Lib.Strings
import Derived.Test.YtdbkbeojedndbaaGreatDoorJRefCo20
import Derived.Deep.RegionHeld3
namespace Go.Proofs.YtdbkbeojedndbaaGreatDoor
open Go.RowKit

theorem fixedS_le {bs : List Int} {len : Nat} (hl : bs.length = len) (hb : ∀ j, j < len → 0 ≤ rd bs j ∧ rd bs j ≤ 255) (hlen : len ≤ 100000) : (fixedS bs).length ≤ 8000000 := by
 have h1 := toksTo_len fixA_rng fixB_rng (tokOk_press hl hb) (pressL bs).length (Nat.le_refl _)
 rw [toksTo_all] at h1
 have h2 := symCode_len fixA_rng 256
 have h3 := pressL_length bs
 unfold fixedS toksS
 rw [List.length_append, List.length_append]
 show 3 + (_ + _) ≤ _
 omega
theorem dynS_le {bs : List Int} {len : Nat} (hl : bs.length = len) (hb : ∀ j, j < len → 0 ≤ rd bs j ∧ rd bs j ≤ 255) (hlen : len ≤ 100000) : (dynS bs).length ≤ 8000000 := by
 have h1 := toksTo_len (lenA_rng (pressL bs)) (lenD_rng (pressL bs)) (tokOk_press hl hb) (pressL bs).length (Nat.le_refl _)
 rw [toksTo_all] at h1
 have h2 := symCode_len (lenA_rng (pressL bs)) 256
 have h3 := pressL_length bs
 have h4 := putS_len (lenA (pressL bs)) (lenD (pressL bs)) (by rw [lenA_length]; decide) (by rw [lenA_length]; decide) (by rw [lenD_length]; decide) (by rw [lenD_length]; decide) (lenA_rng _) (lenD_rng _)
 unfold dynS toksS
 rw [List.length_append, List.length_append, List.length_append]
 show 3 + (_ + (_ + _)) ≤ _
 omega
theorem putS_bit (xs ys : List Int) : Bit01 (putS xs ys) := by
 have hl : ∀ (vs : List Int) (n m : Nat), Bit01 (lows vs n m) := by
  intro vs n m x hx
  obtain ⟨j, _, h⟩ := List.mem_flatMap.1 hx
  exact lowOf_bit _ _ x h
 have hi : ∀ (ls : List Int) (its : List Item) (k : Nat), Bit01 (bitsIt ls its k) := by
  intro ls its k x hx
  obtain ⟨j, _, h⟩ := List.mem_flatMap.1 hx
  exact ((hiOf_bit _ _).app (lowOf_bit _ _)) x h
 exact ((((lowOf_bit _ _).app (lowOf_bit _ _)).app (lowOf_bit _ _)).app (hl _ _ _)).app (hi _ _ _)
theorem toksS_bit (a b : List Int) (ts : List Tok) : Bit01 (toksS a b ts) := by
 unfold toksS
 rw [← toksTo_all]
 exact (toksTo_bit a b ts _).app (symCode_bit _ _)
theorem bit_lit {L : List Int} (h : ∀ x ∈ L, x = 0 ∨ x = 1) : Bit01 L := h
theorem fixedS_bit (b : List Int) : Bit01 (fixedS b) := (bit_lit (by decide)).app (toksS_bit _ _ _)
theorem dynS_bit (b : List Int) : Bit01 (dynS b) := (bit_lit (by decide)).app ((putS_bit _ _).app (toksS_bit _ _ _))
set_option maxHeartbeats 1000000 in set_option maxRecDepth 100000 in
theorem rFixed_calls (A : Option Addr) (len cap : Nat) (bs : List Int) (w : World) (hR : Rd w .u8 A len bs) (hb : ∀ j, j < len → 0 ≤ rd bs j ∧ rd bs j ≤ 255) (hlen : len ≤ 100000) :
  Calls Tryz.prog 45 #[.slice A len cap] w fun e w' => ∃ v, e = .returned v ∧ Hid (w'.ownsRow w.heap.size 5 1 v (fixedS bs).length (ints .u8 (fixedS bs))) ∧ Below w.heap.size w w' := by
 have HR := Lib.hid hR
 have Hok := Lib.hid (tokOk_press hR.1 hb)
 have hle := fixedS_le hR.1 hb hlen
 have Hle := Lib.hid hle
 have Hpl := Lib.hid (pressL_length bs)
 have Hl := Lib.hid hR.1
 clear hR hb hle
 go_enter Tryz.func45, Tryz.ntmps45
 go_wp2_with fail
 refine (Agreed_calls _).mono ?_
 rintro e w1 ⟨Aa, ca, Ab, cb, rfl, HA1, HB1, _, hb1⟩
 have Hb1 := Lib.hid hb1
 have hs1 := hb1.size
 clear hb1
 go_wp2_with fail
 have HO := Lib.hid (Blk.own (base := w.heap.size) (n := 3) (l := [1, 1, 0]) (k := .u8) (heap_alloc_new w1 (.cells #[.int .u8 1, .int .u8 1, .int .u8 0] 5)) rfl hs1 (by decide))
 have Hn1 := Lib.hid (below_new Hb1.out (Nat.le_refl _) (.cells #[.int .u8 1, .int .u8 1, .int .u8 0] 5))
 have HA2 := Lib.hid (HA1.out.alloc (.cells #[.int .u8 1, .int .u8 1, .int .u8 0] 5))
 have HB2 := Lib.hid (HB1.out.alloc (.cells #[.int .u8 1, .int .u8 1, .int .u8 0] 5))
 refine (rLPress_calls A len cap bs _ (HR.out.below Hn1.out) hlen).mono ?_
 rintro e w2 ⟨vt, rfl, hot, hb2⟩
 have HO2 := Lib.hid (own_below HO.out hb2)
 have HA3 := Lib.hid (HA2.out.below hb2)
 have HB3 := Lib.hid (HB2.out.below hb2)
 have Hn2 := Lib.hid (below_seq Hn1.out (Nat.le_refl _) hb2)
 obtain ⟨At, ct, rfl, htk⟩ := own_toks hot
 have Htk := Lib.hid htk
 have hpl := Hpl.out
 rw [Hl.out] at hpl
 clear hot hb2 htk HO Hn1 HA2 HB2 HA1 HB1
 go_wp2_with fail
 refine (rtokens_calls 288 32 ca cb (pressL bs).length ct _ _ _ fixA fixB (pressL bs) _ HA3.out HB3.out Htk.out Hok.out (by decide) (by decide) (by decide) (by decide) fixA_rng fixB_rng (by omega)).mono ?_
 rintro e w3 ⟨v3, rfl, Ho3, hb3⟩
 have HO3 := Lib.hid (own_below HO2.out hb3)
 have Hn3 := Lib.hid (below_seq Hn2.out (Nat.le_refl _) hb3)
 obtain ⟨A3, c3, rfl, _, hr3⟩ := own_rd Ho3.out
 have Hnn := Lib.hid (own_none Ho3.out)
 have Hr3 := Lib.hid hr3
 have hsz3 := Hn3.out.size
 have hfl : (toksS fixA fixB (pressL bs)).length ≤ 8000000 := by
  have := Hle.out
  unfold fixedS at this
  rw [List.length_append] at this
  omega
 clear hb3 hr3 Ho3
 obtain ⟨nt, hnt⟩ : ∃ n, n = (toksS fixA fixB (pressL bs)).length := ⟨_, rfl⟩
 rw [← hnt] at Hr3 Hnn hfl ⊢
 have Hnt := Lib.hid hnt
 clear hnt
 go_wp2_with (at_builtin; refine wpList_appRd rfl _ _ rfl elB HO3.out rfl rfl Hr3.out Hnn.out (by omega) hsz3 ?_; intro v4 w4 hown4 hg4; have HO4 := Lib.hid hown4; have HB4 := Lib.hid (Hn3.out.grown hg4 hsz3 (fun k hk => (HO3.out.lt k hk).1)); clear hown4 hg4)
 go_ret
 have e4 : [1, 1, 0] ++ toksS fixA fixB (pressL bs) = fixedS bs := rfl
 have h9 := HO4.out
 rw [e4] at h9
 have hl9 : 3 + nt = (fixedS bs).length := by rw [← e4, List.length_append, ← Hnt.out]; rfl
 exact ⟨_, rfl, by rw [← hl9]; exact h9, HB4.out⟩
set_option maxHeartbeats 1000000 in set_option maxRecDepth 100000 in
theorem rDyn_calls (A : Option Addr) (len cap : Nat) (bs : List Int) (w : World) (hR : Rd w .u8 A len bs) (hb : ∀ j, j < len → 0 ≤ rd bs j ∧ rd bs j ≤ 255) (hlen : len ≤ 100000) :
  Calls Tryz.prog 46 #[.slice A len cap] w fun e w' => ∃ v, e = .returned v ∧ Hid (w'.ownsRow w.heap.size 5 1 v (dynS bs).length (ints .u8 (dynS bs))) ∧ Below w.heap.size w w' := by
 have HR := Lib.hid hR
 have Hok := Lib.hid (tokOk_press hR.1 hb)
 have hle := dynS_le hR.1 hb hlen
 have Hle := Lib.hid hle
 have Hpl := Lib.hid (pressL_length bs)
 have Hl := Lib.hid hR.1
 clear hR hb hle
 go_enter Tryz.func46, Tryz.ntmps46
 go_wp2_with fail
 refine (rLPress_calls A len cap bs _ HR.out hlen).mono ?_
 rintro e w1 ⟨vt, rfl, hot, hb1⟩
 obtain ⟨ts, hts⟩ : ∃ ts, ts = pressL bs := ⟨_, rfl⟩
 have hpl := Hpl.out
 rw [Hl.out] at hpl
 rw [← hts] at hot Hok hpl
 have Hts := Lib.hid hts
 have hnt := fun g (e : vt.ownBlock = some g) => (hot.lt g e)
 obtain ⟨At, ct, rfl, htk⟩ := own_toks hot
 have Hnt : Hid (∀ g o, At = some ⟨g, o, none⟩ → g < w1.heap.size) := fun g o e => (hnt g (by rw [e]; rfl)).2
 have Htk := Lib.hid htk
 have Hb1 := Lib.hid hb1
 have hsz1 := hb1.size
 obtain ⟨nt, hnte⟩ : ∃ n, n = ts.length := ⟨_, rfl⟩
 rw [← hnte] at hpl Htk ⊢
 have Hnl := Lib.hid hnte
 clear hot htk hb1 hts hnt hnte
 go_wp2_with fail
 refine (rWeights_calls At nt ct ts _ Htk.out (by omega) (by rw [Hnl.out]; exact tokWf_press Hok.out) (fun j hj => (Hok.out j (by rw [← Hnl.out]; exact hj)).2)).mono ?_
 rintro e w2 ⟨ga, gb, la, lb, rfl, hoa, hob, Hla, Hlb, hb2⟩
 have hla : la = wtsA ts := wtsA_is (by have := hoa.1; simpa [ints] using this) Hla.out
 have hlb : lb = wtsD ts := wtsD_is (by have := hob.1; simpa [ints] using this) Hlb.out
 rw [hla] at hoa
 rw [hlb] at hob
 obtain ⟨_, _, e1, _, hra⟩ := own_rd hoa
 cases e1
 obtain ⟨_, _, e2, _, hrb⟩ := own_rd hob
 cases e2
 have Hra := Lib.hid hra
 have Hrb := Lib.hid hrb
 have Htk2 := Lib.hid (Htk.out.below hb2)
 have Hb2 := Lib.hid (below_seq Hb1.out (Nat.le_refl _) hb2)
 have hsz2 := hb2.size
 have hsA := wtsA_sum ts
 have hsD := wtsD_sum ts
 rw [← Hnl.out] at hsA hsD
 clear hoa hob hra hrb Hla Hlb hla hlb hb2
 go_wp2_with fail
 refine (refLengths_calls 15 _ 286 286 (wtsA ts) _ (by omega) Hra.out (fun e => by cases e) (by omega) (fun x hx => (wtsA_mem x hx).1) (by omega) (Nat.le_trans (posTo_le _ _) (by rw [wtsA_length]; decide))).mono ?_
 rintro e w3 ⟨v3, rfl, ho3, hb3⟩
 rw [show lensOf 15 (wtsA ts) = lenA ts from rfl] at ho3
 obtain ⟨g3, c3, rfl, _, hg3, hc3, _, _⟩ := own_form ho3 (by decide)
 obtain ⟨_, _, e3, _, hr3⟩ := own_rd ho3
 cases e3
 have Hr3 := Lib.hid hr3
 have Hrb3 := Lib.hid (Hrb.out.below hb3)
 have Htk3 := Lib.hid (Htk2.out.below hb3)
 have Hb3 := Lib.hid (below_seq Hb2.out (Nat.le_refl _) hb3)
 have hsz3 := hb3.size
 clear ho3 hr3 hb3
 go_wp2_with fail
 refine (refLengths_calls 15 _ 30 30 (wtsD ts) _ (by omega) Hrb3.out (fun e => by cases e) (by omega) (fun x hx => (wtsD_mem x hx).1) (by omega) (Nat.le_trans (posTo_le _ _) (by rw [wtsD_length]; decide))).mono ?_
 rintro e w4 ⟨v4, rfl, ho4, hb4⟩
 rw [show lensOf 15 (wtsD ts) = lenD ts from rfl] at ho4
 obtain ⟨g4, c4, rfl, _, hg4, hc4, _, _⟩ := own_form ho4 (by decide)
 obtain ⟨_, _, e4, _, hr4⟩ := own_rd ho4
 cases e4
 have Hr4 := Lib.hid hr4
 have Hr34 := Lib.hid (Hr3.out.below hb4)
 have Htk4 := Lib.hid (Htk3.out.below hb4)
 have Hb4 := Lib.hid (below_seq Hb3.out (Nat.le_refl _) hb4)
 have hsz4 := hb4.size
 have hs4 := Hb4.out.size
 have Hlt4 : Hid (g3 < w4.heap.size ∧ g4 < w4.heap.size ∧ w1.heap.size ≤ w4.heap.size) := Lib.hid (show g3 < w4.heap.size ∧ g4 < w4.heap.size ∧ w1.heap.size ≤ w4.heap.size by omega)
 clear ho4 hr4 hb4 Hr3 Hrb3 Hra Hrb
 go_wp2_with fail
 have HO := Lib.hid (Blk.own (base := w4.heap.size) (n := 3) (l := [1, 0, 1]) (k := .u8) (heap_alloc_new w4 (.cells #[.int .u8 1, .int .u8 0, .int .u8 1] 5)) rfl (Nat.le_refl _) (by decide))
 have hn5 : Below w4.heap.size w4 (w4.alloc (.cells #[.int .u8 1, .int .u8 0, .int .u8 1] 5)) := (Below.refl _ _).alloc (Nat.le_refl _) _
 have Hn5 := Lib.hid hn5
 have hsz5 := hn5.size
 clear hn5
 refine (refPut_calls _ _ 286 c3 30 c4 (lenA ts) (lenD ts) _ (Hr34.out.below Hn5.out) (Hr4.out.below Hn5.out) (by decide) (by decide) (by decide) (by decide) hc3 hc4 (fun j _ => lenA_rng ts j) (fun j _ => lenD_rng ts j)).mono ?_
 rintro e w6 ⟨v6, rfl, ho6, hb6⟩
 have HO6 := Lib.hid (own_below HO.out hb6)
 have HF6 : Hid (From w4.heap.size w4 w6) := From.step ⟨Hn5.out, hsz5⟩ hb6
 obtain ⟨A6, c6, rfl, _, hp6⟩ := own_rd ho6
 have Hp6 := Lib.hid hp6
 have Hpn := Lib.hid (own_none ho6)
 have hplen := putS_len (lenA ts) (lenD ts) (by rw [lenA_length]; decide) (by rw [lenA_length]; decide) (by rw [lenD_length]; decide) (by rw [lenD_length]; decide) (lenA_rng ts) (lenD_rng ts)
 obtain ⟨np, hnp⟩ : ∃ n, n = (putS (lenA ts) (lenD ts)).length := ⟨_, rfl⟩
 rw [← hnp] at Hp6 Hpn hplen ⊢
 have Hnp := Lib.hid hnp
 have hsz6 := HF6.out.size
 clear ho6 hp6 hb6 hnp HO Hn5 hsz5
 go_wp2_with (first | (at_builtin; refine wpList_appRd rfl _ _ rfl elB HO6.out rfl rfl Hp6.out Hpn.out (by omega) hsz6 ?_; intro v7 w7 hown7 hg7; have HO7 := Lib.hid hown7; have HF7 := Lib.hid (HF6.out.app HO6.out hg7); clear hown7 hg7) | fail)
 refine (rtokens_calls 286 30 c3 c4 nt ct _ _ _ (lenA ts) (lenD ts) ts _ (Hr34.out.fromW HF7.out (fun b o e => by cases e; exact Hlt4.out.1)) (Hr4.out.fromW HF7.out (fun b o e => by cases e; exact Hlt4.out.2.1)) ⟨Htk4.out.1, fun hn => by obtain ⟨b, o, e, hc⟩ := Htk4.out.2 hn; have hB : b < w4.heap.size := Nat.lt_of_lt_of_le (Hnt.out b o e) Hlt4.out.2.2; exact ⟨b, o, e, fun j hj => ⟨From.cell (hc j hj).1 hB _ HF7.out, From.cell (hc j hj).2.1 hB _ HF7.out, From.cell (hc j hj).2.2 hB _ HF7.out⟩⟩⟩ Hok.out (by decide) (by decide) (by decide) (by decide) (lenA_rng ts) (lenD_rng ts) (by omega)).mono ?_
 rintro e w8 ⟨v8, rfl, Ho8, hb8⟩
 have HO8 := Lib.hid (own_below HO7.out hb8)
 have HF8 := Lib.hid (HF7.out.step hb8)
 obtain ⟨A8, c8, rfl, _, hr8⟩ := own_rd Ho8.out
 have Hnn := Lib.hid (own_none Ho8.out)
 have Hr8 := Lib.hid hr8
 have hsz8 := HF8.out.size
 have hfl : np + (toksS (lenA ts) (lenD ts) ts).length ≤ 8000000 := by
  have := Hle.out
  unfold dynS at this
  rw [← Hts.out, List.length_append, List.length_append, ← Hnp.out] at this
  omega
 clear hb8 hr8 Ho8 HO6 HF6 HO7 HF7
 obtain ⟨n8, hn8⟩ : ∃ n, n = (toksS (lenA ts) (lenD ts) ts).length := ⟨_, rfl⟩
 rw [← hn8] at Hr8 Hnn hfl ⊢
 have Hn8 := Lib.hid hn8
 clear hn8
 go_wp2_with (at_builtin; refine wpList_appRd rfl _ _ rfl elB HO8.out rfl rfl Hr8.out Hnn.out (by omega) hsz8 ?_; intro v9 w9 hown9 hg9; have HO9 := Lib.hid hown9; have HF9 := Lib.hid (HF8.out.app HO8.out hg9); clear hown9 hg9)
 go_ret
 have e9 : ([1, 0, 1] ++ putS (lenA ts) (lenD ts)) ++ toksS (lenA ts) (lenD ts) ts = dynS bs := by rw [Hts.out, List.append_assoc]; rfl
 have h9 := HO9.out
 rw [e9] at h9
 have hl9 : 3 + np + n8 = (dynS bs).length := by rw [← e9, List.length_append, List.length_append, ← Hn8.out, ← Hnp.out]; rfl
 exact ⟨_, rfl, by rw [← hl9]; exact own_mono h9 hs4, Hb4.out.trans (HF9.out.bel.mono hs4)⟩
end Go.Proofs.YtdbkbeojedndbaaGreatDoor
namespace Go.Proofs.YtdbkbeojedndbaaGreatDoor
open Go.RowKit

set_option maxHeartbeats 1000000 in set_option maxRecDepth 100000 in
theorem rPress_calls (A : Option Addr) (len cap : Nat) (bs : List Int) (w : World) (hR : Rd w .u8 A len bs) (hb : ∀ j, j < len → 0 ≤ rd bs j ∧ rd bs j ≤ 255) (hA : A = none → len = 0 ∧ cap = 0) (hcap : len ≤ cap) (hlen : len ≤ 100000) :
  Calls Tryz.prog 32 #[.slice A len cap] w fun e w' => ∃ v, e = .returned v ∧ Hid (w'.ownsRow w.heap.size 5 1 v (pressB bs).length (ints .u8 (pressB bs))) ∧ Below w.heap.size w w' := by
 have HR := Lib.hid hR
 have Hb := Lib.hid hb
 have HfL := Lib.hid (fixedS_le hR.1 hb hlen)
 have HdL := Lib.hid (dynS_le hR.1 hb hlen)
 have Hfb := Lib.hid (fixedS_bit bs)
 have Hdb := Lib.hid (dynS_bit bs)
 have hsl : (storedB bs).length ≤ 700000 := by
  have := storedB_le (bs.length + 1) bs
  unfold storedB
  have h1 := hR.1
  omega
 have HA := Lib.hid hA
 clear hR hb hA
 go_enter Tryz.func32, Tryz.ntmps32
 go_wp2_with fail
 refine (rStored_calls A len cap bs _ HR.out HA.out hcap (by omega)).mono ?_
 rintro e w1 ⟨v1, rfl, ho1, hb1⟩
 obtain ⟨A1, c1, rfl⟩ := own_slice ho1
 have Ho1 := Lib.hid ho1
 have Hb1 := Lib.hid hb1
 have hsz1 := hb1.size
 obtain ⟨n0, hn0⟩ : ∃ n, n = (storedB bs).length := ⟨_, rfl⟩
 rw [← hn0] at Ho1 hsl ⊢
 have Hn0 := Lib.hid hn0
 clear ho1 hb1 hn0
 go_wp2_with fail
 refine (rFixed_calls A len cap bs _ (HR.out.below Hb1.out) Hb.out hlen).mono ?_
 rintro e w2 ⟨v2, rfl, Ho2, hb2⟩
 obtain ⟨A2, c2, rfl, _, hr2⟩ := own_rd Ho2.out
 have Hn2 := Lib.hid (own_none Ho2.out)
 have Hr2 := Lib.hid hr2
 have Ho12 := Lib.hid (own_below Ho1.out hb2)
 have Hb2 := Lib.hid (below_seq Hb1.out (Nat.le_refl _) hb2)
 have hsz2 := Hb2.out.size
 clear hb2 hr2
 obtain ⟨nf, hnf⟩ : ∃ n, n = (fixedS bs).length := ⟨_, rfl⟩
 rw [← hnf] at Hr2 Hn2 ⊢
 have Hnf := Lib.hid hnf
 have hfl := HfL.out
 rw [← hnf] at hfl
 clear hnf Ho2
 go_wp2_with fail
 refine (rDyn_calls A len cap bs _ (HR.out.below Hb2.out) Hb.out hlen).mono ?_
 rintro e w3 ⟨v3, rfl, Ho3, hb3⟩
 obtain ⟨A3, c3, rfl, _, hr3⟩ := own_rd Ho3.out
 have Hn3 := Lib.hid (own_none Ho3.out)
 have Hr3 := Lib.hid hr3
 have Ho13 := Lib.hid (own_below Ho12.out hb3)
 have Hr23 := Lib.hid (Hr2.out.below hb3)
 have Hb3 := Lib.hid (below_seq Hb2.out (Nat.le_refl _) hb3)
 have hsz3 := Hb3.out.size
 clear hb3 hr3
 obtain ⟨nd, hnd⟩ : ∃ n, n = (dynS bs).length := ⟨_, rfl⟩
 rw [← hnd] at Hr3 Hn3 ⊢
 have Hnd := Lib.hid hnd
 have hdl := HdL.out
 rw [← hnd] at hdl
 have hpb : pressB bs = if nf < 8 * n0 then (if nd < nf then packB (dynS bs) else packB (fixedS bs)) else if nd < 8 * n0 then packB (dynS bs) else storedB bs := by rw [Hnf.out, Hnd.out, Hn0.out]; rfl
 have Hpb := Lib.hid hpb
 clear hnd Ho3 hpb
 obtain ⟨m8, h8⟩ : ∃ m, m = 8 * n0 := ⟨_, rfl⟩
 rw [show (8 * (n0 : Int)) = (m8 : Int) by omega]
 have H8 := Lib.hid h8
 rw [← h8] at Hpb
 have hm8 : m8 ≤ 8000000 := by omega
 clear h8
 by_cases hf : nf < m8
 ·go_wp2_with fail
  refine (Bytes_calls A2 nf c2 (fixedS bs) _ Hr23.out Hn2.out Hfb.out (by omega)).mono ?_
  rintro e w4 ⟨v4, rfl, ho4, hb4⟩
  rw [show (nf + 7) / 8 = (packB (fixedS bs)).length by rw [packB_length, Hnf.out]] at ho4
  have Ho4 := Lib.hid (own_mono ho4 hsz3)
  have Hr34 := Lib.hid (Hr3.out.below hb4)
  have Hb4 := Lib.hid (below_seq Hb3.out (Nat.le_refl _) hb4)
  clear ho4 hb4
  by_cases hd : nd < nf
  ·go_wp2_with fail
   refine (Bytes_calls A3 nd c3 (dynS bs) _ Hr34.out Hn3.out Hdb.out (by omega)).mono ?_
   rintro e w5 ⟨v5, rfl, ho5, hb5⟩
   rw [show (nd + 7) / 8 = (packB (dynS bs)).length by rw [packB_length, Hnd.out]] at ho5
   have Ho5 := Lib.hid (own_mono ho5 Hb4.out.size)
   have Hb5 := Lib.hid (below_seq Hb4.out (Nat.le_refl _) hb5)
   clear ho5 hb5
   go_wp2_with fail
   go_ret
   have hp := Hpb.out
   rw [if_pos hf, if_pos hd] at hp
   exact ⟨_, rfl, by rw [hp]; exact Ho5.out, Hb5.out⟩
  ·go_wp2_with fail
   go_ret
   have hp := Hpb.out
   rw [if_pos hf, if_neg hd] at hp
   exact ⟨_, rfl, by rw [hp]; exact Ho4.out, Hb4.out⟩
 ·by_cases hd : nd < m8
  ·go_wp2_with fail
   refine (Bytes_calls A3 nd c3 (dynS bs) _ Hr3.out Hn3.out Hdb.out (by omega)).mono ?_
   rintro e w5 ⟨v5, rfl, ho5, hb5⟩
   rw [show (nd + 7) / 8 = (packB (dynS bs)).length by rw [packB_length, Hnd.out]] at ho5
   have Ho5 := Lib.hid (own_mono ho5 hsz3)
   have Hb5 := Lib.hid (below_seq Hb3.out (Nat.le_refl _) hb5)
   clear ho5 hb5
   go_wp2_with fail
   go_ret
   have hp := Hpb.out
   rw [if_neg hf, if_pos hd] at hp
   exact ⟨_, rfl, by rw [hp]; exact Ho5.out, Hb5.out⟩
  ·go_wp2_with fail
   go_ret
   have hp := Hpb.out
   rw [if_neg hf, if_neg hd] at hp
   exact ⟨_, rfl, by rw [hp, ← Hn0.out]; exact Ho13.out, Hb3.out⟩
end Go.Proofs.YtdbkbeojedndbaaGreatDoor
namespace Go.Proofs.YtdbkbeojedndbaaGreatDoor
open Go.RowKit

set_option maxHeartbeats 1000000 in set_option maxRecDepth 100000 in
theorem rPack_calls (A : Option Addr) (len cap : Nat) (bs : List Int) (w : World) (hR : Rd w .u8 A len bs) (hb : ∀ x ∈ bs, 0 ≤ x ∧ x ≤ 255) (hA : A = none → len = 0 ∧ cap = 0) (hcap : len ≤ cap) (hlen : len ≤ 100000) :
  Calls Tryz.prog 16 #[.slice A len cap] w fun e w' => ∃ A' n' c', e = .returned (.tuple #[.int .i64 (packK bs).1, .slice A' n' c']) ∧ Hid (Rd w' .u8 A' n' (packK bs).2) ∧ Hid (A' = none → n' = 0 ∧ c' = 0) ∧ n' ≤ c' ∧ Below w.heap.size w w' := by
 have HR := Lib.hid hR
 have Hb := Lib.hid hb
 have HA := Lib.hid hA
 have Hl := Lib.hid hR.1
 clear hR hb hA
 go_enter Tryz.func16, Tryz.ntmps16
 by_cases h256 : 256 ≤ len
 ·have h255 : 255 < (len : Int) := by omega
  go_wp2_with fail
  refine (rPress_calls A len cap bs _ HR.out (fun j hj => rd_bytes Hb.out j (by rw [Hl.out]; exact hj)) HA.out hcap hlen).mono ?_
  rintro e w1 ⟨v1, rfl, ho1, hb1⟩
  obtain ⟨m1, hm1⟩ : ∃ m1, m1 = (pressB bs).length := ⟨_, rfl⟩
  rw [← hm1] at ho1
  obtain ⟨A1, c1, e1, hc1, hr1⟩ := own_rd ho1.out
  subst e1
  have Hr1 := Lib.hid hr1
  have Hn1 := Lib.hid (own_none ho1.out)
  have HB1 := Lib.hid hb1
  clear ho1 hr1 hb1
  by_cases hlt : m1 < len
  ·have hpk := packK_pos (bs := bs) (by rw [Hl.out]; exact h256) (by rw [Hl.out, ← hm1]; exact hlt)
   have Hpk := Lib.hid hpk
   clear hm1 hpk
   go_wp2_with fail
   refine bodyPost_ret (v := .tuple #[.int .i64 2, .slice A1 m1 c1]) (by simp [results, Tryz.results16, go_sem]) rfl ⟨A1, m1, c1, by rw [Hpk.out], by rw [Hpk.out]; exact Hr1, Hn1, hc1, HB1.out⟩
  ·have hpk := packK_neg (bs := bs) (by rw [Hl.out, ← hm1]; omega)
   have Hpk := Lib.hid hpk
   clear hm1 hpk
   go_wp2_with fail
   refine bodyPost_ret (v := .tuple #[.int .i64 1, .slice A len cap]) (by simp [results, Tryz.results16, go_sem]) rfl ⟨A, len, cap, by rw [Hpk.out], by rw [Hpk.out]; exact Lib.hid (HR.out.below HB1.out), HA, hcap, HB1.out⟩
 ·have h255 : ¬ 255 < (len : Int) := by omega
  have hpk := packK_neg (bs := bs) (by rw [Hl.out]; omega)
  have Hpk := Lib.hid hpk
  clear hpk
  go_wp2_with fail
  refine bodyPost_ret (v := .tuple #[.int .i64 1, .slice A len cap]) (by simp [results, Tryz.results16, go_sem]) rfl ⟨A, len, cap, by rw [Hpk.out], by rw [Hpk.out]; exact HR, HA, hcap, Below.refl _ _⟩
end Go.Proofs.YtdbkbeojedndbaaGreatDoor
namespace Go.Proofs.YtdbkbeojedndbaaGreatDoor
open Go.RowKit

def lebU (n : Nat) : List Int := if n < 128 then [(n : Int)] else ((n % 128 + 128 : Nat) : Int) :: lebU (n / 128)
termination_by n
decreasing_by omega
theorem lebU_last {n : Nat} (h : n < 128) : lebU n = [(n : Int)] := by rw [lebU, if_pos h]
theorem lebU_more {n : Nat} (h : ¬ n < 128) : lebU n = ((n % 128 + 128 : Nat) : Int) :: lebU (n / 128) := by rw [lebU, if_neg h]
theorem lebU_byte : ∀ (n : Nat), ∀ x ∈ lebU n, 0 ≤ x ∧ x ≤ 255 := by
 intro n
 induction n using Nat.strongRecOn with
 | ind n ih =>
  intro x hx
  by_cases h : n < 128
  ·rw [lebU_last h] at hx
   simp at hx
   omega
  ·rw [lebU_more h] at hx
   rcases List.mem_cons.1 hx with e | e
   ·omega
   ·exact ih (n / 128) (by omega) x e
theorem lebU_len : ∀ (k n : Nat), n < 128 ^ (k + 1) → 1 ≤ (lebU n).length ∧ (lebU n).length ≤ k + 1 := by
 intro k
 induction k with
 | zero => intro n h; rw [lebU_last (by simpa using h)]; simp
 | succ k ih =>
  intro n h
  by_cases h1 : n < 128
  ·rw [lebU_last h1]; simp
  ·rw [lebU_more h1]
   have h2 := ih (n / 128) (by rw [Nat.div_lt_iff_lt_mul (by omega)]; rw [← Nat.pow_succ]; exact h)
   simp only [List.length_cons]
   omega
theorem lebU_10 {n : Nat} (h : n < 18446744073709551616) : 1 ≤ (lebU n).length ∧ (lebU n).length ≤ 10 := lebU_len 9 n (Nat.lt_of_lt_of_le h (by decide))
set_option maxRecDepth 100000 in
theorem or128 : ∀ y : Fin 256, bits .or .u8 ((y.val : Nat) : Int) 128 = ((y.val % 128 + 128 : Nat) : Int) := by decide +kernel
theorem or_128 {y : Int} (h : 0 ≤ y ∧ y < 256) : bits .or .u8 y 128 = y % 128 + 128 := by
 have := or128 ⟨y.toNat, by omega⟩
 simp only at this
 rw [show ((y.toNat : Nat) : Int) = y by omega] at this
 rw [this]
 omega
def nums (s : ByteArray) : List Int := s.data.toList.map fun x => (x.toNat : Int)
theorem nums_length (s : ByteArray) : (nums s).length = s.size := by unfold nums; rw [List.length_map, Array.length_toList]; rfl
theorem nums_byte (s : ByteArray) : ∀ x ∈ nums s, 0 ≤ x ∧ x ≤ 255 := by
 intro x hx
 obtain ⟨u, _, rfl⟩ := List.mem_map.1 hx
 have := u.toNat_lt
 omega
theorem strCells_nums (s : ByteArray) : Lib.strCells s = ints .u8 (nums s) := by
 unfold Lib.strCells ints nums
 rw [List.map_map]
 rfl
theorem strOf_nums (s : ByteArray) : strOfNums (nums s) = s := by
 apply ByteArray.ext
 show ((nums s).map fun n => UInt8.ofNat n.toNat).toArray = s.data
 unfold nums
 rw [List.map_map]
 have : (s.data.toList.map ((fun n : Int => UInt8.ofNat n.toNat) ∘ fun x : UInt8 => (x.toNat : Int))) = s.data.toList := by
  conv => rhs; rw [← List.map_id s.data.toList]
  refine List.map_congr_left (fun x _ => ?_)
  simp
 rw [this]
end Go.Proofs.YtdbkbeojedndbaaGreatDoor
namespace Go.Proofs.YtdbkbeojedndbaaGreatDoor
open Go.RowKit

abbrev bytes (s : ByteArray) : List UInt8 := s.data.toList
abbrev text (l : List UInt8) : ByteArray := ⟨l.toArray⟩
theorem text_bytes (s : ByteArray) : text (bytes s) = s := by simp [bytes]
theorem bytes_text (l : List UInt8) : bytes (text l) = l := by simp [bytes]
theorem bytes_inj' {a b : ByteArray} (h : bytes a = bytes b) : a = b := by rw [← text_bytes a, h, text_bytes]
theorem tl_iff (a b : ByteArray) : a.toList = b.toList ↔ a = b := by
 rw [Lib.toList_data, Lib.toList_data]
 exact ⟨bytes_inj', fun e => by rw [e]⟩
theorem tl_beq (a b : ByteArray) : (a.toList == b.toList) = decide (a = b) := by
 by_cases h : a = b
 ·subst h; rw [decide_eq_true rfl]; exact beq_self_eq_true _
 ·rw [decide_eq_false h]; exact beq_eq_false_iff_ne.2 (fun e => h ((tl_iff a b).1 e))
end Go.Proofs.YtdbkbeojedndbaaGreatDoor
namespace Go.Proofs.YtdbkbeojedndbaaGreatDoor
open Go.RowKit

theorem strOf_sum {l m : List Int} (hl : ∀ x ∈ l, 0 ≤ x ∧ x ≤ 255) (hm : ∀ x ∈ m, 0 ≤ x ∧ x ≤ 255) (h : strOfNums l = strOfNums m) : l = m := by
 have h1 : ∀ l : List Int, (∀ x ∈ l, 0 ≤ x ∧ x ≤ 255) → nums (strOfNums l) = l := by
  intro l h
  unfold nums strOfNums
  show ((l.map fun n => UInt8.ofNat n.toNat).toArray.toList).map _ = l
  rw [List.toList_toArray, List.map_map]
  conv => rhs; rw [← List.map_id l]
  refine List.map_congr_left (fun x hx => ?_)
  have := h x hx
  show ((UInt8.ofNat x.toNat).toNat : Int) = x
  rw [UInt8.toNat_ofNat']
  omega
 rw [← h1 l hl, h, h1 m hm]
def bodyK (k : Int) (cs : List Int) : Option (List Int) :=
 if k = 2 then (match openS cs 1048576 with | .ok (q, o) => if (q + 7) / 8 = cs.length then some o else none | .error _ => none) else some cs
def openK (k : Int) (cs : List Int) : Option (List Int) :=
 match bodyK k cs with | some b => if packK b = (k, cs) then some b else none | none => none
theorem openK_pos {k : Int} {cs b : List Int} (h : bodyK k cs = some b) (h2 : packK b = (k, cs)) : openK k cs = some b := by unfold openK; rw [h]; simp [h2]
theorem openK_neg {k : Int} {cs b : List Int} (h : bodyK k cs = some b) (h2 : packK b ≠ (k, cs)) : openK k cs = none := by unfold openK; rw [h]; simp [h2]
theorem openK_none {k : Int} {cs : List Int} (h : bodyK k cs = none) : openK k cs = none := by unfold openK; rw [h]
set_option maxHeartbeats 1000000 in set_option maxRecDepth 100000 in
theorem ChOpen_calls (k : Int) (A : Option Addr) (n c : Nat) (cs : List Int) (w : World) (hk : k = 1 ∨ k = 2) (hR : Rd w .u8 A n cs) (hA : A = none → n = 0 ∧ c = 0) (hc : n ≤ c) (hcs : ∀ x ∈ cs, 0 ≤ x ∧ x ≤ 255) (hn : n ≤ 100000) (hsz : ∀ b, bodyK k cs = some b → b.length ≤ 100000 ∧ ∀ x ∈ b, 0 ≤ x ∧ x ≤ 255) (hT : Tabs w) (hO : OrdAt w) :
  Calls Tryz.prog 6 #[.agg #[.int .i64 k, .slice A n c]] w fun e w' =>
   Hid ((∃ b v, openK k cs = some b ∧ e = .returned (.tuple #[v, .int .i64 0]) ∧ w'.ownsRow w.heap.size 5 1 v b.length (ints .u8 b)) ∨ (openK k cs = none ∧ e = .returned (.tuple #[.slice none 0 0, .int .i64 8]))) ∧ Below w.heap.size w w' := by
 have HR := Lib.hid hR
 have HA := Lib.hid hA
 have Hcs := Lib.hid hcs
 have HT := Lib.hid hT
 have HO := Lib.hid hO
 have Hsz := Lib.hid hsz
 clear hR hA hcs hT hO hsz
 go_enter Tryz.func6, Tryz.ntmps6
 go_upto_region 1 with fail
 obtain ⟨g, hg⟩ : ∃ g, g = w.heap.size := ⟨_, rfl⟩
 obtain ⟨w0, hw0⟩ : ∃ X, X = w.alloc (.cells #[.int .i64 k, .slice A n c] 30) := ⟨_, rfl⟩
 rw [← hw0, ← hg]
 have hb0 : Below w.heap.size w w0 := by rw [hw0]; exact (Below.refl _ _).alloc (Nat.le_refl _) _
 have hrow0 : w0.heap[g]? = some (.cells #[.int .i64 k, .slice A n c] 30 (0, 0)) := by rw [hw0, hg]; exact heap_alloc_new w _
 have c0 := two_c0 hrow0
 have c1 := two_c1 hrow0
 have HB0 := Lib.hid hb0
 have HRow0 := Lib.hid hrow0
 have HR0 := Lib.hid (HR.out.below hb0)
 have HT0 := Lib.hid (HT.out.below hb0)
 have HO0 : Hid (OrdAt w0) := Lib.hid (fun j hj => kept_cell hb0 (HO.out j hj))
 clear hw0 hb0 hrow0 hg
 rcases hk with rfl | rfl
 ·have hbody : bodyK 1 cs = some cs := rfl
  have Hbody := Lib.hid hbody
  clear hbody
  have hle7 : n ≤ 100000 := hn
  go_wp2_with fail
  refine (ChPack_calls A n c cs _ HR0.out Hcs.out HA.out hc hn (HT0.out.below (Below.refl w0.heap.size w0)) (fun j hj => kept_cell (Below.refl w0.heap.size w0) (HO0.out j hj))).mono ?_
  rintro e w5 ⟨A5, n5, c5, rfl, HO5, hb5⟩
  have HB5 := Lib.hid (below_seq (Below.refl w0.heap.size w0) (Nat.le_refl _) hb5)
  have HX5 := Lib.hid hb5
  have hKd := packK_kind cs
  obtain ⟨K, hK⟩ : ∃ K, K = (packK cs).1 := ⟨_, rfl⟩
  rw [← hK] at hKd ⊢
  obtain ⟨CC, hCC⟩ : ∃ CC, CC = (packK cs).2 := ⟨_, rfl⟩
  rw [← hCC] at HO5
  have hCb : ∀ y ∈ CC, 0 ≤ y ∧ y ≤ 255 := by rw [hCC]; exact packK_byte Hcs.out
  have hpk : packK cs = (K, CC) := by rw [hK, hCC]
  have Hpk := Lib.hid hpk
  have HCb := Lib.hid hCb
  clear hb5 hK hCC hCb hpk
  go_upto_region 8 with fail
  obtain ⟨w6, hw6⟩ : ∃ X, X = w5.alloc (.cells #[.int .i64 K, .slice A5 n5 c5] 30) := ⟨_, rfl⟩
  obtain ⟨gp, hgp⟩ : ∃ gp, gp = w5.heap.size := ⟨_, rfl⟩
  rw [← hw6, ← hgp]
  have hb6 : Below w5.heap.size w5 w6 := by rw [hw6]; exact (Below.refl _ _).alloc (Nat.le_refl _) _
  have HX6 := Lib.hid (below_seq HX5.out (Nat.le_refl _) hb6)
  have hrow6 : w6.heap[gp]? = some (.cells #[.int .i64 K, .slice A5 n5 c5] 30 (0, 0)) := by rw [hw6, hgp]; exact heap_alloc_new w5 _
  have HB6 := Lib.hid (below_seq HB5.out (Nat.le_refl _) hb6)
  have q0 := two_c0 hrow6
  have q1 := two_c1 hrow6
  have p0 := kept_cell HB6.out (two_c0 HRow0.out)
  have p1 := kept_cell HB6.out (two_c1 HRow0.out)
  have hO6 := own_below HO5.out hb6
  obtain ⟨_, _, ea, hc5, hr6⟩ := own_rd hO6
  cases ea
  have cv1 := conv_all (c := c5) hr6
  have cv2 := conv_all (c := c) (HR0.out.below HB6.out)
  obtain ⟨sa, hsa⟩ : ∃ sa, sa = strOfNums CC := ⟨_, rfl⟩
  obtain ⟨sb, hsb⟩ : ∃ sb, sb = strOfNums cs := ⟨_, rfl⟩
  rw [← hsa] at cv1
  rw [← hsb] at cv2
  have HSa := Lib.hid hsa
  have HSb := Lib.hid hsb
  clear hw6 hgp hb6 hrow6 hO6 hr6 hsa hsb
  by_cases hkk : K = 1
  ·have hkb : (K != 1) = false := by simp [hkk]
   have Hkk := Lib.hid hkk
   clear hkk hKd
   by_cases hab : sa = sb
   ·have hq : (sa.toList == sb.toList) = true := by rw [tl_beq]; exact decide_eq_true hab
    have Hab := Lib.hid hab
    clear hab
    go_wp2_with (at_builtin; refine wpList_appRd rfl _ _ rfl elB (ys := []) (own_lit0 w6 _) rfl rfl ((HR0.out.below HX6.out).alloc _) HA.out (by omega) (by simp) ?_; intro v7 W7 ho7 hg7; rw [Nat.zero_add, List.nil_append] at ho7; have hb7 : Below w6.heap.size w6 W7 := ((Below.refl _ _).alloc (Nat.le_refl _) _).grown hg7 (by simp) (fun k hk => by simp [Value.ownBlock] at hk; omega); have HO7 := Lib.hid (own_mono ho7 (Nat.le_trans HB0.out.size HB6.out.size)); have HB7 := Lib.hid (below_seq HB6.out (Nat.le_refl _) hb7); clear ho7 hg7 hb7)
    refine bodyPost_ret (v := .tuple #[v7, .int .i64 0]) (by simp [results, Tryz.results6, go_sem]) rfl ?_
    have hcc : CC = cs := by
     have := Hab.out
     rw [HSa.out, HSb.out] at this
     exact strOf_sum HCb.out Hcs.out this
    have hok : openK 1 cs = some cs := openK_pos Hbody.out (by rw [Hpk.out, Hkk.out, hcc])
    have hml : n = (cs).length := HR0.out.1.symm
    have h9 := HO7.out
    refine ⟨Lib.hid (.inl ⟨cs, v7, hok, rfl, ?_⟩), below_seq HB0.out (Nat.le_refl _) HB7.out⟩
    rw [← hml]
    exact h9
   ·have hq : (sa.toList == sb.toList) = false := by rw [tl_beq]; exact decide_eq_false hab
    have Hab := Lib.hid hab
    clear hab
    go_wp2_with fail
    refine bodyPost_ret (v := .tuple #[.slice none 0 0, .int .i64 8]) (by simp [results, Tryz.results6, go_sem]) rfl ?_
    refine ⟨Lib.hid (.inr ⟨openK_neg Hbody.out (fun h => ?_), rfl⟩), below_seq HB0.out (Nat.le_refl _) HB6.out⟩
    rw [Hpk.out] at h
    cases h
    exact Hab.out (by rw [HSa.out, HSb.out])
  ·have hkb : (K != 1) = true := by simp [hkk]
   have Hkk := Lib.hid hkk
   clear hkk
   go_wp2_with fail
   refine bodyPost_ret (v := .tuple #[.slice none 0 0, .int .i64 8]) (by simp [results, Tryz.results6, go_sem]) rfl ?_
   refine ⟨Lib.hid (.inr ⟨openK_neg Hbody.out (fun h => ?_), rfl⟩), below_seq HB0.out (Nat.le_refl _) HB6.out⟩
   rw [Hpk.out] at h
   cases h
   exact Hkk.out rfl
 ·go_wp2_with fail
  refine (Open_calls A n c cs 1048576 w0 HR0.out HA.out (fun j hj => rd_bytes Hcs.out j (by rw [HR0.out.1]; exact hj)) (by omega) (by omega) HT0.out HO0.out).mono ?_
  rintro e w1 ⟨Hx, hb1⟩
  have HB1 := Lib.hid hb1
  have d0 := kept_cell hb1 c0
  have d1 := kept_cell hb1 c1
  clear hb1
  rcases Hx.out with ⟨q, o, v, hop, rfl, ho⟩ | ⟨cc, hop, hcc, rfl⟩
  ·obtain ⟨Ao, co, rfl⟩ := own_slice ho
   obtain ⟨qn, hqn⟩ : ∃ qn, qn = (q + 7) / 8 := ⟨_, rfl⟩
   rw [← hqn]
   by_cases hqe : qn = n
   ·have hbody : bodyK 2 cs = some o := by
     unfold bodyK
     rw [if_pos rfl, hop]
     show (if (q + 7) / 8 = cs.length then some o else none) = some o
     rw [if_pos (by rw [← hqn, hqe, HR0.out.1])]
    have Hbody := Lib.hid hbody
    have Hol := Lib.hid (Hsz.out o hbody).1
    have Hob := Lib.hid (Hsz.out o hbody).2
    have Hno := Lib.hid (own_none ho)
    obtain ⟨_, _, ea, hco, hro⟩ := own_rd ho
    cases ea
    have Hro := Lib.hid hro
    have hqb : ((qn : Int) != (n : Int)) = false := by simp [hqe]
    obtain ⟨no, hno⟩ : ∃ no, no = o.length := ⟨_, rfl⟩
    rw [← hno] at Hro Hno hco Hol ⊢
    clear hbody hop hqn ho hro Hx hqe hno
    have hle7 : no ≤ 100000 := Hol.out
    go_wp2_with fail
    refine (ChPack_calls Ao no co o _ Hro.out Hob.out Hno.out hco Hol.out (HT0.out.below HB1.out) (fun j hj => kept_cell HB1.out (HO0.out j hj))).mono ?_
    rintro e w5 ⟨A5, n5, c5, rfl, HO5, hb5⟩
    have HB5 := Lib.hid (below_seq HB1.out (Nat.le_refl _) hb5)
    have HX5 := Lib.hid hb5
    have hKd := packK_kind o
    obtain ⟨K, hK⟩ : ∃ K, K = (packK o).1 := ⟨_, rfl⟩
    rw [← hK] at hKd ⊢
    obtain ⟨CC, hCC⟩ : ∃ CC, CC = (packK o).2 := ⟨_, rfl⟩
    rw [← hCC] at HO5
    have hCb : ∀ y ∈ CC, 0 ≤ y ∧ y ≤ 255 := by rw [hCC]; exact packK_byte Hob.out
    have hpk : packK o = (K, CC) := by rw [hK, hCC]
    have Hpk := Lib.hid hpk
    have HCb := Lib.hid hCb
    clear hb5 hK hCC hCb hpk
    go_upto_region 8 with fail
    obtain ⟨w6, hw6⟩ : ∃ X, X = w5.alloc (.cells #[.int .i64 K, .slice A5 n5 c5] 30) := ⟨_, rfl⟩
    obtain ⟨gp, hgp⟩ : ∃ gp, gp = w5.heap.size := ⟨_, rfl⟩
    rw [← hw6, ← hgp]
    have hb6 : Below w5.heap.size w5 w6 := by rw [hw6]; exact (Below.refl _ _).alloc (Nat.le_refl _) _
    have HX6 := Lib.hid (below_seq HX5.out (Nat.le_refl _) hb6)
    have hrow6 : w6.heap[gp]? = some (.cells #[.int .i64 K, .slice A5 n5 c5] 30 (0, 0)) := by rw [hw6, hgp]; exact heap_alloc_new w5 _
    have HB6 := Lib.hid (below_seq HB5.out (Nat.le_refl _) hb6)
    have q0 := two_c0 hrow6
    have q1 := two_c1 hrow6
    have p0 := kept_cell HB6.out (two_c0 HRow0.out)
    have p1 := kept_cell HB6.out (two_c1 HRow0.out)
    have hO6 := own_below HO5.out hb6
    obtain ⟨_, _, ea, hc5, hr6⟩ := own_rd hO6
    cases ea
    have cv1 := conv_all (c := c5) hr6
    have cv2 := conv_all (c := c) (HR0.out.below HB6.out)
    obtain ⟨sa, hsa⟩ : ∃ sa, sa = strOfNums CC := ⟨_, rfl⟩
    obtain ⟨sb, hsb⟩ : ∃ sb, sb = strOfNums cs := ⟨_, rfl⟩
    rw [← hsa] at cv1
    rw [← hsb] at cv2
    have HSa := Lib.hid hsa
    have HSb := Lib.hid hsb
    clear hw6 hgp hb6 hrow6 hO6 hr6 hsa hsb
    by_cases hkk : K = 2
    ·have hkb : (K != 2) = false := by simp [hkk]
     have Hkk := Lib.hid hkk
     clear hkk hKd
     by_cases hab : sa = sb
     ·have hq : (sa.toList == sb.toList) = true := by rw [tl_beq]; exact decide_eq_true hab
      have Hab := Lib.hid hab
      clear hab
      go_wp2_with (at_builtin; refine wpList_appRd rfl _ _ rfl elB (ys := []) (own_lit0 w6 _) rfl rfl ((Hro.out.below HX6.out).alloc _) Hno.out (by omega) (by simp) ?_; intro v7 W7 ho7 hg7; rw [Nat.zero_add, List.nil_append] at ho7; have hb7 : Below w6.heap.size w6 W7 := ((Below.refl _ _).alloc (Nat.le_refl _) _).grown hg7 (by simp) (fun k hk => by simp [Value.ownBlock] at hk; omega); have HO7 := Lib.hid (own_mono ho7 (Nat.le_trans HB0.out.size HB6.out.size)); have HB7 := Lib.hid (below_seq HB6.out (Nat.le_refl _) hb7); clear ho7 hg7 hb7)
      refine bodyPost_ret (v := .tuple #[v7, .int .i64 0]) (by simp [results, Tryz.results6, go_sem]) rfl ?_
      have hcc : CC = cs := by
       have := Hab.out
       rw [HSa.out, HSb.out] at this
       exact strOf_sum HCb.out Hcs.out this
      have hok : openK 2 cs = some o := openK_pos Hbody.out (by rw [Hpk.out, Hkk.out, hcc])
      have hml : no = (o).length := Hro.out.1.symm
      have h9 := HO7.out
      refine ⟨Lib.hid (.inl ⟨o, v7, hok, rfl, ?_⟩), below_seq HB0.out (Nat.le_refl _) HB7.out⟩
      rw [← hml]
      exact h9
     ·have hq : (sa.toList == sb.toList) = false := by rw [tl_beq]; exact decide_eq_false hab
      have Hab := Lib.hid hab
      clear hab
      go_wp2_with fail
      refine bodyPost_ret (v := .tuple #[.slice none 0 0, .int .i64 8]) (by simp [results, Tryz.results6, go_sem]) rfl ?_
      refine ⟨Lib.hid (.inr ⟨openK_neg Hbody.out (fun h => ?_), rfl⟩), below_seq HB0.out (Nat.le_refl _) HB6.out⟩
      rw [Hpk.out] at h
      cases h
      exact Hab.out (by rw [HSa.out, HSb.out])
    ·have hkb : (K != 2) = true := by simp [hkk]
     have Hkk := Lib.hid hkk
     clear hkk
     go_wp2_with fail
     refine bodyPost_ret (v := .tuple #[.slice none 0 0, .int .i64 8]) (by simp [results, Tryz.results6, go_sem]) rfl ?_
     refine ⟨Lib.hid (.inr ⟨openK_neg Hbody.out (fun h => ?_), rfl⟩), below_seq HB0.out (Nat.le_refl _) HB6.out⟩
     rw [Hpk.out] at h
     cases h
     exact Hkk.out rfl
   ·have hbody : bodyK 2 cs = none := by
     unfold bodyK
     rw [if_pos rfl, hop]
     show (if (q + 7) / 8 = cs.length then some o else none) = none
     rw [if_neg (by rw [← hqn, HR0.out.1]; exact hqe)]
    have Hbody := Lib.hid hbody
    have hqb : ((qn : Int) != (n : Int)) = true := by simp; omega
    clear hbody hop hqn ho Hx
    go_wp2_with fail
    refine bodyPost_ret (v := .tuple #[.slice none 0 0, .int .i64 8]) (by simp [results, Tryz.results6, go_sem]) rfl ?_
    exact ⟨Lib.hid (.inr ⟨openK_none Hbody.out, rfl⟩), below_seq HB0.out (Nat.le_refl _) HB1.out⟩
  ·have hbody : bodyK 2 cs = none := by
    unfold bodyK
    rw [if_pos rfl, hop]
   have Hbody := Lib.hid hbody
   have hcb : (cc != 0) = true := by simpa using hcc
   clear hbody hop hcc Hx
   go_wp2_with fail
   refine bodyPost_ret (v := .tuple #[.slice none 0 0, .int .i64 8]) (by simp [results, Tryz.results6, go_sem]) rfl ?_
   exact ⟨Lib.hid (.inr ⟨openK_none Hbody.out, rfl⟩), below_seq HB0.out (Nat.le_refl _) HB1.out⟩
end Go.Proofs.YtdbkbeojedndbaaGreatDoor
namespace Go.Proofs.YtdbkbeojedndbaaGreatDoor
open Go.RowKit

set_option maxHeartbeats 2000000 in
set_option maxRecDepth 100000 in
theorem rChOpen_calls (k : Int) (A : Option Addr) (n c : Nat) (cs : List Int) (w : World) (hk : k = 1 ∨ k = 2) (hR : Rd w .u8 A n cs) (hA : A = none → n = 0 ∧ c = 0) (hc : n ≤ c) (hcs : ∀ x ∈ cs, 0 ≤ x ∧ x ≤ 255) (hn : n ≤ 100000) (hsz : ∀ b, bodyK k cs = some b → b.length ≤ 100000 ∧ ∀ x ∈ b, 0 ≤ x ∧ x ≤ 255) :
  Calls Tryz.prog 7 #[.int .i64 k, .slice A n c] w fun e w' => ((∃ b A' n' c', openK k cs = some b ∧ e = .returned (.tuple #[.slice A' n' c', .int .i64 1]) ∧ Rd w' .u8 A' n' b) ∨ (openK k cs = none ∧ e = .returned (.tuple #[.slice none 0 0, .int .i64 0]))) ∧ Below w.heap.size w w' := by
 have HR := Lib.hid hR
 have HA := Lib.hid hA
 have Hcs := Lib.hid hcs
 have Hsz := Lib.hid hsz
 have Hl := Lib.hid hR.1
 clear hR hA hcs hsz
 go_enter Tryz.func7, Tryz.ntmps7
 rcases hk with rfl | rfl
 ·have Hbody : Hid (bodyK 1 cs = some cs) := Lib.hid rfl
  have HRb := HR
  have Hbb := Hcs
  have HAb := HA
  have hcb := hc
  have HBb := Lib.hid (Below.refl w.heap.size w)
  go_wp2_with fail
  refine (rPack_calls A n c cs _ HRb.out Hbb.out HAb.out hcb (by omega)).mono ?_
  rintro e w5 ⟨A5, n5, c5, rfl, Hr5, _, _, hb5⟩
  obtain ⟨K, hK⟩ : ∃ K, K = (packK cs).1 := ⟨_, rfl⟩
  obtain ⟨CC, hCC⟩ : ∃ CC, CC = (packK cs).2 := ⟨_, rfl⟩
  have hCb : ∀ y ∈ CC, 0 ≤ y ∧ y ≤ 255 := by rw [hCC]; exact packK_byte Hbb.out
  have hpk : packK cs = (K, CC) := by rw [hK, hCC]
  rw [← hCC] at Hr5
  rw [← hK]
  have Hpk := Lib.hid hpk
  have HCb := Lib.hid hCb
  have HB5 := Lib.hid (below_seq HBb.out (Nat.le_refl _) hb5)
  have Hrb5 := Lib.hid (HRb.out.below hb5)
  have cv1 := conv_all (c := c5) Hr5.out
  have cv2 := conv_all (c := c) (HR.out.below HB5.out)
  obtain ⟨sa, hsa⟩ : ∃ sa, sa = strOfNums CC := ⟨_, rfl⟩
  obtain ⟨sb, hsb⟩ : ∃ sb, sb = strOfNums cs := ⟨_, rfl⟩
  rw [← hsa] at cv1
  rw [← hsb] at cv2
  have HSa := Lib.hid hsa
  have HSb := Lib.hid hsb
  clear hb5 hK hCC hCb hpk hsa hsb
  by_cases hkk : K = 1
  ·have hkb : (K != 1) = false := by simp [hkk]
   have Hkk := Lib.hid hkk
   clear hkk
   by_cases hab : sa = sb
   ·have hq : (sa.toList == sb.toList) = true := by rw [tl_beq]; exact decide_eq_true hab
    have Hab := Lib.hid hab
    clear hab
    go_wp2_with fail
    refine bodyPost_ret (v := .tuple #[.slice A n c, .int .i64 1]) (by simp [results, Tryz.results7, go_sem]) rfl ⟨.inl ⟨cs, A, n, c, ?_, rfl, Hrb5.out⟩, HB5.out⟩
    have hcc : CC = cs := by
     have := Hab.out
     rw [HSa.out, HSb.out] at this
     exact strOf_sum HCb.out Hcs.out this
    exact openK_pos Hbody.out (by rw [Hpk.out, Hkk.out, hcc])
   ·have hq : (sa.toList == sb.toList) = false := by rw [tl_beq]; exact decide_eq_false hab
    have Hab := Lib.hid hab
    clear hab
    go_wp2_with fail
    refine bodyPost_ret (v := .tuple #[.slice none 0 0, .int .i64 0]) (by simp [results, Tryz.results7, go_sem]) rfl ⟨.inr ⟨openK_neg Hbody.out (fun h => ?_), rfl⟩, HB5.out⟩
    rw [Hpk.out] at h
    cases h
    exact Hab.out (by rw [HSa.out, HSb.out])
  ·have hkb : (K != 1) = true := by simp [hkk]
   have Hkk := Lib.hid hkk
   clear hkk
   go_wp2_with fail
   refine bodyPost_ret (v := .tuple #[.slice none 0 0, .int .i64 0]) (by simp [results, Tryz.results7, go_sem]) rfl ⟨.inr ⟨openK_neg Hbody.out (fun h => ?_), rfl⟩, HB5.out⟩
   rw [Hpk.out] at h
   cases h
   exact Hkk.out rfl
 ·go_wp2_with fail
  refine (rOpen_calls A n c cs 1048576 w HR.out (fun j hj => rd_bytes Hcs.out j (by rw [Hl.out]; exact hj)) (by omega) (by omega)).mono ?_
  rintro e w1 ⟨hend, hb1⟩
  have HBb := Lib.hid hb1
  clear hb1
  rcases hend with ⟨ec, hec, hop, rfl⟩ | ⟨q, o, v, hop, rfl, ho⟩
  ·have hno : openK 2 cs = none := openK_none (by unfold bodyK; rw [if_pos rfl, hop])
   have Hno := Lib.hid hno
   have hecb : ((ec : Int) != 0) = true := by simpa using hec
   clear hno hop
   go_wp2_with fail
   refine bodyPost_ret (v := .tuple #[.slice none 0 0, .int .i64 0]) (by simp [results, Tryz.results7, go_sem]) rfl ⟨.inr ⟨Hno.out, rfl⟩, HBb.out⟩
  ·obtain ⟨Z, hZ⟩ : ∃ Z : Nat, Z = (q + 7) / 8 := ⟨_, rfl⟩
   rw [← hZ]
   by_cases hZn : Z = n
   ·have hbo : bodyK 2 cs = some o := by unfold bodyK; rw [if_pos rfl, hop]; show (if (q + 7) / 8 = cs.length then some o else none) = some o; rw [if_pos (by rw [← hZ, Hl.out]; exact hZn)]
    have Hbody := Lib.hid hbo
    obtain ⟨ho1, ho2⟩ := Hsz.out o hbo
    have Hbb := Lib.hid ho2
    obtain ⟨A7, c7, rfl, hcb, hr7⟩ := own_rd ho
    have HAb := Lib.hid (own_none ho)
    have HRb := Lib.hid hr7
    subst hZn
    clear hop hbo ho2 ho hr7 hZ
    go_wp2_with fail
    refine (rPack_calls A7 o.length c7 o _ HRb.out Hbb.out HAb.out hcb (by omega)).mono ?_
    rintro e w5 ⟨A5, n5, c5, rfl, Hr5, _, _, hb5⟩
    obtain ⟨K, hK⟩ : ∃ K, K = (packK o).1 := ⟨_, rfl⟩
    obtain ⟨CC, hCC⟩ : ∃ CC, CC = (packK o).2 := ⟨_, rfl⟩
    have hCb : ∀ y ∈ CC, 0 ≤ y ∧ y ≤ 255 := by rw [hCC]; exact packK_byte Hbb.out
    have hpk : packK o = (K, CC) := by rw [hK, hCC]
    rw [← hCC] at Hr5
    rw [← hK]
    have Hpk := Lib.hid hpk
    have HCb := Lib.hid hCb
    have HB5 := Lib.hid (below_seq HBb.out (Nat.le_refl _) hb5)
    have Hrb5 := Lib.hid (HRb.out.below hb5)
    have cv1 := conv_all (c := c5) Hr5.out
    have cv2 := conv_all (c := c) (HR.out.below HB5.out)
    obtain ⟨sa, hsa⟩ : ∃ sa, sa = strOfNums CC := ⟨_, rfl⟩
    obtain ⟨sb, hsb⟩ : ∃ sb, sb = strOfNums cs := ⟨_, rfl⟩
    rw [← hsa] at cv1
    rw [← hsb] at cv2
    have HSa := Lib.hid hsa
    have HSb := Lib.hid hsb
    clear hb5 hK hCC hCb hpk hsa hsb
    by_cases hkk : K = 2
    ·have hkb : (K != 2) = false := by simp [hkk]
     have Hkk := Lib.hid hkk
     clear hkk
     by_cases hab : sa = sb
     ·have hq : (sa.toList == sb.toList) = true := by rw [tl_beq]; exact decide_eq_true hab
      have Hab := Lib.hid hab
      clear hab
      go_wp2_with fail
      refine bodyPost_ret (v := .tuple #[.slice A7 o.length c7, .int .i64 1]) (by simp [results, Tryz.results7, go_sem]) rfl ⟨.inl ⟨o, A7, o.length, c7, ?_, rfl, Hrb5.out⟩, HB5.out⟩
      have hcc : CC = cs := by
       have := Hab.out
       rw [HSa.out, HSb.out] at this
       exact strOf_sum HCb.out Hcs.out this
      exact openK_pos Hbody.out (by rw [Hpk.out, Hkk.out, hcc])
     ·have hq : (sa.toList == sb.toList) = false := by rw [tl_beq]; exact decide_eq_false hab
      have Hab := Lib.hid hab
      clear hab
      go_wp2_with fail
      refine bodyPost_ret (v := .tuple #[.slice none 0 0, .int .i64 0]) (by simp [results, Tryz.results7, go_sem]) rfl ⟨.inr ⟨openK_neg Hbody.out (fun h => ?_), rfl⟩, HB5.out⟩
      rw [Hpk.out] at h
      cases h
      exact Hab.out (by rw [HSa.out, HSb.out])
    ·have hkb : (K != 2) = true := by simp [hkk]
     have Hkk := Lib.hid hkk
     clear hkk
     go_wp2_with fail
     refine bodyPost_ret (v := .tuple #[.slice none 0 0, .int .i64 0]) (by simp [results, Tryz.results7, go_sem]) rfl ⟨.inr ⟨openK_neg Hbody.out (fun h => ?_), rfl⟩, HB5.out⟩
     rw [Hpk.out] at h
     cases h
     exact Hkk.out rfl
   ·have hbo : bodyK 2 cs = none := by unfold bodyK; rw [if_pos rfl, hop]; show (if (q + 7) / 8 = cs.length then some o else none) = none; rw [if_neg (by rw [← hZ, Hl.out]; exact hZn)]
    have Hno := Lib.hid (openK_none hbo)
    have hne : ((Z : Int) != (n : Int)) = true := by simp; omega
    clear hop hbo ho hZ
    go_wp2_with fail
    refine bodyPost_ret (v := .tuple #[.slice none 0 0, .int .i64 0]) (by simp [results, Tryz.results7, go_sem]) rfl ⟨.inr ⟨Hno.out, rfl⟩, HBb.out⟩
end Go.Proofs.YtdbkbeojedndbaaGreatDoor
