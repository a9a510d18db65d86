/-
  Texts joined into one file: RefShaC, RefPlain, RefShaD, TlB.
-/
import Derived.Test.YtendohnkhbgfbaaDoorJChunkPuts2
import Derived.Test.YtendohnkhbgfbaaDoorJChunkPuts1
import Derived.Test.YtendohnkhbgfbaaDoorJRefPk4
import Derived.Sort.KeysCollected
import Derived.Lib.Bytes
import Derived.Lib.Strings
namespace Go.Proofs.YtendohnkhbgfbaaDoor
open Go.RowKit

set_option maxHeartbeats 2000000 in
set_option maxRecDepth 100000 in
theorem sha_blocks {a : Act} {W : World} (rc : Value) (K : Option Addr) (ck : Nat) (Ae : Option Addr) (ce M Q : Nat) (As : Option Addr) (cs : Nat) (P : List Int) (hQ : M = 64 * Q) (hM9 : M ≤ 100000200) (hPr : Rd W .u8 Ae M P) (hPb : ∀ j, j < M → 0 ≤ rd P j ∧ rd P j ≤ 255) (hK : Rd W .u32 K 64 keyL) (hS : Rd W .u32 As 8 (s8L (blocksS P 0)))
  (ha : a = fB (getU a) (.slice K 64 ck) rc (.slice Ae M ce) (.slice As 8 cs) (.int .i64 0)) :
  Code.wp Tryd.prog (Code.loop shaBlock) (OnlyExit 4 fun a' w' => ∃ A' c', Hid (Rd w' .u32 A' 8 (s8L (blocksS P Q))) ∧ Hid (Below W.heap.size W w') ∧ a' = fB (getU a') (.slice K 64 ck) rc (.slice Ae M ce) (.slice A' 8 c') (.int .i64 M)) a W := by
 have HPr := Lib.hid hPr
 have HPb := Lib.hid hPb
 have HK := Lib.hid hK
 have HQ := Lib.hid hQ
 clear hPr hPb hK
 refine wp_loop_ghost_k (fun n a' w' => ∃ (A' : Option Addr) (c' q t : Nat), q + n = Q ∧ Hid (t = 64 * q) ∧ Hid (Rd w' .u32 A' 8 (s8L (blocksS P q))) ∧ Hid (Below W.heap.size W w') ∧ a' = fB (getU a') (.slice K 64 ck) rc (.slice Ae M ce) (.slice A' 8 c') (.int .i64 t)) Q ⟨As, cs, 0, 0, by omega, Lib.hid rfl, Lib.hid hS, Lib.hid (Below.refl _ _), ha⟩ ?_
 clear ha hS hQ
 rintro n a' W4 ⟨A', c', q, t, hq, HT, HS, HX4, ha⟩ J Kk hJ hKk
 obtain ⟨u, hu⟩ : ∃ u, u = getU a' := ⟨_, rfl⟩
 rw [← hu] at ha
 clear hu
 subst ha
 have HJ := Lib.hid hJ
 clear hJ
 conv => arg 4; unfold fB
 conv => arg 2; whnf
 by_cases hlt : t < M
 ·have ht64 : t + 64 ≤ M := by have h1 := HT.out; have h2 := HQ.out; omega
  go_wp2_with fail
  refine wp_onlyExit (sha_words (.slice K 64 ck) rc (.slice A' 8 c') Ae ce M t P ht64 hM9 (HPr.out.below HX4.out) HPb.out rfl) ?_
  rintro a1 w1 ⟨v1, HO1, HX1, ha1⟩
  obtain ⟨u1, hu1⟩ : ∃ u, u = getU a1 := ⟨_, rfl⟩
  rw [← hu1] at ha1
  clear hu1
  subst ha1
  obtain ⟨Aw, cw, hvw⟩ := own_slice HO1.out
  subst hvw
  obtain ⟨_, _, ea, _, hrw⟩ := own_rd HO1.out
  cases ea
  have Hrw := Lib.hid hrw
  have HB1 := Lib.hid (below_seq HX4.out (Nat.le_refl _) HX1.out)
  obtain ⟨S, hS⟩ : ∃ S, S = blocksS P q := ⟨_, rfl⟩
  rw [← hS] at HS
  have HSS := Lib.hid hS
  obtain ⟨gs, os, rfl, hxs⟩ := (HS.out.below HX1.out).2 (by omega)
  have s0 := hxs 0 (by omega)
  have s1 := hxs 1 (by omega)
  have s2 := hxs 2 (by omega)
  have s3 := hxs 3 (by omega)
  have s4 := hxs 4 (by omega)
  have s5 := hxs 5 (by omega)
  have s6 := hxs 6 (by omega)
  have s7 := hxs 7 (by omega)
  rw [s8L_rd S (by omega)] at s0 s1 s2 s3 s4 s5 s6 s7
  simp only [S8.at, Nat.add_zero] at s0 s1 s2 s3 s4 s5 s6 s7
  have HXS := Lib.hid hxs
  clear hrw hS hxs HO1
  unfold fW
  dsimp only
  go_wp2_with fail
  refine wp_region_still_lit (by kernel_rfl) (by kernel_rfl) ?_
  repeat still_step
  refine wpStill_nil ?_
  go_wp2_with fail
  refine wp_onlyExit (sha_rounds rc (.slice Ae M ce) (.slice (some ⟨gs, os, none⟩) 8 c') (.int .i64 t) K ck Aw cw t P S (HK.out.below (HB1.out.drew)) (Hrw.out.below ((Below.refl _ _).drew)) rfl) ?_
  rintro a2 w2 ⟨r, HR, HX2, ha2⟩
  obtain ⟨u2, hu2⟩ : ∃ u, u = getU a2 := ⟨_, rfl⟩
  rw [← hu2] at ha2
  clear hu2
  subst ha2
  have hx12 : Below w1.heap.size w1 w2 := below_seq ((Below.refl w1.heap.size w1).drew) (Nat.le_refl _) HX2.out
  have q0 := kept_cell hx12 s0
  have q1 := kept_cell hx12 s1
  have q2 := kept_cell hx12 s2
  have q3 := kept_cell hx12 s3
  have q4 := kept_cell hx12 s4
  have q5 := kept_cell hx12 s5
  have q6 := kept_cell hx12 s6
  have q7 := kept_cell hx12 s7
  have HX12 := Lib.hid (below_seq HB1.out (Nat.le_refl _) hx12)
  clear s0 s1 s2 s3 s4 s5 s6 s7 hx12
  unfold fR
  dsimp only
  go_wp2_with fail
  go_still_tail 40, (by kernel_rfl)
  rw [wv_add S.a r.a, wv_add S.b r.b, wv_add S.c r.c, wv_add S.d r.d, wv_add S.e r.e, wv_add S.f r.f, wv_add S.g r.g, wv_add S.h r.h]
  have hplus : S.plus r = blocksS P (q + 1) := by
   rw [HSS.out, HR.out, HT.out, HSS.out]
   rfl
  have HPL := Lib.hid hplus
  clear hplus q0 q1 q2 q3 q4 q5 q6 q7
  go_wp2_with fail
  have hd2 : Below W.heap.size W w2.drew := HX12.out.drew
  have ho := World.ownsRow_lit (base := w2.drew.heap.size) (size := 1) (e := 81) w2.drew #[.int .u32 (wv (S.a + r.a)), .int .u32 (wv (S.b + r.b)), .int .u32 (wv (S.c + r.c)), .int .u32 (wv (S.d + r.d)), .int .u32 (wv (S.e + r.e)), .int .u32 (wv (S.f + r.f)), .int .u32 (wv (S.g + r.g)), .int .u32 (wv (S.h + r.h))] 8 (Nat.le_refl _) (by decide) rfl
  obtain ⟨_, _, ea, _, hr9⟩ := own_rd (k := .u32) (xs := s8L (S.plus r)) ho
  cases ea
  rw [HPL.out] at hr9
  have hn0 : 0 < n := by have h1 := HT.out; have h2 := HQ.out; omega
  exact Handed.intro (n - 1) (by omega) (HJ.out _ _ _ ⟨_, 8, q + 1, t + 64, by omega, Lib.hid (by have := HT.out; omega), Lib.hid hr9, Lib.hid (hd2.alloc (HX12.out.size) _), rfl⟩)
 ·have ht : t = M := by have h1 := HT.out; have h2 := HQ.out; omega
  have hqQ : q = Q := by have h1 := HT.out; have h2 := HQ.out; omega
  subst ht
  subst hqQ
  go_wp2_with fail
  exact ⟨rfl, _, _, HS, HX4, rfl⟩
end Go.Proofs.YtendohnkhbgfbaaDoor
namespace Go.Proofs.YtendohnkhbgfbaaDoor
open Go.RowKit

def RSha : Prop := ∀ (A : Option Addr) (n c : Nat) (bs : List Int) (F : Option Addr) (cf : Nat) (K : Option Addr) (ck : Nat) (w : World), Rd w .u8 A n bs → (A = none → n = 0 ∧ c = 0) → (∀ x ∈ bs, 0 ≤ x ∧ x ≤ 255) → n ≤ 100000000 → Rd w .u32 F 8 firstL → Rd w .u32 K 64 keyL →
 Calls Tryd.prog 35 #[.slice A n c, .slice F 8 cf, .slice K 64 ck] w fun e w' => e = .returned (.agg (ints .u8 (shaS bs)).toArray) ∧ Below w.heap.size w w'
set_option maxHeartbeats 1000000 in set_option maxRecDepth 100000 in
theorem rPlain_of (hS : RSha) : RPlain := by
 intro A n c bs w hR hA hb hn
 have HS := Lib.hid hS
 have HR := Lib.hid hR
 have HA := Lib.hid hA
 have Hb := Lib.hid hb
 clear hS hR hA hb
 go_enter Tryd.func21, Tryd.ntmps21
 go_upto_region 1 with fail
 obtain ⟨g, hg⟩ : ∃ g, g = w.heap.size := ⟨_, rfl⟩
 obtain ⟨w0, hw0⟩ : ∃ W, W = w.alloc (.cells (ints .u8 (List.replicate 32 0)).toArray 52) := ⟨_, rfl⟩
 have hB0 : Blk w0 g 52 .u8 (List.replicate 32 0) := by rw [hw0, hg]; exact heap_alloc_new w _
 have hb0 : Below w.heap.size w w0 := by rw [hw0]; exact (Below.refl _ _).alloc (Nat.le_refl _) _
 simp only [ints, List.replicate, List.map] at hw0
 rw [← hw0, ← hg]
 have HBk := Lib.hid hB0
 have HB0 := Lib.hid hb0
 have HG := Lib.hid hg
 clear hB0 hb0 hw0 hg
 go_wp2_with fail
 refine (Tables_calls w0).mono ?_
 rintro e w1 ⟨va, vb, rfl, ha, hbk, hb1⟩
 obtain ⟨Aa, ca, ea, _, hra⟩ := own_rd ha.out
 obtain ⟨Ab, cb, eb, _, hrb⟩ := own_rd hbk.out
 subst ea
 subst eb
 have Hra := Lib.hid hra
 have Hrb := Lib.hid hrb
 have HB1 := Lib.hid (below_seq HB0.out (Nat.le_refl _) hb1)
 have HBk1 : Hid (Blk w1 g 52 .u8 (List.replicate 32 0)) := Lib.hid ((Fr.ofBelow hb1 []).blk HBk.out (by simp))
 clear ha hbk hra hrb hb1
 go_wp2_with fail
 refine (HS.out A n c bs Aa ca Ab cb w1 (HR.out.below HB1.out) HA.out Hb.out hn Hra.out Hrb.out).mono ?_
 rintro e w2 ⟨rfl, hb2⟩
 have hdl := shaS_length bs
 obtain ⟨D, hD⟩ : ∃ D, D = shaS bs := ⟨_, rfl⟩
 rw [← hD] at hdl ⊢
 have HD := Lib.hid hD
 have Hdl := Lib.hid hdl
 have HB2 := Lib.hid (below_seq HB1.out (Nat.le_refl _) hb2)
 have HBk2 : Hid (Blk w2 g 52 .u8 (List.replicate 32 0)) := Lib.hid ((Fr.ofBelow hb2 []).blk HBk1.out (by simp))
 clear hD hdl hb2
 go_wp2_with (refine wpList_store_row rfl 52 _ _ rfl g _ rfl rfl 52 _ HBk2.out (by rw [ints_size, Hdl.out]; kernel_rfl) (by rw [ints_size, ints_size, Hdl.out, List.length_replicate]) (ints_one _ _) ?_)
 have hrow := setRow_heap _ g _ (ints .u8 D).toArray 52 _ HBk2.out
 have hl := run_loadVar_row (P := Tryd.prog) _ g 52 52 _ _ _ hrow Tryd.underlying52 rfl (by rw [ints_size, Hdl.out]; kernel_rfl)
 refine bodyPost_ret (v := .agg (ints .u8 D).toArray) ?_ rfl ⟨by rw [HD.out], ?_⟩
 ·simp [results, Tryd.results21, asAddr, hl, Act.put]
 ·exact HB2.out.trans ⟨rfl, rfl, rfl, by simp, fun i hi => setRow_other _ g i _ (by have := HG.out; omega)⟩
end Go.Proofs.YtendohnkhbgfbaaDoor
namespace Go.Proofs.YtendohnkhbgfbaaDoor
open Go.RowKit

theorem s8L_first : s8L firstS = firstL := by decide
def oTo (R : S8) (k : Nat) : List Int := R.bytes.take k ++ List.replicate (32 - k) 0
theorem oTo_zero (R : S8) : oTo R 0 = List.replicate 32 0 := rfl
theorem oTo_all (R : S8) : oTo R 32 = R.bytes := rfl
theorem oTo_length (R : S8) {k : Nat} (hk : k ≤ 32) : (oTo R k).length = 32 := by
 unfold oTo
 rw [List.length_append, List.length_take, List.length_replicate, bytes_len]
 omega
theorem oTo_next (R : S8) {k : Nat} (hk : k < 32) : oTo R (k + 1) = (oTo R k).set k (rd R.bytes k) := by
 unfold oTo
 have h1 : (R.bytes.take k).length = k := by rw [List.length_take, bytes_len]; omega
 have h2 : 32 - k = (32 - (k + 1)) + 1 := by omega
 rw [List.set_append_right _ _ (by omega), h1, Nat.sub_self, h2, List.replicate_succ, List.set_cons_zero, rd_getElem (by rw [bytes_len]; exact hk), List.take_succ_eq_append_getElem (by rw [bytes_len]; exact hk), List.append_assoc]
 rfl
theorem byte_at (R : S8) {q r : Nat} (hq : q < 8) (hr : r < 4) : rd R.bytes (4 * q + r) = wv (R.at q) / 2 ^ (24 - 8 * r) % 256 := by
 have key : ∀ (x : W32) (y : Nat), y < 4 → rd (wordB x) y = wv x / 2 ^ (24 - 8 * y) % 256 := by
  intro x y hy
  have hx := x.isLt
  unfold wv
  rcases (show y = 0 ∨ y = 1 ∨ y = 2 ∨ y = 3 by omega) with rfl | rfl | rfl | rfl
  ·show ((x.toNat / 16777216 : Nat) : Int) = _
   simp
   omega
  ·show ((x.toNat / 65536 % 256 : Nat) : Int) = _
   simp
  ·show ((x.toNat / 256 % 256 : Nat) : Int) = _
   simp
  ·show ((x.toNat % 256 : Nat) : Int) = _
   simp
 rw [← key _ r hr]
 rcases (show r = 0 ∨ r = 1 ∨ r = 2 ∨ r = 3 by omega) with rfl | rfl | rfl | rfl <;>
  rcases (show q = 0 ∨ q = 1 ∨ q = 2 ∨ q = 3 ∨ q = 4 ∨ q = 5 ∨ q = 6 ∨ q = 7 by omega) with rfl | rfl | rfl | rfl | rfl | rfl | rfl | rfl <;> rfl
set_option maxHeartbeats 4000000 in
set_option maxRecDepth 100000 in
theorem rSha_calls : RSha := by
 intro A n c bs F cf K ck w hR hA hb hn hF hK
 have HR := Lib.hid hR
 have HA := Lib.hid hA
 have Hb := Lib.hid hb
 have Hl := Lib.hid hR.1
 obtain ⟨gF, oF, rfl, hxF⟩ := hF.2 (by omega)
 obtain ⟨gK, oK, rfl, hxK⟩ := hK.2 (by omega)
 have HF := Lib.hid hF
 have HK := Lib.hid hK
 clear hR hA hb hF hK hxF hxK
 go_enter Tryd.func35, Tryd.ntmps35
 go_upto_region 1 with fail
 obtain ⟨g, hg⟩ : ∃ g, g = w.heap.size := ⟨_, rfl⟩
 obtain ⟨w0, hw0⟩ : ∃ W, W = w.alloc (.cells (ints .u8 (List.replicate 32 0)).toArray 52) := ⟨_, rfl⟩
 have hB0 : Blk w0 g 52 .u8 (List.replicate 32 0) := by rw [hw0, hg]; exact heap_alloc_new w _
 have hb0 : Below w.heap.size w w0 := by rw [hw0]; exact (Below.refl _ _).alloc (Nat.le_refl _) _
 simp only [ints, List.replicate, List.map] at hw0
 rw [← hw0, ← hg]
 have HBk := Lib.hid hB0
 have HB0 := Lib.hid hb0
 have HG := Lib.hid hg
 clear hB0 hb0 hw0 hg
 go_wp2_with (first
  | (at_builtin; refine wpList_appRd rfl _ _ rfl elBy (ys := []) (own_lit0 w0 _) rfl rfl ((HR.out.below HB0.out).alloc _) HA.out (by omega) (by simp) ?_; intro v1 w1 ho1 hg1; rw [Nat.zero_add, List.nil_append] at ho1; have hb1 : Below w0.heap.size w0 w1 := ((Below.refl _ _).alloc (Nat.le_refl _) _).grown hg1 (by simp) (fun k hk => by simp [Value.ownBlock] at hk; omega); have hs1 : w0.heap.size ≤ w1.heap.size := hb1.size; have HO1 := Lib.hid ho1; have HX1 := Lib.hid hb1; clear ho1 hg1 hb1)
  | (at_builtin; refine wpList_app1 rfl _ _ rfl elBy HO1.out rfl rfl rfl rfl (by omega) hs1 ?_; intro v2 w2 ho2 hb2 _; have HO2 := Lib.hid ho2; have HX2 := Lib.hid (HX1.out.trans hb2); clear ho2 hb2))
 obtain ⟨Z, hZ⟩ : ∃ Z, Z = zerosN n := ⟨_, rfl⟩
 have hZ1 : Z ≤ 63 ∧ (n + 1 + Z) % 64 = 56 := by unfold zerosN at hZ; omega
 have HZ := Lib.hid hZ
 clear hZ
 go_loopg [7] Z (fun g5 v wr => ∃ z : Nat, z + g5 = Z ∧ Hid (wr.ownsRow w0.heap.size 5 1 v (n + 1 + z) (ints .u8 (bs ++ 128 :: List.replicate z 0))) ∧ Hid (Below w0.heap.size w0 wr))
 case atStart => exact ⟨0, by omega, by have h := HO2.out; rw [show ints .u8 bs ++ #[Value.int .u8 128].toList = ints .u8 (bs ++ 128 :: List.replicate 0 0) by rw [ints_append]; rfl] at h; exact Lib.hid h, HX2⟩
 case round =>
  obtain ⟨z, hz, HV, HX⟩ := hrel
  obtain ⟨W, hW⟩ : ∃ W, W = wr := ⟨_, rfl⟩
  subst hW
  have hszW : w0.heap.size ≤ W.heap.size := HX.out.size
  obtain ⟨Ae, ce, hve⟩ := own_slice HV.out
  subst hve
  obtain ⟨L, hL⟩ : ∃ L, L = n + 1 + z := ⟨_, rfl⟩
  rw [← hL] at HV ⊢
  by_cases hlt : z < Z
  ·have hmod : ((L : Int) % 64 != 56) = true := by simp; omega
   have hL9 : L ≤ 100000064 := by omega
   have HL := Lib.hid hL
   clear hL
   go_wp2_with (at_builtin; refine wpList_app1 rfl _ _ rfl elBy HV.out rfl rfl rfl rfl (by omega) hszW ?_; intro v5 w5 hown5 hbel5 _; have Hown5 := Lib.hid hown5; have Hbel5 := Lib.hid hbel5; clear hown5 hbel5)
   go_roundg (gk - 1)
   case measure => omega
   case rel =>
    refine ⟨z + 1, by omega, ?_, Lib.hid (HX.out.trans Hbel5.out)⟩
    have h5 := Hown5.out
    rw [show ints .u8 (bs ++ 128 :: List.replicate z 0) ++ #[Value.int .u8 0].toList = ints .u8 (bs ++ 128 :: List.replicate (z + 1) 0) by rw [List.replicate_succ']; simp [ints], HL.out] at h5
    exact Lib.hid h5
  ·obtain rfl : z = Z := by omega
   have hmod : ((L : Int) % 64 != 56) = false := by simp; omega
   have hL9 : L ≤ 100000064 := by omega
   have HL := Lib.hid hL
   clear hL
   obtain ⟨N, hN⟩ : ∃ N, N = 8 * n := ⟨_, rfl⟩
   have hNi : IntKind.u64.wrap ((n : Int) * 8) = (N : Int) := by rw [IntKind.wrap_u64]; omega
   have HN := Lib.hid hN
   have hN9 : N ≤ 800000000 := by omega
   clear hN
   go_wp2_with fail
   go_loopw [7, 9] (fun v i wr => ∃ (k : Nat) (y : Int), k ≤ 8 ∧ y = 7 - (k : Int) ∧ i = .int .i64 y ∧ Hid (wr.ownsRow w0.heap.size 5 1 v (L + k) (ints .u8 (bs ++ 128 :: (List.replicate z 0 ++ (beB N).take k)))) ∧ Hid (Below w0.heap.size w0 wr)) (fun _ i _ => (intOf i + 1).toNat)
   case atStart => exact ⟨0, 7, by omega, by omega, rfl, by simpa using HV, HX⟩
   case round =>
    obtain ⟨k, y, hk, hy, rfl, HV2, HX2⟩ := hrel
    obtain ⟨W5, hW5⟩ : ∃ W, W = wr := ⟨_, rfl⟩
    subst hW5
    have hszW5 : w0.heap.size ≤ W5.heap.size := HX2.out.size
    obtain ⟨Ae, ce, hve⟩ := own_slice HV2.out
    subst hve
    by_cases hlt2 : k < 8
    ·obtain ⟨d, hd⟩ : ∃ d : Nat, y = d := ⟨y.toNat, by omega⟩
     subst hd
     obtain ⟨e, he⟩ : ∃ e, e = 8 * d := ⟨_, rfl⟩
     have hei : IntKind.i64.wrap (8 * (d : Int)) = (e : Int) := by rw [IntWalk.i64_in _ (by omega)]; omega
     have he56 : e = 56 - 8 * k := by omega
     have He := Lib.hid he56
     have he63 : e ≤ 63 := by omega
     clear he he56
     go_wp2_with (at_builtin; refine wpList_app1 rfl _ _ rfl elBy HV2.out rfl rfl rfl rfl (by omega) hszW5 ?_; intro v6 w6 hown6 hbel6 _; have Hown6 := Lib.hid hown6; have Hbel6 := Lib.hid hbel6; clear hown6 hbel6)
     go_roundw
     case rel =>
      refine ⟨k + 1, 7 - (k : Int) - 1, by omega, by omega, rfl, ?_, Lib.hid (HX2.out.trans Hbel6.out)⟩
      have h5 := Hown6.out
      rw [show ints .u8 (bs ++ 128 :: (List.replicate z 0 ++ (beB N).take k)) ++ #[Value.int .u8 ((N : Int) / 2 ^ (8 * (7 - k)) % 256)].toList = ints .u8 (bs ++ 128 :: (List.replicate z 0 ++ (beB N).take (k + 1))) by
       rw [beB_next N hlt2, show 56 - 8 * k = 8 * (7 - k) by omega]; simp [ints]] at h5
      exact Lib.hid h5
     case measure => simp [intOf]; omega
    ·obtain rfl : k = 8 := by omega
     have hpadE : bs ++ 128 :: (List.replicate z 0 ++ (beB N).take 8) = padS bs := by
      rw [List.take_of_length_le (by simp [beB]), HZ.out, HN.out]
      unfold padS
      rw [Hl.out]
     obtain ⟨M, hM⟩ : ∃ M, M = L + 8 := ⟨_, rfl⟩
     rw [hpadE, ← hM] at HV2
     rw [← hM]
     have hMl : M = (padS bs).length := by rw [padS_length, Hl.out, ← HZ.out, hM, HL.out]
     have hMm : M % 64 = 0 := by rw [hMl]; exact padS_mod bs
     have hM9 : M ≤ 100000200 := by omega
     obtain ⟨P, hP⟩ : ∃ P, P = padS bs := ⟨_, rfl⟩
     rw [← hP] at HV2 hMl
     have hPb : ∀ j, j < M → 0 ≤ rd P j ∧ rd P j ≤ 255 := by
      have h1 : ∀ y ∈ P, 0 ≤ y ∧ y ≤ 255 := by
       rw [hP]
       intro y hy
       unfold padS at hy
       rcases List.mem_append.1 hy with h | h
       ·exact Hb.out y h
       ·rcases List.mem_cons.1 h with h | h
        ·omega
        ·rcases List.mem_append.1 h with h | h
         ·have := List.eq_of_mem_replicate h; omega
         ·exact beB_byte _ y h
      intro j hj
      rw [rd_getElem (by rw [← hMl]; exact hj)]
      exact h1 _ (List.getElem_mem _)
     have HP := Lib.hid hP
     have HPb := Lib.hid hPb
     have HMl := Lib.hid hMl
     obtain ⟨Q, hQ⟩ : ∃ Q, M = 64 * Q := ⟨M / 64, by omega⟩
     have HQ := Lib.hid hQ
     clear hpadE hP hPb hMl hMm hNi hN9 HN HL HZ hL9 hmod hM hQ hZ1
     go_wp2_with (at_builtin; refine wpList_appRd rfl _ _ rfl elU32 (ys := []) (own_lit0 W5 _) rfl rfl ((HF.out.below (below_seq HB0.out (Nat.le_refl _) HX2.out)).alloc _) (fun e => by cases e) (by omega) (by simp) ?_; intro v6 w6 ho6 hg6; rw [Nat.zero_add, List.nil_append] at ho6; have hb6 : Below W5.heap.size W5 w6 := ((Below.refl _ _).alloc (Nat.le_refl _) _).grown hg6 (by simp) (fun k hk => by simp [Value.ownBlock] at hk; omega); have HO6 := Lib.hid ho6; have HX6 := Lib.hid hb6; clear ho6 hg6 hb6)
     have HPr : Hid (Rd w6 .u8 Ae M P) := Lib.hid (by
      obtain ⟨_, _, ea, _, hr⟩ := own_rd (own_below HV2.out HX6.out)
      cases ea
      exact hr)
     obtain ⟨As, cs, e6, _, hr6⟩ := own_rd HO6.out
     subst e6
     rw [← s8L_first] at hr6
     have Hr6 := Lib.hid hr6
     have HB6 := Lib.hid (below_seq HB0.out (Nat.le_refl _) (below_seq HX2.out (Nat.le_refl _) HX6.out))
     have HBk6 : Hid (Blk w6 g 52 .u8 (List.replicate 32 0)) := Lib.hid ((Fr.ofBelow (below_seq HX2.out (Nat.le_refl _) HX6.out) []).blk HBk.out (by simp))
     clear hr6 HO6 HX6 HV2 HX2 HV HX HO1 HX1 HO2 hs1 hszW hszW5 HB0 HBk
     refine wp_onlyExit (sha_blocks _ (some ⟨gK, oK, none⟩) ck Ae _ M Q As cs P HQ.out hM9 HPr.out HPb.out (HK.out.below HB6.out) Hr6.out rfl) ?_
     rintro a7 w7 ⟨A7, c7, HR7, HX7, ha7⟩
     obtain ⟨u, hu⟩ : ∃ u, u = getU a7 := ⟨_, rfl⟩
     rw [← hu] at ha7
     clear hu
     subst ha7
     obtain ⟨R, hR⟩ : ∃ R, R = blocksS P Q := ⟨_, rfl⟩
     rw [← hR] at HR7
     have HRR := Lib.hid hR
     have HB7 := Lib.hid (below_seq HB6.out (Nat.le_refl _) HX7.out)
     have HBk7 : Hid (Blk w7 g 52 .u8 (List.replicate 32 0)) := Lib.hid ((Fr.ofBelow HX7.out []).blk HBk6.out (by simp))
     clear hR
     unfold fB
     dsimp only
     go_upto_region 36 with fail
     obtain ⟨go, hgo⟩ : ∃ go, go = w7.heap.size := ⟨_, rfl⟩
     obtain ⟨w8, hw8⟩ : ∃ W, W = w7.alloc (.cells (ints .u8 (oTo R 0)).toArray 52) := ⟨_, rfl⟩
     have hB8 : Blk w8 go 52 .u8 (oTo R 0) := by rw [hw8, hgo]; exact heap_alloc_new w7 _
     have hF8 : Fr w7 w8 [] := by rw [hw8]; exact (Fr.refl w7 []).alloc _
     have hB88 : Blk w8 g 52 .u8 (List.replicate 32 0) := hF8.blk HBk7.out (by simp)
     have hog : g < go := by rw [hgo]; exact HBk7.out.lt
     rw [oTo_zero] at hw8
     simp only [ints, List.replicate, List.map] at hw8
     rw [← hw8, ← hgo]
     have HB8 := Lib.hid hB8
     have HB88 := Lib.hid hB88
     have HF8 := Lib.hid hF8
     have HGO := Lib.hid hgo
     clear hw8 hgo hB8 hF8 hB88
     go_wp2_with fail
     go_loopw [30] (fun i wr => ∃ k : Nat, k ≤ 32 ∧ i = .int .i64 k ∧ Hid (Blk wr go 52 .u8 (oTo R k)) ∧ Hid (Fr w8 wr [some go])) (fun i _ => 32 - (intOf i).toNat)
     case atStart => exact ⟨0, by omega, rfl, HB8, Lib.hid (Fr.refl _ _)⟩
     case round =>
      obtain ⟨k, hk9, rfl, HBk9, HFk⟩ := hrel
      obtain ⟨W9, hW9⟩ : ∃ W, W = wr := ⟨_, rfl⟩
      subst hW9
      by_cases hlt4 : k < 32
      ·obtain ⟨q, hq⟩ : ∃ q, q = k / 4 := ⟨_, rfl⟩
       obtain ⟨r, hr⟩ : ∃ r, r = k % 4 := ⟨_, rfl⟩
       have hq8 : q < 8 := by omega
       have hr4 : r < 4 := by omega
       have hkqr : k = 4 * q + r := by omega
       have hd4 : (k : Int) / 4 = (q : Int) := by omega
       have hm4 : (k : Int) % 4 = (r : Int) := by omega
       obtain ⟨e, he⟩ : ∃ e, e = 24 - 8 * r := ⟨_, rfl⟩
       have hei : IntKind.i64.wrap (24 - 8 * (r : Int)) = (e : Int) := by rw [IntWalk.i64_in _ (by omega)]; omega
       have hby := byte_at R hq8 hr4
       rw [← he, ← hkqr] at hby
       have HBY := Lib.hid hby
       have HKQ := Lib.hid hkqr
       have he24 : e ≤ 24 := by omega
       obtain ⟨g8, o8, e8, hx8⟩ := HR7.out.2 (by omega)
       cases e8
       have z8 := hx8 q hq8
       have hg8 := World.block_lt_of_cell? w7 _ z8
       rw [s8L_rd R hq8] at z8
       have y8 := cell_fr HFk.out (cell_fr HF8.out z8 (by simp)) (by simp; have := HGO.out; simp at hg8; omega)
       have f0 := HBk9.out.frozen k
       have c0 := HBk9.out.cell (j := k) (by rw [oTo_length R hk9]; omega)
       have hrn := wv_rng (R.at q)
       obtain ⟨x, hx⟩ : ∃ x, x = wv (R.at q) := ⟨_, rfl⟩
       rw [← hx] at y8 hrn
       have HX := Lib.hid hx
       clear hx z8 hx8 hby hkqr he hq hr
       go_wp2_with fail
       refine ⟨⟨k + 1, by omega, by go_num, ?_, Lib.hid (HFk.out.set _ _ (.inl (by simp)))⟩, by simp [intOf]; omega⟩
       rw [oTo_next R hlt4, HBY.out, ← HX.out]
       exact Lib.hid (HBk9.out.set _ _)
      ·obtain rfl : k = 32 := by omega
       rw [oTo_all] at HBk9
       have hs : (ints .u8 R.bytes).toArray.size = 32 := by rw [ints_size, bytes_len]
       have Hsz := Lib.hid hs
       have hgs : Blk W9 g 52 .u8 (List.replicate 32 0) := HFk.out.blk HB88.out (by simp; omega)
       have HGS := Lib.hid hgs
       clear hs hgs
       go_wp2_with (first
        | (refine wpList_load_row rfl 52 _ rfl go rfl 52 _ (0, 0) _ HBk9.out Tryd.underlying52 rfl (by rw [Hsz.out]; kernel_rfl) ?_)
        | (refine wpList_store_row rfl 52 _ _ rfl g _ rfl rfl 52 _ HGS.out (by rw [Hsz.out]; kernel_rfl) (by rw [Hsz.out]; simp [ints]) (ints_one _ _) ?_))
       have hrow := setRow_heap _ g _ (ints .u8 R.bytes).toArray 52 _ HGS.out
       have hl := run_loadVar_row (P := Tryd.prog) _ g 52 52 _ _ _ hrow Tryd.underlying52 rfl (by rw [Hsz.out]; kernel_rfl)
       refine bodyPost_ret (v := .agg (ints .u8 R.bytes).toArray) ?_ rfl ⟨?_, ?_⟩
       ·simp [results, Tryd.results35, asAddr, hl, Act.put]
       ·have h1 := HRR.out
        have h2 := HQ.out
        have h3 := HMl.out
        unfold shaS
        rw [← HP.out, ← h3, h2, Nat.mul_div_cancel_left _ (by decide), ← h1]
       ·have hf9 : Fr w W9 [] := ((Fr.ofBelow HB7.out []).trans HF8.out (fun o ho => .inl ho)).trans HFk.out (fun o ho => .inr (fun j e => by simp at ho; subst ho; cases e; rw [HGO.out]; exact HB7.out.size))
        exact (hf9.below (Nat.le_refl _) (fun o ho => by cases ho)).trans ⟨rfl, rfl, rfl, by simp, fun i hi => setRow_other _ g i _ (by have := HG.out; omega)⟩
end Go.Proofs.YtendohnkhbgfbaaDoor
namespace Go.Proofs.YtendohnkhbgfbaaDoor
open Go.RowKit

abbrev bytes (s : ByteArray) : List UInt8 := s.data.toList
abbrev text (l : List UInt8) : ByteArray := ⟨l.toArray⟩
theorem text_bytes (s : ByteArray) : text (bytes s) = s := by simp [bytes]
theorem bytes_text (l : List UInt8) : bytes (text l) = l := by simp [bytes]
theorem bytes_inj' {a b : ByteArray} (h : bytes a = bytes b) : a = b := by rw [← text_bytes a, h, text_bytes]
theorem tl_iff (a b : ByteArray) : a.toList = b.toList ↔ a = b := by
 rw [Lib.toList_data, Lib.toList_data]
 exact ⟨bytes_inj', fun e => by rw [e]⟩
theorem tl_beq (a b : ByteArray) : (a.toList == b.toList) = decide (a = b) := by
 by_cases h : a = b
 ·subst h; rw [decide_eq_true rfl]; exact beq_self_eq_true _
 ·rw [decide_eq_false h]; exact beq_eq_false_iff_ne.2 (fun e => h ((tl_iff a b).1 e))
end Go.Proofs.YtendohnkhbgfbaaDoor
