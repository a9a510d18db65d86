/-
  Texts joined into one file: ChunkU, Conv, BitsP, Bits, BitsN, Ref01, PackP, StoP.
-/
import Derived.Test.YtendohnkhbgfbaaDoorJRefPk5
import Derived.Test.YtendohnkhbgfbaaDoorJRefPk2
import Derived.Test.YtendohnkhbgfbaaDoorJRefPk1
import Derived.Laws.BytesString
import Derived.Laws.BytesArg
import Derived.WalkSmall
import Derived.IntWalk
import Derived.Laws.Bits64b
import Derived.BigQuiet
import Derived.Deep.RegionWith
import Derived.Deep.RegionHeld3
namespace Go.Proofs.YtendohnkhbgfbaaDoor
open Go.RowKit

def MagicAt (w : World) : Prop := ∀ j, j < 4 → w.cell? ⟨0, j, none⟩ = some (.int .u8 (rd magicL j))
theorem magic_rd {w W : World} (hb : Below w.heap.size w W) (h : MagicAt w) : Rd W .u8 (some ⟨0, 0, none⟩) 4 magicL :=
 ⟨rfl, fun _ => ⟨_, 0, rfl, fun j hj => by rw [Nat.zero_add]; exact kept_cell hb (h j hj)⟩⟩
structure ChunksAt (w : World) (A : Option Addr) (n : Nat) (L : List (Int × List Int)) : Prop where
 len : L.length = n
 at' : 0 < n → ∃ b o, A = some ⟨b, o, none⟩ ∧ ∀ j, j < n → ∃ A' n' c', w.cell? ⟨b, o + j * 2, none⟩ = some (.int .i64 (L.getD j (0, [])).1) ∧ w.cell? ⟨b, o + j * 2 + 1, none⟩ = some (.slice A' n' c') ∧ Rd w .u8 A' n' (L.getD j (0, [])).2 ∧ (A' = none → n' = 0 ∧ c' = 0) ∧ n' ≤ c'
def putK (x : Int × List Int) : List Int := chunkB x.1 x.2
def putsB (L : List (Int × List Int)) (j : Nat) : List Int := (L.take j).flatMap putK
theorem putsB_next {L : List (Int × List Int)} {j : Nat} (h : j < L.length) : putsB L (j + 1) = putsB L j ++ putK (L.getD j (0, [])) := by
 unfold putsB
 rw [List.take_succ_eq_append_getElem h, List.flatMap_append, List.getD_eq_getElem?_getD, List.getElem?_eq_getElem h]
 simp
theorem putsB_le (L : List (Int × List Int)) (j : Nat) : (putsB L j).length ≤ (putsB L L.length).length := by
 unfold putsB
 rw [List.take_length]
 conv => rhs; rw [← List.take_append_drop j L, List.flatMap_append, List.length_append]
 omega
structure ChPutSt (w W : World) (v : Value) (m : Nat) (l : List Int) (gb : Nat) (k : Int) (A : Option Addr) (n c : Nat) : Prop where
 own : W.ownsRow w.heap.size 5 1 v m (ints .u8 l)
 bel : Below w.heap.size w W
 row : W.heap[gb]? = some (.cells #[.int .i64 k, .slice A n c] 26 (0, 0))
section
variable {w W W' : World} {v v' : Value} {m m' gb n c : Nat} {l l' : List Int} {k : Int} {A : Option Addr}
theorem ChPutSt.c0 (P : ChPutSt w W v m l gb k A n c) : W.cell? ⟨gb, 0, none⟩ = some (.int .i64 k) := by rw [cell_of_row W gb _ _ _ (0, 0) P.row]; rfl
theorem ChPutSt.c1 (P : ChPutSt w W v m l gb k A n c) : W.cell? ⟨gb, 1, none⟩ = some (.slice A n c) := by rw [cell_of_row W gb _ _ _ (0, 0) P.row]; rfl
theorem ChPutSt.lt (P : ChPutSt w W v m l gb k A n c) : gb < W.heap.size := (Array.getElem?_eq_some_iff.1 P.row).1
theorem ChPutSt.drew (P : ChPutSt w W v m l gb k A n c) : ChPutSt w W.drew v m l gb k A n c := ⟨P.own, P.bel.drew, P.row⟩
theorem ChPutSt.grown (P : ChPutSt w W v m l gb k A n c) (ho : W'.ownsRow w.heap.size 5 1 v' m' (ints .u8 l')) (hg : W.grownBy W' v.ownBlock) : ChPutSt w W' v' m' l' gb k A n c :=
 ⟨ho, P.bel.grown hg P.bel.size (fun k hk => (P.own.lt k hk).1), (hg.block gb P.lt (fun e => own_apart P.row (by decide) P.own gb e.symm rfl)).trans P.row⟩
theorem ChPutSt.below (P : ChPutSt w W v m l gb k A n c) (hb : Below W.heap.size W W') : ChPutSt w W' v m l gb k A n c :=
 ⟨own_below P.own hb, below_seq P.bel (Nat.le_refl _) hb, (hb.block gb P.lt).trans P.row⟩
theorem ChPutSt.alloc (P : ChPutSt w W v m l gb k A n c) (o : Obj) : ChPutSt w (W.alloc o) v m l gb k A n c := P.below ((Below.refl _ _).alloc (Nat.le_refl _) _)
end
set_option maxHeartbeats 1000000 in set_option maxRecDepth 100000 in
theorem ChPut_calls (A : Option Addr) (n c : Nat) (L : List (Int × List Int)) (w : World) (hC : ChunksAt w A n L) (hL : ∀ x ∈ L, (0 ≤ x.1 ∧ x.1 ≤ 255) ∧ x.2.length ≤ 100000000 ∧ ∀ y ∈ x.2, 0 ≤ y ∧ y ≤ 255) (hlen : (putsB L L.length).length ≤ 1000000000) (hn : n ≤ 1000000) (hK : KeysAt w) (hBg : BeginAt w) (hMg : MagicAt w) :
  Calls Tryd.prog 9 #[.slice A n c] w fun e w' => ∃ v, e = .returned v ∧ Hid (w'.ownsRow w.heap.size 5 1 v (putsB L L.length).length (ints .u8 (putsB L L.length))) ∧ Below w.heap.size w w' := by
 have HC := Lib.hid hC
 have HL := Lib.hid hL
 have Hlen := Lib.hid hlen
 have HK := Lib.hid hK
 have HBg := Lib.hid hBg
 have HMg := Lib.hid hMg
 have Hln := Lib.hid hC.len
 clear hC hL hlen hK hBg hMg
 go_enter Tryd.func9, Tryd.ntmps9
 go_wp2_with fail
 go_loopw [3, 8] (fun v i wr => ∃ j : Nat, j ≤ n ∧ i = .int .i64 j ∧ Hid (wr.ownsRow w.heap.size 5 1 v (putsB L j).length (ints .u8 (putsB L j))) ∧ Hid (Below w.heap.size w wr)) (fun _ i _ => n - (intOf i).toNat)
 case atStart => exact ⟨0, by omega, rfl, Lib.hid (World.ownsRow_nil _ _ _ _), Lib.hid (Below.refl _ _)⟩
 case round =>
  obtain ⟨j, hj, rfl, HO, HB⟩ := hrel
  obtain ⟨W, hW⟩ : ∃ W, W = wr := ⟨_, rfl⟩
  subst hW
  by_cases hlt : j < n
  ·have hjl : j < L.length := by have := Hln.out; omega
   obtain ⟨b, o, rfl, hx⟩ := HC.out.at' (by omega)
   obtain ⟨A1, n1, c1, z0, z1, hr1, hne1, hc1⟩ := hx j hlt
   have hmem : L.getD j (0, []) ∈ L := by rw [List.getD_eq_getElem?_getD, List.getElem?_eq_getElem hjl]; exact List.getElem_mem hjl
   obtain ⟨hk, hcl, hcs⟩ := HL.out _ hmem
   have hnx := putsB_next hjl
   obtain ⟨k, hke⟩ : ∃ k, k = (L.getD j (0, [])).1 := ⟨_, rfl⟩
   obtain ⟨cs, hcse⟩ : ∃ cs, cs = (L.getD j (0, [])).2 := ⟨_, rfl⟩
   have hpk : putK (L.getD j (0, [])) = chunkB k cs := by rw [hke, hcse]; rfl
   rw [hpk] at hnx
   rw [← hke] at z0 hk
   rw [← hcse] at hr1 hcl hcs
   have hn1 : n1 ≤ 100000000 := by rw [← hr1.1]; exact hcl
   obtain ⟨m, hm⟩ : ∃ m, m = (putsB L j).length := ⟨_, rfl⟩
   have hm1 : m + 9 + (lebU n1).length + n1 ≤ 1000000000 := by
    have h1 := putsB_le L (j + 1)
    rw [hnx, List.length_append, chunkB_length, hr1.1, ← hm] at h1
    have := Hlen.out
    omega
   obtain ⟨l, hl⟩ : ∃ l, l = putsB L j := ⟨_, rfl⟩
   rw [← hm, ← hl] at HO
   have Hnx : Hid (putsB L (j + 1) = l ++ chunkB k cs) := Lib.hid (by rw [hl]; exact hnx)
   have Hm := Lib.hid (show m = l.length by rw [hm, hl])
   have z0 := kept_cell HB.out z0
   have z1 := kept_cell HB.out z1
   have Hr1 := Lib.hid hr1
   have Hn1 := Lib.hid hne1
   have Hcs := Lib.hid hcs
   clear hx hmem hcl hcs hnx hke hcse hpk hr1 hne1 hm hl hjl
   go_upto_region 5 with fail
   obtain ⟨gb, hgb⟩ : ∃ gb, gb = W.heap.size := ⟨_, rfl⟩
   obtain ⟨w1, hw1⟩ : ∃ X, X = W.alloc (.cells #[.int .i64 k, .slice A1 n1 c1] 26) := ⟨_, rfl⟩
   rw [← hw1, ← hgb]
   have hb1 : Below W.heap.size W w1 := by rw [hw1]; exact (Below.refl _ _).alloc (Nat.le_refl _) _
   have P : ChPutSt w w1 _ m l gb k A1 n1 c1 := ⟨own_below HO.out hb1, below_seq HB.out (Nat.le_refl _) hb1, by rw [hw1, hgb]; exact heap_alloc_new W _⟩
   have P0 := P.drew
   have HP := Lib.hid P
   clear hw1 hgb hb1 P z0 z1 HO HB
   have hwk : IntKind.u8.wrap k = k := by rw [IntKind.wrap_u8]; omega
   have hwn : IntKind.u64.wrap (n1 : Int) = n1 := by rw [IntKind.wrap_u64]; omega
   refine wp_region_last (n := 6) (on := ⟨_, _, _, _, _, _⟩) (S := fun W => W.cell? ⟨gb, 0, none⟩ = some (.int .i64 k) ∧ W.cell? ⟨gb, 1, none⟩ = some (.slice A1 n1 c1)) (by kernel_rfl) rfl (by kernel_rfl) (⟨P0.c0, P0.c1⟩) (fun hHeld => ?_)
   refine' wpAnyH_take (i := 0) (oi := ⟨_, _, _, _, _, _⟩) rfl (by kernel_rfl) (by kernel_rfl) (by kernel_rfl) (fun _ _ _ h => h) (Or.inl ⟨by rfl, ?a0⟩) (by assumption) ?b0
   case a0 => (intro w hSw; (try dsimp only at hSw); go_simp; try with_reducible rfl)
   try simp only [Act.put, List.setIfInBounds_toArray, List.set_cons_zero, List.set_cons_succ]
   refine' wpAnyH_take (i := 1) (oi := ⟨_, _, _, _, _, _⟩) rfl (by kernel_rfl) (by kernel_rfl) (by kernel_rfl) (fun _ _ _ h => h) (Or.inl ⟨by rfl, ?a1⟩) (by assumption) ?b1
   case a1 => (intro w hSw; (try dsimp only at hSw); go_simp; try with_reducible rfl)
   try simp only [Act.put, List.setIfInBounds_toArray, List.set_cons_zero, List.set_cons_succ]
   refine' wpAnyH_take (i := 3) (oi := ⟨_, _, _, _, _, _⟩) rfl (by kernel_rfl) (by kernel_rfl) (by kernel_rfl) (fun _ _ _ h => h) (Or.inl ⟨by rfl, ?a2⟩) (by assumption) ?b2
   case a2 => (intro w hSw; (try dsimp only at hSw); go_simp; try with_reducible rfl)
   try simp only [Act.put, List.setIfInBounds_toArray, List.set_cons_zero, List.set_cons_succ]
   refine wpAnyH_ready (rs := [2]) (by kernel_rfl) (by simp) ?_
   refine AllReadyH.cons (o := ⟨_, _, _, _, _, _⟩) rfl (fun K hK => ?_) AllReadyH.nil
   refine step_appRd (by rfl) _ _ (by rfl) elBy P0.own (by rfl) (by rfl) (magic_rd P0.bel HMg.out) (fun e => by cases e) (by omega) P0.bel.size ?_
   intro v2 W2 ho2 hg2
   have P2 := P0.grown ho2 hg2
   refine hK.out _ _ (⟨P2.c0, P2.c1⟩) (fun hHeldN => ?_)
   clear hK K hHeld
   have hHeld := hHeldN
   clear hHeldN
   try simp only [Act.put, List.setIfInBounds_toArray, List.set_cons_zero, List.set_cons_succ]
   refine wpAnyH_ready (rs := [4]) (by kernel_rfl) (by simp) ?_
   refine AllReadyH.cons (o := ⟨_, _, _, _, _, _⟩) rfl (fun K hK => ?_) AllReadyH.nil
   go_simp
   go_at_call 16
   refine (sum_calls k A1 n1 c1 cs _ hk (Hr1.out.below P2.bel) Hn1.out hc1 Hcs.out hn1 (fun j hj => kept_cell P2.bel (HK.out j hj)) (fun j hj => kept_cell P2.bel (HBg.out j hj))).mono ?_
   rintro e W4 ⟨g4, rfl, hr4, hb4⟩
   have P4 := P2.below hb4
   refine hK.out _ _ (⟨P4.c0, P4.c1⟩) (fun hHeldN => ?_)
   clear hK K hHeld
   have hHeld := hHeldN
   clear hHeldN
   try simp only [Act.put, List.setIfInBounds_toArray, List.set_cons_zero, List.set_cons_succ]
   refine wpAnyH_ready (rs := [5]) (by kernel_rfl) (by simp) ?_
   refine AllReadyH.cons (o := ⟨_, _, _, _, _, _⟩) rfl (fun K hK => ?_) AllReadyH.nil
   refine step_appRd (by rfl) _ _ (by rfl) elBy P4.own (by rfl) (by rfl) (hr4.out) (fun e => by cases e) (by omega) P4.bel.size ?_
   intro v5 W5 ho5 hg5
   have P5 := P4.grown ho5 hg5
   refine hK.out _ _ (⟨P5.c0, P5.c1⟩) (fun hHeldN => ?_)
   clear hK K hHeld
   have hHeld := hHeldN
   clear hHeldN
   try simp only [Act.put, List.setIfInBounds_toArray, List.set_cons_zero, List.set_cons_succ]
   refine wpAnyH_done (by kernel_rfl) ?_ _
   change wpList _ _ _ _ _ _
   have HP5 := Lib.hid P5
   clear P0 P2 P4 P5 hHeld
   go_upto_region 6 with fail
   have Q0 := HP5.out
   refine wp_region_last (n := 12) (on := ⟨_, _, _, _, _, _⟩) (S := fun W => W.cell? ⟨gb, 0, none⟩ = some (.int .i64 k) ∧ W.cell? ⟨gb, 1, none⟩ = some (.slice A1 n1 c1)) (by kernel_rfl) rfl (by kernel_rfl) (⟨Q0.drew.c0, Q0.drew.c1⟩) (fun hHeld => ?_)
   refine' wpAnyH_take (i := 0) (oi := ⟨_, _, _, _, _, _⟩) rfl (by kernel_rfl) (by kernel_rfl) (by kernel_rfl) (fun _ _ _ h => h) (Or.inl ⟨by rfl, ?a3⟩) (by assumption) ?b3
   case a3 => (intro w hSw; (try dsimp only at hSw); go_simp; try with_reducible rfl)
   try simp only [Act.put, List.setIfInBounds_toArray, List.set_cons_zero, List.set_cons_succ]
   refine' wpAnyH_take (i := 1) (oi := ⟨_, _, _, _, _, _⟩) rfl (by kernel_rfl) (by kernel_rfl) (by kernel_rfl) (fun _ _ _ h => h) (Or.inl ⟨by rfl, ?a4⟩) (by assumption) ?b4
   case a4 => (intro w hSw; (try dsimp only at hSw); go_simp; try with_reducible rfl)
   try simp only [Act.put, List.setIfInBounds_toArray, List.set_cons_zero, List.set_cons_succ]
   refine' wpAnyH_take (i := 2) (oi := ⟨_, _, _, _, _, _⟩) rfl (by kernel_rfl) (by kernel_rfl) (by kernel_rfl) (fun _ _ _ h => h) (Or.inl ⟨by rfl, ?a5⟩) (by assumption) ?b5
   case a5 => (intro w hSw; (try dsimp only at hSw); go_simp; try with_reducible rfl)
   try simp only [Act.put, List.setIfInBounds_toArray, List.set_cons_zero, List.set_cons_succ]
   refine' wpAnyH_take (i := 3) (oi := ⟨_, _, _, _, _, _⟩) rfl (by kernel_rfl) (by kernel_rfl) (by kernel_rfl) (fun _ _ _ h => h) (Or.inl ⟨by rfl, ?a6⟩) (by assumption) ?b6
   case a6 => (intro w hSw; (try dsimp only at hSw); go_simp; try with_reducible rfl)
   try simp only [Act.put, List.setIfInBounds_toArray, List.set_cons_zero, List.set_cons_succ]
   refine' wpAnyH_take (i := 6) (oi := ⟨_, _, _, _, _, _⟩) rfl (by kernel_rfl) (by kernel_rfl) (by kernel_rfl) (fun _ _ _ h => h) (Or.inl ⟨by rfl, ?a7⟩) (by assumption) ?b7
   case a7 => (intro w hSw; (try dsimp only at hSw); go_simp; try with_reducible rfl)
   try simp only [Act.put, List.setIfInBounds_toArray, List.set_cons_zero, List.set_cons_succ]
   refine' wpAnyH_take (i := 7) (oi := ⟨_, _, _, _, _, _⟩) rfl (by kernel_rfl) (by kernel_rfl) (by kernel_rfl) (fun _ _ _ h => h) (Or.inl ⟨by rfl, ?a8⟩) (by assumption) ?b8
   case a8 => (intro w hSw; (try dsimp only at hSw); go_simp; try with_reducible rfl)
   try simp only [Act.put, List.setIfInBounds_toArray, List.set_cons_zero, List.set_cons_succ]
   refine' wpAnyH_take (i := 8) (oi := ⟨_, _, _, _, _, _⟩) rfl (by kernel_rfl) (by kernel_rfl) (by kernel_rfl) (fun _ _ _ h => h) (Or.inl ⟨by rfl, ?a9⟩) (by assumption) ?b9
   case a9 => (intro w hSw; (try dsimp only at hSw); go_simp; try with_reducible rfl)
   try simp only [Act.put, List.setIfInBounds_toArray, List.set_cons_zero, List.set_cons_succ]
   refine' wpAnyH_take (i := 9) (oi := ⟨_, _, _, _, _, _⟩) rfl (by kernel_rfl) (by kernel_rfl) (by kernel_rfl) (fun _ _ _ h => h) (Or.inl ⟨by rfl, ?a10⟩) (by assumption) ?b10
   case a10 => (intro w hSw; (try dsimp only at hSw); go_simp; try with_reducible rfl)
   try simp only [Act.put, List.setIfInBounds_toArray, List.set_cons_zero, List.set_cons_succ]
   refine wpAnyH_ready (rs := [4]) (by kernel_rfl) (by simp) ?_
   refine AllReadyH.cons (o := ⟨_, _, _, _, _, _⟩) rfl (fun K hK => ?_) AllReadyH.nil
   go_simp
   have Q4 := Q0.alloc (.cells #[.int .u8 k] 5)
   refine hK.out _ _ (⟨(Q4.drew).c0, (Q4.drew).c1⟩) (fun hHeldN => ?_)
   clear hK K hHeld
   have hHeld := hHeldN
   clear hHeldN
   try simp only [Act.put, List.setIfInBounds_toArray, List.set_cons_zero, List.set_cons_succ]
   refine wpAnyH_ready (rs := [5]) (by kernel_rfl) (by simp) ?_
   refine AllReadyH.cons (o := ⟨_, _, _, _, _, _⟩) rfl (fun K hK => ?_) AllReadyH.nil
   refine step_appRd (by rfl) _ _ (by rfl) elBy Q4.drew.own (by rfl) (by rfl) (rd_drew (lit_rd (T := 5) (Later.refl _) k)) (fun e => by cases e) (by omega) Q4.drew.bel.size ?_
   intro v5 W5 ho5 hg5
   have Q5 := Q4.drew.grown ho5 hg5
   refine hK.out _ _ (⟨Q5.c0, Q5.c1⟩) (fun hHeldN => ?_)
   clear hK K hHeld
   have hHeld := hHeldN
   clear hHeldN
   try simp only [Act.put, List.setIfInBounds_toArray, List.set_cons_zero, List.set_cons_succ]
   refine wpAnyH_ready (rs := [10]) (by kernel_rfl) (by simp) ?_
   refine AllReadyH.cons (o := ⟨_, _, _, _, _, _⟩) rfl (fun K hK => ?_) AllReadyH.nil
   go_simp
   go_at_call 17
   refine (U_calls n1 _ (by omega)).mono ?_
   rintro e W9 ⟨v9, rfl, ho9, hb9⟩
   obtain ⟨A9, c9, rfl, hc9, r9⟩ := own_rd ho9
   have nl9 := own_none ho9
   have Q9 := Q5.below hb9
   clear ho9
   refine hK.out _ _ (⟨Q9.c0, Q9.c1⟩) (fun hHeldN => ?_)
   clear hK K hHeld
   have hHeld := hHeldN
   clear hHeldN
   try simp only [Act.put, List.setIfInBounds_toArray, List.set_cons_zero, List.set_cons_succ]
   refine wpAnyH_ready (rs := [11]) (by kernel_rfl) (by simp) ?_
   refine AllReadyH.cons (o := ⟨_, _, _, _, _, _⟩) rfl (fun K hK => ?_) AllReadyH.nil
   refine step_appRd (by rfl) _ _ (by rfl) elBy Q9.own (by rfl) (by rfl) (r9) (nl9) (by omega) Q9.bel.size ?_
   intro v11 W11 ho11 hg11
   have Q11 := Q9.grown ho11 hg11
   refine hK.out _ _ (⟨Q11.c0, Q11.c1⟩) (fun hHeldN => ?_)
   clear hK K hHeld
   have hHeld := hHeldN
   clear hHeldN
   try simp only [Act.put, List.setIfInBounds_toArray, List.set_cons_zero, List.set_cons_succ]
   refine wpAnyH_done (by kernel_rfl) ?_ _
   change wpList _ _ _ _ _ _
   have HQ11 := Lib.hid Q11
   have q1 := Q11.c1
   have hsq := Q11.bel.size
   clear Q0 Q4 Q5 Q9 Q11 hHeld ho2 hg2 ho5 hg5 hb4 hb9 hc9 r9 nl9 ho11 hg11 hwk hwn
   go_wp2_with (at_builtin; refine wpList_appRd rfl _ _ rfl elBy HQ11.out.own rfl rfl (Hr1.out.below HQ11.out.bel) Hn1.out (by omega) hsq ?_; intro v12 W12 ho12 hg12; have Q12 := HQ11.out.grown ho12 hg12; have HQ12 := Lib.hid Q12; clear ho12 hg12 Q12)
   go_roundw
   case rel =>
    have h9 := HQ12.out.own
    have e9 : l ++ magicL ++ sumB k cs ++ [k] ++ lebU n1 ++ cs = putsB L (j + 1) := by
     rw [Hnx.out]
     unfold chunkB tailB
     rw [Hr1.out.1]
     simp
    have e8 := congrArg List.length e9
    simp only [List.length_append, List.length_cons, List.length_nil, sumB_length, Hr1.out.1, ← Hm.out] at e8
    have e7 : magicL.length = 4 := rfl
    rw [e7] at e8
    rw [e9, show m + 4 + 4 + 1 + (lebU n1).length + n1 = (putsB L (j + 1)).length by omega] at h9
    exact ⟨j + 1, by omega, by go_num, Lib.hid h9, Lib.hid HQ12.out.bel⟩
   case measure => simp [intOf]; omega
  ·obtain rfl : j = n := by omega
   go_wp2
   go_ret
   rw [← Hln.out] at HO
   exact ⟨_, rfl, HO, HB.out⟩
end Go.Proofs.YtendohnkhbgfbaaDoor
namespace Go.Proofs.YtendohnkhbgfbaaDoor
open Go.RowKit

theorem conv_all {W : World} {A : Option Addr} {n c : Nat} {ns : List Int} (h : Rd W .u8 A n ns) : (convert 22 9 (.slice A n c)).run Tryd.prog W = .ok (.string (strOfNums ns)) W := by
 rcases Nat.eq_zero_or_pos n with h0 | h0
 ·subst h0
  have : ns = [] := List.length_eq_zero_iff.1 h.1
  subst this
  rw [run_convert_bytes_string W 22 9 A 0 c (e := 5) Tryd.underlying22 Tryd.underlying5 Tryd.underlying9]
  cases A <;> simp [Conv.bytesToString, loadCells]
  all_goals rfl
 ·obtain ⟨b, o, rfl, hc⟩ := h.2 h0
  exact run_convert_bytes_arg W _ 5 Tryd.underlying22 Tryd.underlying5 b o n c ns h.1 hc _ Tryd.underlying9
theorem conv_allL {w0 : World} {A : Option Addr} {n c : Nat} {ns : List Int} (h : Rd w0 .u8 A n ns) : ∀ W, Later w0 W → (convert 22 9 (.slice A n c)).run Tryd.prog W = .ok (.string (strOfNums ns)) W :=
 fun _ hL => conv_all (h.below hL.bel)
end Go.Proofs.YtendohnkhbgfbaaDoor
namespace Go.Proofs.YtendohnkhbgfbaaDoor
theorem and7_i64 (p : Nat) (hp : p < 4611686018427387904) : bits BinOp.and IntKind.i64 (p : Int) 7 = ((p % 8 : Nat) : Int) := by
 have h1 : (BitVec.ofInt 64 (p : Int)).toNat = p := by
  rw [BitVec.ofInt_natCast, BitVec.toNat_ofNat]; exact Nat.mod_eq_of_lt (by omega)
 have h2 : (BitVec.ofInt 64 (7 : Int)).toNat = 7 := by decide
 show IntKind.i64.wrap ((BitVec.ofInt 64 (p : Int) &&& BitVec.ofInt 64 (7 : Int)).toNat : Int) = _
 rw [BitVec.toNat_and, h1, h2, show (7 : Nat) = 2 ^ 3 - 1 from rfl, Nat.and_two_pow_sub_one_eq_mod]
 exact IntWalk.i64_in _ (by omega)
theorem and1_u8 (p : Nat) (hp : p < 256) : bits BinOp.and IntKind.u8 (p : Int) 1 = ((p % 2 : Nat) : Int) := by
 have h1 : (BitVec.ofInt 8 (p : Int)).toNat = p := by
  rw [BitVec.ofInt_natCast, BitVec.toNat_ofNat]; exact Nat.mod_eq_of_lt (by omega)
 have h2 : (BitVec.ofInt 8 (1 : Int)).toNat = 1 := by decide
 show IntKind.u8.wrap ((BitVec.ofInt 8 (p : Int) &&& BitVec.ofInt 8 (1 : Int)).toNat : Int) = _
 rw [BitVec.toNat_and, h1, h2, Nat.and_one_is_mod]
 exact IntWalk.u8_in _ (by omega)
theorem or_u64_top (x b k : Nat) (hx : x < 2 ^ k) (hb : b ≤ 1) (hk : k < 64) : bits BinOp.or IntKind.u64 (x : Int) ((b * 2 ^ k : Nat) : Int) = ((x + b * 2 ^ k : Nat) : Int) := by
 have hp : (2 : Nat) ^ k ≤ 2 ^ 63 := Nat.pow_le_pow_right (by omega) (by omega)
 have hp2 : (2 : Nat) ^ 63 = 9223372036854775808 := by decide
 have hb2 : b * 2 ^ k ≤ 2 ^ k := by
  have := Nat.mul_le_mul_right (2 ^ k) hb
  omega
 rw [bits_or_u64_nat x (b * 2 ^ k) (by omega) (by omega)]
 have h := Nat.two_pow_add_eq_or_of_lt hx b
 rw [Nat.mul_comm] at h
 rw [Nat.or_comm, ← h, Nat.add_comm]
end Go.Proofs.YtendohnkhbgfbaaDoor
namespace Go.Proofs.YtendohnkhbgfbaaDoor
open Go.RowKit

def RdrAt (w : World) (r : Nat) (A : Option Addr) (len cap : Nat) (at' : Nat) : Prop := w.heap[r]? = some (.cells #[.slice A len cap, .int .i64 at'] 120 (0, 0))
theorem RdrAt.lt {w : World} {r : Nat} {A : Option Addr} {len cap at' : Nat} (h : RdrAt w r A len cap at') : r < w.heap.size := (Array.getElem?_eq_some_iff.1 h).1
theorem RdrAt.c0 {w : World} {r : Nat} {A : Option Addr} {len cap at' : Nat} (h : RdrAt w r A len cap at') : w.cell? ⟨r, 0, none⟩ = some (.slice A len cap) := by
 rw [cell_of_row w r 0 _ _ (0, 0) h]; rfl
theorem RdrAt.c1 {w : World} {r : Nat} {A : Option Addr} {len cap at' : Nat} (h : RdrAt w r A len cap at') : w.cell? ⟨r, 1, none⟩ = some (.int .i64 at') := by
 rw [cell_of_row w r 1 _ _ (0, 0) h]; rfl
theorem RdrAt.frozen {w : World} {r : Nat} {A : Option Addr} {len cap at' : Nat} (h : RdrAt w r A len cap at') (j : Nat) : w.frozen? ⟨r, j, none⟩ = false := frozen_of_row w r j _ _ h
theorem RdrAt.set {w : World} {r : Nat} {A : Option Addr} {len cap at' : Nat} (h : RdrAt w r A len cap at') (x : Nat) : RdrAt (w.setCell ⟨r, 1, none⟩ (.int .i64 x)) r A len cap x := by
 unfold RdrAt
 rw [heap_setCell_same w r 1 _ _ _ h]
 rfl
theorem RdrAt.keep {w w' : World} {r : Nat} {A : Option Addr} {len cap at' : Nat} (h : RdrAt w r A len cap at') (hb : Below w.heap.size w w') : RdrAt w' r A len cap at' := (hb.block r h.lt).trans h

set_option maxHeartbeats 1000000 in
theorem Left_calls (r : Nat) (A : Option Addr) (len cap at' : Nat) (w : World) (hR : RdrAt w r A len cap at') (hlen : len ≤ 140737488355328) (hat : at' ≤ 8 * len) :
  Calls Tryd.prog 102 #[.pointer (some ⟨r, 0, none⟩)] w fun e w' => e = .returned (.int .i64 (8 * len - at')) ∧ Below w.heap.size w w' := by
 have c0 := hR.c0
 have c1 := hR.c1
 clear hR
 have s1 : IntKind.i64.wrap (8 * (len : Int)) = 8 * len := IntWalk.i64_in _ (by omega)
 have s2 : IntKind.i64.wrap (8 * (len : Int) - at') = 8 * len - at' := IntWalk.i64_in _ (by omega)
 go_enter Tryd.func102, Tryd.ntmps102
 go_wp2
 go_quiet (fail)
 go_wp2
 go_ret
 exact ⟨rfl, (Below.refl _ _).trans ⟨rfl, rfl, rfl, Nat.le_refl _, fun _ _ => rfl⟩⟩

theorem Rd.grown {w w1 : World} {k : IntKind} {A : Option Addr} {n : Nat} {xs : List Int} (h : Rd w k A n xs) {r : Nat} (hg : w.grownBy w1 (some r)) (hne : ∀ b o, A = some ⟨b, o, none⟩ → b ≠ r) : Rd w1 k A n xs :=
 ⟨h.1, fun hn => by obtain ⟨b, o, e, hc⟩ := h.2 hn; exact ⟨b, o, e, fun j hj => hg.cell (hc j hj) (by simpa using hne b o e)⟩⟩
theorem grown_below {w w1 w2 : World} {r : Nat} (h : w.grownBy w1 (some r)) (hb : Below w1.heap.size w1 w2) : w.grownBy w2 (some r) :=
 ⟨hb.os.trans h.os, hb.tape.trans h.tape, hb.output.trans h.output, Nat.le_trans h.size hb.size, fun k hk hne => (hb.block k (Nat.lt_of_lt_of_le hk h.size)).trans (h.block k hk hne)⟩
theorem grown_set {w w1 : World} {r : Nat} (h : w.grownBy w1 (some r)) (j : Nat) (v : Value) : w.grownBy (w1.setCell ⟨r, j, none⟩ v) (some r) :=
 ⟨h.os, h.tape, h.output, by simpa using h.size, fun k hk hne => (heap_setCell_other w1 ⟨r, j, none⟩ k v (by intro e; exact hne (by rw [e]))).trans (h.block k hk hne)⟩
theorem grown_refl (w : World) (row : Option Nat) : w.grownBy w row := ⟨rfl, rfl, rfl, Nat.le_refl _, fun _ _ _ => rfl⟩
def bitAt (bs : List Int) (i : Nat) : Nat := (rd bs (i / 8)).toNat / 2 ^ (i % 8) % 2
def numAt (bs : List Int) (at' : Nat) : Nat → Nat
 | 0 => 0
 | i + 1 => numAt bs at' i + bitAt bs (at' + i) * 2 ^ i
theorem bitAt_le (bs : List Int) (i : Nat) : bitAt bs i ≤ 1 := by unfold bitAt; omega
theorem numAt_lt (bs : List Int) (at' i : Nat) : numAt bs at' i < 2 ^ i := by
 induction i with
 | zero => simp [numAt]
 | succ i ih =>
  have h := Nat.mul_le_mul_right (2 ^ i) (bitAt_le bs (at' + i))
  simp only [numAt, Nat.pow_succ]
  omega
theorem bit_step (bs : List Int) (at' k p y : Nat) (hp : p = at' + k) (hy : rd bs (p / 8) = y) (hy2 : y < 256) (hk : k < 60) :
  bits BinOp.or IntKind.u64 ((numAt bs at' k : Nat) : Int) (IntKind.u64.wrap (IntKind.u64.wrap (bits BinOp.and IntKind.u8 ((y : Int) / 2 ^ (p % 8)) 1) * 2 ^ k)) = ((numAt bs at' (k + 1) : Nat) : Int) := by
 have e1 : (y : Int) / 2 ^ (p % 8) = ((y / 2 ^ (p % 8) : Nat) : Int) := by
  rw [Int.natCast_ediv, Int.natCast_pow]
  rfl
 have hd : y / 2 ^ (p % 8) ≤ y := Nat.div_le_self _ _
 have e2 : bitAt bs p = y / 2 ^ (p % 8) % 2 := by unfold bitAt; rw [hy]; rfl
 have hb := bitAt_le bs p
 have hpow : (2 : Nat) ^ k ≤ 2 ^ 60 := Nat.pow_le_pow_right (by omega) (by omega)
 have hp60 : (2 : Nat) ^ 60 = 1152921504606846976 := by decide
 have hm : bitAt bs p * 2 ^ k ≤ 1 * 2 ^ k := Nat.mul_le_mul_right _ hb
 rw [e1, and1_u8 _ (by omega), ← e2, IntWalk.u64_in ((bitAt bs p : Nat) : Int) (by omega)]
 have e3 : ((bitAt bs p : Nat) : Int) * 2 ^ k = ((bitAt bs p * 2 ^ k : Nat) : Int) := by
  rw [Int.natCast_mul, Int.natCast_pow]
  rfl
 rw [e3, IntWalk.u64_in _ (by omega), or_u64_top _ _ _ (numAt_lt bs at' k) hb (by omega)]
 simp only [numAt, hp]
set_option maxHeartbeats 1000000 in
theorem Bits_calls (r : Nat) (A : Option Addr) (len cap at' n : Nat) (bs : List Int) (w : World) (hR : RdrAt w r A len cap at') (hB : Rd w .u8 A len bs) (hb : ∀ j, j < len → 0 ≤ rd bs j ∧ rd bs j ≤ 255) (hne : ∀ b o, A = some ⟨b, o, none⟩ → b ≠ r) (hlen : len ≤ 140737488355328) (hat : at' ≤ 8 * len) (hn : n ≤ 60) (hok : at' + n ≤ 8 * len) :
  Calls Tryd.prog 76 #[.pointer (some ⟨r, 0, none⟩), .int .i64 n] w fun e w' => e = .returned (.tuple #[(.int .u64 (numAt bs at' n : Nat)), .bool true]) ∧ RdrAt w' r A len cap (at' + n) ∧ w.grownBy w' (some r) := by
 have HR := Lib.hid hR
 have HB := Lib.hid hB
 have Hb := Lib.hid hb
 clear hR hB hb
 go_enter Tryd.func76, Tryd.ntmps76
 go_wp2_with fail
 refine (Left_calls r A len cap at' _ HR.out hlen hat).mono ?_
 rintro e w1 ⟨rfl, hb1⟩
 have HR1 := Lib.hid (HR.out.keep hb1)
 have HB1 := Lib.hid (HB.out.below hb1)
 have Hb1 := Lib.hid hb1
 clear hb1
 go_wp2
 go_loopw [6, 21] (fun x i wr => ∃ k : Nat, k ≤ n ∧ i = .int .i64 k ∧ x = .int .u64 (numAt bs at' k : Nat) ∧ RdrAt wr r A len cap (at' + k) ∧ Hid (w.grownBy wr (some r))) (fun _ i _ => n - (intOf i).toNat)
 case atStart => exact ⟨0, by omega, rfl, rfl, HR1.out, grown_below (grown_refl w _) Hb1.out⟩
 case round =>
  obtain ⟨k, hk, rfl, rfl, hR, Hg⟩ := hrel
  have HRk := Lib.hid hR
  have c0 := hR.c0
  have c1 := hR.c1
  have f1 := hR.frozen 1
  clear hR
  by_cases hlt : k < n
  ·obtain ⟨b, o, rfl, hc⟩ := (HB.out.grown Hg.out hne).2 (by omega)
   obtain ⟨p, hp⟩ : ∃ p : Nat, p = at' + k := ⟨_, rfl⟩
   have Hp := Lib.hid hp
   rw [← hp] at c1
   have hj : p / 8 < len := by omega
   have z := hc _ hj
   clear hc hp
   have hbr := Hb.out _ hj
   have s1 : ((p : Int) / 8).toNat = p / 8 := by omega
   have s2 : (0 : Int) ≤ (p : Int) / 8 := by omega
   have s3 : (p : Int) / 8 < len := by omega
   obtain ⟨y, hy⟩ : ∃ y : Nat, rd bs (p / 8) = y := ⟨(rd bs (p / 8)).toNat, by omega⟩
   rw [hy] at z hbr
   have Ev := Lib.hid (bit_step bs at' k p y Hp.out hy (by omega) (by omega))
   obtain ⟨q, hq⟩ : ∃ q : Nat, q = p % 8 := ⟨_, rfl⟩
   have a1 := and7_i64 p (by omega)
   rw [← hq] at a1
   have hbit : bitAt bs p = y / 2 ^ q % 2 := by unfold bitAt; rw [hy, ← hq]; rfl
   have Hbit := Lib.hid hbit
   have hyd : y / 2 ^ q ≤ y := Nat.div_le_self _ _
   obtain ⟨u, hu⟩ : ∃ u : Nat, u = y / 2 ^ q := ⟨_, rfl⟩
   have a2 := and1_u8 u (by omega)
   have hq8 : q < 8 := by omega
   clear hbit
   go_wp2
   go_region
   rw [Ev.out]
   go_wp2
   go_roundw
   case rel =>
    refine ⟨k + 1, by omega, by go_num, rfl, ?_, grown_set (grown_below Hg.out (Below.refl _ _).drew) 1 _⟩
    have h9 : RdrAt (wr.setCell ⟨r, 1, none⟩ (.int .i64 ((p : Int) + 1))) r (some ⟨b, o, none⟩) len cap (p + 1) := HRk.out.set (p + 1)
    rw [show at' + (k + 1) = p + 1 from by rw [Hp.out]; omega]
    exact h9
   case measure => simp [intOf]; omega
  ·have hkn : k = n := by omega
   rw [hkn] at HRk
   go_wp2
   refine bodyPost_ret (v := .tuple #[.int .u64 (numAt bs at' k : Nat), .bool true]) (by simp [results, Tryd.results76, go_sem]) rfl ⟨by rw [hkn], HRk.out, Hg.out⟩
set_option maxHeartbeats 1000000 in
theorem BitsShort_calls (r : Nat) (A : Option Addr) (len cap at' n : Nat) (w : World) (hR : RdrAt w r A len cap at') (hlen : len ≤ 140737488355328) (hat : at' ≤ 8 * len) (hn : n ≤ 60) (hno : 8 * len < at' + n) :
  Calls Tryd.prog 76 #[.pointer (some ⟨r, 0, none⟩), .int .i64 n] w fun e w' => e = .returned (.tuple #[.int .u64 0, .bool false]) ∧ Below w.heap.size w w' := by
 have HR := Lib.hid hR
 clear hR
 go_enter Tryd.func76, Tryd.ntmps76
 go_wp2_with fail
 refine (Left_calls r A len cap at' _ HR.out hlen hat).mono ?_
 rintro e w1 ⟨rfl, hb1⟩
 have Hb1 := Lib.hid hb1
 clear hb1
 go_wp2
 refine bodyPost_ret (v := .tuple #[.int .u64 0, .bool false]) (by simp [results, Tryd.results76, go_sem]) rfl ⟨rfl, Hb1.out⟩
end Go.Proofs.YtendohnkhbgfbaaDoor
namespace Go.Proofs.YtendohnkhbgfbaaDoor
open Go.RowKit

theorem elU8 : ElT Tryd.prog 22 5 (.int .u8 0) 1 1 := ⟨Tryd.underlying22, by kernel_rfl, rfl, by decide, by decide⟩
theorem own_empty (w : World) (e : TypeId) : (w.alloc (.cells #[] e)).ownsRow w.heap.size e 1 (.slice (some ⟨w.heap.size, 0, none⟩) 0 0) 0 [] :=
 World.ownsRow_lit w #[] 0 (Nat.le_refl _) (by decide) rfl
set_option maxHeartbeats 1000000 in
theorem BNew_calls (A : Option Addr) (len cap : Nat) (bs : List Int) (w : World) (hB : Rd w .u8 A len bs) (hA : A = none → len = 0 ∧ cap = 0) (hlen : len ≤ 1000000) :
  Calls Tryd.prog 38 #[.slice A len cap] w fun e w' => ∃ r B c, e = .returned (.pointer (some ⟨r, 0, none⟩)) ∧ w.heap.size ≤ r ∧ RdrAt w' r B len c 0 ∧ w'.ownsRow w.heap.size 5 1 (.slice B len c) len (ints .u8 bs) ∧ Below w.heap.size w w' := by
 have HB := Lib.hid hB
 clear hB
 go_enter Tryd.func38, Tryd.ntmps38
 go_wp2_with (at_builtin; refine wpList_appRd rfl _ _ rfl elU8 (ys := []) (own_empty w _) rfl rfl (HB.out.alloc _) hA (by omega) (by simp) ?_; intro v' w' hown hg; rw [Nat.zero_add] at hown; obtain ⟨B, c, rfl⟩ := own_slice hown; have Hown := Lib.hid hown; have Hg := Lib.hid hg; clear hown hg)
 have hsz : w.heap.size ≤ w'.heap.size := by have := Hg.out.size; simp at this; omega
 have hb1 : Below w.heap.size w w' := ((Below.refl _ _).alloc (Nat.le_refl _) _).grown Hg.out (by simp) (fun k hk => by simp [Value.ownBlock] at hk; omega)
 go_ret
 exact ⟨w'.heap.size, B, c, rfl, hsz, heap_alloc_new w' _, Hown.out.alloc _, below_new hb1 (Nat.le_refl _) _⟩
end Go.Proofs.YtendohnkhbgfbaaDoor
namespace Go.Proofs.YtendohnkhbgfbaaDoor
open Go.RowKit

theorem elB : ElT Tryd.prog 22 5 (.int .u8 0) 1 1 := ⟨Tryd.underlying22, by kernel_rfl, rfl, by decide, by decide⟩
def lowOf (x n : Nat) : List Int := (List.range n).map fun i => ((x / 2 ^ i % 2 : Nat) : Int)
theorem lowOf_length (x n : Nat) : (lowOf x n).length = n := by simp [lowOf]
theorem lowOf_succ (x n : Nat) : lowOf x (n + 1) = lowOf x n ++ [((x / 2 ^ n % 2 : Nat) : Int)] := by simp [lowOf, List.range_succ]
set_option maxHeartbeats 1000000 in set_option maxRecDepth 100000 in
theorem Low_calls (x n : Nat) (w : World) (hx : x < 18446744073709551616) (hn : n ≤ 64) :
  Calls Tryd.prog 96 #[.int .u64 x, .int .i64 n] w fun e w' => ∃ v, e = .returned v ∧ w'.ownsRow w.heap.size 5 1 v n (ints .u8 (lowOf x n)) ∧ Below w.heap.size w w' := by
 go_enter Tryd.func96, Tryd.ntmps96
 go_wp2
 go_loopw [0, 5, 6] (fun y v i wr => ∃ k : Nat, k ≤ n ∧ i = .int .i64 k ∧ y = .int .u64 (x / 2 ^ k : Nat) ∧ Hid (wr.ownsRow w.heap.size 5 1 v k (ints .u8 (lowOf x k))) ∧ Hid (Below w.heap.size w wr)) (fun _ _ i _ => n - (intOf i).toNat)
 case atStart => exact ⟨0, by omega, rfl, by simp, World.ownsRow_nil _ _ _ _, Below.refl _ _⟩
 case round =>
  obtain ⟨k, hk, rfl, rfl, Hown, Hbel⟩ := hrel
  have hsz := Hbel.out.size
  by_cases hlt : k < n
  ·obtain ⟨y, hy⟩ : ∃ y : Nat, y = x / 2 ^ k := ⟨_, rfl⟩
   have hyx : y ≤ x := by rw [hy]; exact Nat.div_le_self _ _
   have hnx : x / 2 ^ (k + 1) = y / 2 := by rw [hy, Nat.div_div_eq_div_mul, Nat.pow_succ]
   have hlw := lowOf_succ x k
   rw [← hy] at hlw ⊢
   have Hnx := Lib.hid hnx
   have Hlw := Lib.hid hlw
   clear hnx hlw hy
   obtain ⟨A, c, rfl⟩ := own_slice Hown.out
   obtain ⟨z, hz, hz1, Hz⟩ : ∃ z : Nat, (y : Int) % 2 = (z : Int) ∧ z ≤ 1 ∧ Hid (y % 2 = z) := ⟨y % 2, by omega, by omega, rfl⟩
   rw [Hz.out] at Hlw
   go_wp2_with (at_builtin; refine wpList_app1 rfl _ _ rfl elB Hown.out rfl rfl rfl rfl (by omega) hsz ?_; intro v' w' hown' hbel' _)
   go_roundw
   case rel => exact ⟨k + 1, by omega, by go_num, by rw [Hnx.out]; go_num, by rw [Hlw.out, ints_append]; exact hown', Hbel.out.trans hbel'⟩
   case measure => simp [intOf]; omega
  ·obtain rfl : k = n := by omega
   go_wp2
   go_ret
   exact ⟨_, rfl, Hown.out, Hbel.out⟩
def bitsOf (bs : List Int) (p m : Nat) : List Int := (List.range m).map fun i => ((bitAt bs (p + i) : Nat) : Int)
theorem bitsOf_length (bs : List Int) (p m : Nat) : (bitsOf bs p m).length = m := by simp [bitsOf]
theorem rd_bitsOf {bs : List Int} {p m i : Nat} (h : i < m) : rd (bitsOf bs p m) i = ((bitAt bs (p + i) : Nat) : Int) := by
 rw [rd_getElem (by rw [bitsOf_length]; exact h)]
 simp [bitsOf]
theorem bitsOf_next (bs : List Int) (k : Nat) : bitsOf bs 0 (8 * (k + 1)) = bitsOf bs 0 (8 * k) ++ lowOf (rd bs k).toNat 8 := by
 apply ext_rd (by rw [List.length_append, bitsOf_length, bitsOf_length, lowOf_length]; omega)
 intro j hj
 rw [bitsOf_length] at hj
 rw [rd_bitsOf hj]
 rcases Nat.lt_or_ge j (8 * k) with g | g
 ·rw [rd_appL (by rw [bitsOf_length]; exact g), rd_bitsOf g]
 ·obtain ⟨i, rfl⟩ : ∃ i, j = 8 * k + i := ⟨j - 8 * k, by omega⟩
  have e : 8 * k + i = (bitsOf bs 0 (8 * k)).length + i := by rw [bitsOf_length]
  rw [e, rd_appR, ← e, rd_getElem (by rw [lowOf_length]; omega)]
  simp only [lowOf, List.getElem_map, List.getElem_range]
  unfold bitAt
  rw [show (0 + (8 * k + i)) / 8 = k from by omega, show (0 + (8 * k + i)) % 8 = i from by omega]
end Go.Proofs.YtendohnkhbgfbaaDoor
namespace Go.Proofs.YtendohnkhbgfbaaDoor
open Go.RowKit

def pk (f : Nat → Nat) : Nat → Nat
 | 0 => 0
 | k + 1 => pk f k + f k * 2 ^ k
theorem pk_lt {f : Nat → Nat} (h : ∀ i, f i ≤ 1) (k : Nat) : pk f k < 2 ^ k := by
 induction k with
 | zero => simp [pk]
 | succ k ih =>
  have := Nat.mul_le_mul_right (2 ^ k) (h k)
  simp only [pk, Nat.pow_succ]
  omega
theorem pk_congr {f g : Nat → Nat} {k : Nat} (h : ∀ i, i < k → f i = g i) : pk f k = pk g k := by
 induction k with
 | zero => rfl
 | succ k ih =>
  simp only [pk]
  rw [ih (fun i hi => h i (by omega)), h k (by omega)]
theorem pk_bit {f : Nat → Nat} (h : ∀ i, f i ≤ 1) : ∀ (k i : Nat), i < k → pk f k / 2 ^ i % 2 = f i := by
 intro k
 induction k with
 | zero => intro i hi; omega
 | succ k ih =>
  intro i hi
  simp only [pk]
  rcases Nat.lt_or_ge i k with g | g
  ·have e : f k * 2 ^ k = (f k * 2 ^ (k - i - 1) * 2) * 2 ^ i := by
    rw [Nat.mul_assoc, Nat.mul_assoc, ← Nat.pow_succ', ← Nat.pow_add]
    congr 2
    omega
   rw [e, Nat.add_mul_div_right _ _ (Nat.pow_pos (by omega)), Nat.add_mul_mod_self_right]
   exact ih i g
  ·obtain rfl : i = k := by omega
   rw [Nat.add_mul_div_right _ _ (Nat.pow_pos (by omega)), Nat.div_eq_of_lt (pk_lt h i), Nat.zero_add]
   have := h i
   omega
theorem numAt_pk (bs : List Int) (p k : Nat) : numAt bs p k = pk (fun i => bitAt bs (p + i)) k := by
 induction k with
 | zero => rfl
 | succ k ih => simp only [numAt, pk, ih]
def Bit01 (L : List Int) : Prop := ∀ x ∈ L, x = 0 ∨ x = 1
theorem Bit01.rd {L : List Int} (h : Bit01 L) (i : Nat) : Go.Proofs.YtendohnkhbgfbaaDoor.rd L i = 0 ∨ Go.Proofs.YtendohnkhbgfbaaDoor.rd L i = 1 := by
 rcases Nat.lt_or_ge i L.length with g | g
 ·rw [rd_getElem g]; exact h _ (List.getElem_mem _)
 ·left
  unfold Go.Proofs.YtendohnkhbgfbaaDoor.rd
  rw [List.getD_eq_getElem?_getD, List.getElem?_eq_none g]
  rfl
theorem Bit01.app {a b : List Int} (ha : Bit01 a) (hb : Bit01 b) : Bit01 (a ++ b) := fun x hx => (List.mem_append.1 hx).elim (ha x) (hb x)
theorem rd_out {L : List Int} {i : Nat} (h : L.length ≤ i) : rd L i = 0 := by
 unfold rd
 rw [List.getD_eq_getElem?_getD, List.getElem?_eq_none h]
 rfl
def packAt (L : List Int) (j : Nat) : Nat := pk (fun i => (rd L (8 * j + i)).toNat) 8
theorem packAt_lt {L : List Int} (h : Bit01 L) (j : Nat) : packAt L j < 256 := pk_lt (fun i => by rcases h.rd (8 * j + i) with e | e <;> rw [e] <;> decide) 8
def packB (L : List Int) : List Int := (List.range ((L.length + 7) / 8)).map fun j => (packAt L j : Int)
theorem packB_length (L : List Int) : (packB L).length = (L.length + 7) / 8 := by simp [packB]
theorem rd_packB {L : List Int} {j : Nat} (h : j < (L.length + 7) / 8) : rd (packB L) j = (packAt L j : Int) := by
 rw [rd_getElem (by rw [packB_length]; exact h)]
 simp [packB]
theorem bitAt_packB {L : List Int} (h : Bit01 L) {i : Nat} (hi : i < 8 * ((L.length + 7) / 8)) : bitAt (packB L) i = (rd L i).toNat := by
 unfold bitAt
 rw [rd_packB (by omega), Int.toNat_natCast]
 unfold packAt
 rw [pk_bit (fun i' => by rcases h.rd (8 * (i / 8) + i') with e | e <;> rw [e] <;> decide) 8 (i % 8) (by omega), show 8 * (i / 8) + i % 8 = i from by omega]
theorem packB_byte {L : List Int} (h : Bit01 L) (j : Nat) (hj : j < (L.length + 7) / 8) : 0 ≤ rd (packB L) j ∧ rd (packB L) j ≤ 255 := by
 have := packAt_lt h j
 rw [rd_packB hj]
 omega
theorem numAt_byte {L : List Int} (h : Bit01 L) {j : Nat} (hj : j < (L.length + 7) / 8) : numAt (packB L) (8 * j) 8 = packAt L j := by
 rw [numAt_pk]
 exact pk_congr (fun i hi => bitAt_packB h (by omega))
theorem packB_new {L : List Int} {x : Int} (hx : x = 0 ∨ x = 1) (h8 : L.length % 8 = 0) : packB (L ++ [x]) = packB L ++ [x] := by
 apply ext_rd (by rw [List.length_append, packB_length, packB_length, List.length_append]; simp; omega)
 intro j hj
 rw [packB_length, List.length_append, List.length_cons, List.length_nil] at hj
 rw [rd_packB (by rw [List.length_append]; simpa using hj)]
 rcases Nat.lt_or_ge j (L.length / 8) with g | g
 ·rw [rd_appL (by rw [packB_length]; omega), rd_packB (by omega)]
  unfold packAt
  rw [pk_congr (fun i hi => by rw [rd_appL (by omega)])]
 ·have e : j = (packB L).length + 0 := by rw [packB_length]; omega
  rw [e, rd_appR, ← e]
  have e8 : 8 * j = L.length := by rw [e, packB_length]; omega
  unfold packAt
  have key : ∀ i, i < 8 → (rd (L ++ [x]) (8 * j + i)).toNat = if i = 0 then x.toNat else 0 := by
   intro i hi
   rw [e8, rd_appR]
   by_cases h0 : i = 0
   ·subst h0; rfl
   ·rw [if_neg h0, rd_out (by simp; omega)]; rfl
  rw [pk_congr key]
  rcases hx with rfl | rfl <;> rfl
theorem packB_in {L : List Int} {x : Int} (_hL : Bit01 L) (hx : x = 0 ∨ x = 1) (h8 : L.length % 8 ≠ 0) : packB (L ++ [x]) = (packB L).set (L.length / 8) ((packAt L (L.length / 8) : Int) + x * 2 ^ (L.length % 8)) ∧ packAt L (L.length / 8) < 2 ^ (L.length % 8) := by
 have hlow : packAt L (L.length / 8) = pk (fun i => (rd L (8 * (L.length / 8) + i)).toNat) (L.length % 8) := by
  unfold packAt
  have key : ∀ d k, 8 * (L.length / 8) + k ≥ L.length → pk (fun i => (rd L (8 * (L.length / 8) + i)).toNat) (k + d) = pk (fun i => (rd L (8 * (L.length / 8) + i)).toNat) k := by
   intro d k hk
   induction d with
   | zero => rfl
   | succ d ih =>
    show pk _ (k + d) + (rd L (8 * (L.length / 8) + (k + d))).toNat * 2 ^ (k + d) = _
    rw [ih, rd_out (by omega)]
    simp
  have := key (8 - L.length % 8) (L.length % 8) (by omega)
  rwa [show L.length % 8 + (8 - L.length % 8) = 8 from by omega] at this
 refine ⟨?_, by rw [hlow]; exact pk_lt (fun i => by rcases _hL.rd (8 * (L.length / 8) + i) with e | e <;> rw [e] <;> decide) _⟩
 apply ext_rd (by rw [List.length_set, packB_length, packB_length, List.length_append, List.length_cons, List.length_nil]; omega)
 intro j hj
 rw [packB_length, List.length_append, List.length_cons, List.length_nil] at hj
 rw [rd_packB (by rw [List.length_append]; simpa using hj), rd_set (by rw [packB_length]; omega)]
 by_cases g : L.length / 8 = j
 ·rw [if_pos g, hlow, g]
  have key : ∀ d, L.length % 8 + 1 + d ≤ 8 → pk (fun i => (rd (L ++ [x]) (8 * j + i)).toNat) (L.length % 8 + 1 + d) = pk (fun i => (rd L (8 * j + i)).toNat) (L.length % 8) + x.toNat * 2 ^ (L.length % 8) := by
   intro d hd
   induction d with
   | zero =>
    show pk _ (L.length % 8) + (rd (L ++ [x]) (8 * j + L.length % 8)).toNat * 2 ^ (L.length % 8) = _
    rw [pk_congr (g := fun i => (rd L (8 * j + i)).toNat) (fun i hi => by rw [rd_appL (by omega)])]
    have e : 8 * j + L.length % 8 = L.length + 0 := by omega
    rw [e, rd_appR]
    rfl
   | succ d ih =>
    show pk _ (L.length % 8 + 1 + d) + (rd (L ++ [x]) (8 * j + (L.length % 8 + 1 + d))).toNat * 2 ^ (L.length % 8 + 1 + d) = _
    rw [ih (by omega), rd_out (by rw [List.length_append, List.length_cons, List.length_nil]; omega)]
    simp
  have h9 := key (7 - L.length % 8) (by omega)
  rw [show L.length % 8 + 1 + (7 - L.length % 8) = 8 from by omega] at h9
  unfold packAt
  rw [h9, Int.natCast_add, Int.natCast_mul, Int.natCast_pow]
  rcases hx with rfl | rfl <;> rfl
 ·rw [if_neg g, rd_packB (by omega)]
  unfold packAt
  rw [pk_congr (fun i hi => by rw [rd_appL (by omega)])]
theorem lowOf_bit (x n : Nat) : Bit01 (lowOf x n) := fun y hy => by
 obtain ⟨i, _, rfl⟩ := List.mem_map.1 hy
 have := Nat.mod_lt (x / 2 ^ i) (show 0 < 2 by omega)
 omega
theorem rd_lowOf {x n i : Nat} (h : i < n) : rd (lowOf x n) i = ((x / 2 ^ i % 2 : Nat) : Int) := by
 rw [rd_getElem (by rw [lowOf_length]; exact h)]
 simp [lowOf]
end Go.Proofs.YtendohnkhbgfbaaDoor
namespace Go.Proofs.YtendohnkhbgfbaaDoor
open Go.RowKit

theorem packB_app {L M : List Int} (h8 : L.length % 8 = 0) : packB (L ++ M) = packB L ++ packB M := by
 apply ext_rd
 ·rw [List.length_append, packB_length, packB_length, packB_length, List.length_append]; omega
 intro j hj
 rw [packB_length, List.length_append] at hj
 rw [rd_packB (by rw [List.length_append]; exact hj)]
 rcases Nat.lt_or_ge j (packB L).length with g | g
 ·rw [rd_appL g]
  rw [packB_length] at g
  rw [rd_packB g]
  have : packAt (L ++ M) j = packAt L j := by
   unfold packAt
   exact pk_congr (fun i hi => by rw [rd_appL (by omega)])
  rw [this]
 ·obtain ⟨i, rfl⟩ : ∃ i, j = (packB L).length + i := ⟨j - (packB L).length, by omega⟩
  rw [rd_appR]
  rw [packB_length] at hj
  rw [rd_packB (by omega)]
  have : packAt (L ++ M) ((packB L).length + i) = packAt M i := by
   unfold packAt
   exact pk_congr (fun t ht => by
    rw [show 8 * ((packB L).length + i) + t = L.length + (8 * i + t) by rw [packB_length]; omega, rd_appR])
  rw [this]
theorem packB_zeros (L : List Int) (k : Nat) (hk : (L.length + k + 7) / 8 = (L.length + 7) / 8) : packB (L ++ List.replicate k 0) = packB L := by
 apply ext_rd
 ·rw [packB_length, packB_length, List.length_append, List.length_replicate]; omega
 intro j hj
 rw [packB_length, List.length_append, List.length_replicate] at hj
 rw [rd_packB (by rw [List.length_append, List.length_replicate]; exact hj), rd_packB (by omega)]
 have : packAt (L ++ List.replicate k 0) j = packAt L j := by
  unfold packAt
  exact pk_congr (fun i hi => by
   rcases Nat.lt_or_ge (8 * j + i) L.length with g | g
   ·rw [rd_appL g]
   ·obtain ⟨t, ht⟩ : ∃ t, 8 * j + i = L.length + t := ⟨8 * j + i - L.length, by omega⟩
    rw [ht, rd_appR, rd_out (L := L) (by omega)]
    have e : rd (List.replicate k 0) t = 0 := by
     unfold rd
     rw [List.getD_eq_getElem?_getD, List.getElem?_replicate]
     split <;> rfl
    rw [e])
 rw [this]
theorem pack8 : ∀ x : Nat, x < 256 → packAt (lowOf x 8) 0 = x := by decide +kernel
theorem packB_low8 {x : Nat} (h : x < 256) : packB (lowOf x 8) = [(x : Int)] := by
 have e : (lowOf x 8).length = 8 := lowOf_length x 8
 unfold packB
 rw [e]
 show [(packAt (lowOf x 8) 0 : Int)] = _
 rw [pack8 x h]
theorem lowOf16 (x : Nat) : lowOf x 16 = lowOf (x % 256) 8 ++ lowOf (x / 256) 8 := by
 simp only [lowOf, List.range_succ, List.range_zero, List.map_cons, List.map_nil, List.nil_append, List.cons_append, List.cons.injEq, and_true]
 refine ⟨?_, ?_, ?_, ?_, ?_, ?_, ?_, ?_, ?_, ?_, ?_, ?_, ?_, ?_, ?_, ?_⟩ <;> congr 1 <;> omega
theorem packB_low16 {x : Nat} (h : x < 65536) : packB (lowOf x 16) = [((x % 256 : Nat) : Int), ((x / 256 : Nat) : Int)] := by
 rw [lowOf16, packB_app (by rw [lowOf_length]), packB_low8 (by omega), packB_low8 (by omega)]
 rfl
def bytesS (b : List Int) : List Int := b.flatMap fun x => lowOf x.toNat 8
theorem bytesS_cons (x : Int) (b : List Int) : bytesS (x :: b) = lowOf x.toNat 8 ++ bytesS b := rfl
theorem bytesS_length (b : List Int) : (bytesS b).length = 8 * b.length := by
 induction b with
 | nil => rfl
 | cons x b ih => rw [bytesS_cons, List.length_append, ih, lowOf_length, List.length_cons]; omega
theorem bytesS_bit (b : List Int) : Bit01 (bytesS b) := by
 induction b with
 | nil => intro x hx; cases hx
 | cons x b ih => rw [bytesS_cons]; exact (lowOf_bit _ _).app ih
theorem packB_bytes {b : List Int} (h : ∀ x ∈ b, 0 ≤ x ∧ x ≤ 255) : packB (bytesS b) = b := by
 induction b with
 | nil => rfl
 | cons x b ih =>
  have hx := h x List.mem_cons_self
  rw [bytesS_cons, packB_app (by rw [lowOf_length]), packB_low8 (by omega), ih (fun y hy => h y (List.mem_cons_of_mem _ hy)), Int.toNat_of_nonneg hx.1]
  rfl
def stoBits : Nat → List Int → List Int
 | 0, _ => []
 | f + 1, b => if b.length ≤ 65535 then ([1, 0, 0, 0, 0, 0, 0, 0] ++ (lowOf b.length 16 ++ lowOf (65535 - b.length) 16)) ++ bytesS b
  else ([0, 0, 0, 0, 0, 0, 0, 0] ++ (lowOf 65535 16 ++ lowOf 0 16)) ++ bytesS (b.take 65535) ++ stoBits f (b.drop 65535)
def stoB : Nat → List Int → List Int
 | 0, _ => []
 | f + 1, b => if b.length ≤ 65535 then [1, ((b.length % 256 : Nat) : Int), ((b.length / 256 : Nat) : Int), ((255 - b.length % 256 : Nat) : Int), ((255 - b.length / 256 : Nat) : Int)] ++ b
  else [0, 255, 255, 0, 0] ++ b.take 65535 ++ stoB f (b.drop 65535)
theorem pack_one : packB [1, 0, 0, 0, 0, 0, 0, 0] = [1] := by decide +kernel
theorem pack_none : packB [0, 0, 0, 0, 0, 0, 0, 0] = [0] := by decide +kernel
theorem stoBits_pack : ∀ (f : Nat) {b : List Int}, (∀ x ∈ b, 0 ≤ x ∧ x ≤ 255) → packB (stoBits f b) = stoB f b := by
 intro f
 induction f with
 | zero => intro b _; show packB [] = []; decide +kernel
 | succ f ih =>
  intro b hb
  unfold stoBits stoB
  split
  ·rename_i hl
   rw [packB_app (by simp [lowOf_length]), packB_app (by rfl), packB_app (by simp [lowOf_length]), pack_one, packB_low16 (by omega), packB_low16 (by omega), packB_bytes hb]
   rw [show (65535 - b.length) % 256 = 255 - b.length % 256 by omega, show (65535 - b.length) / 256 = 255 - b.length / 256 by omega]
   rfl
  ·rw [packB_app (by simp [lowOf_length, bytesS_length]; omega), packB_app (by simp [lowOf_length]), packB_app (by rfl), packB_app (by simp [lowOf_length]), pack_none, packB_low16 (by omega), packB_low16 (by omega), packB_bytes (fun x hx => hb x (List.mem_of_mem_take hx)), ih (fun x hx => hb x (List.mem_of_mem_drop hx))]
   rfl
theorem stoBits_bit : ∀ (f : Nat) (b : List Int), Bit01 (stoBits f b) := by
 have h8 : Bit01 [1, 0, 0, 0, 0, 0, 0, 0] := by intro x hx; simp at hx; omega
 have h0 : Bit01 [0, 0, 0, 0, 0, 0, 0, 0] := by intro x hx; simp at hx; omega
 intro f
 induction f with
 | zero => intro b x hx; cases hx
 | succ f ih =>
  intro b
  unfold stoBits
  split
  ·exact (h8.app ((lowOf_bit _ _).app (lowOf_bit _ _))).app (bytesS_bit _)
  ·exact ((h0.app ((lowOf_bit _ _).app (lowOf_bit _ _))).app (bytesS_bit _)).app (ih _)
end Go.Proofs.YtendohnkhbgfbaaDoor
