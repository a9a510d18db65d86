/-
  Texts joined into one file: ChunkU, ChunkB, ChunkK, TlB.
-/
import Derived.Test.YtendohnkhbgfbaaDoorJRefShaD3
import Derived.Test.YtendohnkhbgfbaaDoorJShaO1
import Derived.Test.YtendohnkhbgfbaaDoorJBytZ17
import Derived.Test.YtendohnkhbgfbaaDoorJGetW1
import Derived.Sort.KeysCollected
import Derived.Lib.Bytes
import Derived.Lib.Strings
/-
  The walk of chunk's Put. Printed by gen_chput.py.
-/
namespace Go.Proofs.YtendohnkhbgfbaaDoor
open Go.RowKit

/-- The laid magic. -/
def MagicAt (w : World) : Prop := ∀ j, j < 4 → w.cell? ⟨0, j, none⟩ = some (.int .u8 (rd magicL j))
theorem magic_rd {w W : World} (hb : Below w.heap.size w W) (h : MagicAt w) : Rd W .u8 (some ⟨0, 0, none⟩) 4 magicL :=
  ⟨rfl, fun _ => ⟨_, 0, rfl, fun j hj => by rw [Nat.zero_add]; exact kept_cell hb (h j hj)⟩⟩
/-- Chunks behind each other: kinds and contents. -/
structure ChunksAt (w : World) (A : Option Addr) (n : Nat) (L : List (Int × List Int)) : Prop where
  len : L.length = n
  at' : 0 < n → ∃ b o, A = some ⟨b, o, none⟩ ∧ ∀ j, j < n → ∃ A' n' c', w.cell? ⟨b, o + j * 2, none⟩ = some (.int .i64 (L.getD j (0, [])).1) ∧ w.cell? ⟨b, o + j * 2 + 1, none⟩ = some (.slice A' n' c') ∧ Rd w .u8 A' n' (L.getD j (0, [])).2 ∧ (A' = none → n' = 0 ∧ c' = 0) ∧ n' ≤ c'
def putK (x : Int × List Int) : List Int := chunkB x.1 x.2
def putsB (L : List (Int × List Int)) (j : Nat) : List Int := (L.take j).flatMap putK
theorem putsB_next {L : List (Int × List Int)} {j : Nat} (h : j < L.length) : putsB L (j + 1) = putsB L j ++ putK (L.getD j (0, [])) := by
  unfold putsB
  rw [List.take_succ_eq_append_getElem h, List.flatMap_append, List.getD_eq_getElem?_getD, List.getElem?_eq_getElem h]
  simp
theorem putsB_le (L : List (Int × List Int)) (j : Nat) : (putsB L j).length ≤ (putsB L L.length).length := by
  unfold putsB
  rw [List.take_length]
  conv => rhs; rw [← List.take_append_drop j L, List.flatMap_append, List.length_append]
  omega
/-- Put's state: what is put so far, and the chunk that is put. -/
structure ChPutSt (w W : World) (v : Value) (m : Nat) (l : List Int) (gb : Nat) (k : Int) (A : Option Addr) (n c : Nat) : Prop where
  own : W.ownsRow w.heap.size 5 1 v m (ints .u8 l)
  bel : Below w.heap.size w W
  row : W.heap[gb]? = some (.cells #[.int .i64 k, .slice A n c] 26 (0, 0))
section
variable {w W W' : World} {v v' : Value} {m m' gb n c : Nat} {l l' : List Int} {k : Int} {A : Option Addr}
theorem ChPutSt.c0 (P : ChPutSt w W v m l gb k A n c) : W.cell? ⟨gb, 0, none⟩ = some (.int .i64 k) := by rw [cell_of_row W gb _ _ _ (0, 0) P.row]; rfl
theorem ChPutSt.c1 (P : ChPutSt w W v m l gb k A n c) : W.cell? ⟨gb, 1, none⟩ = some (.slice A n c) := by rw [cell_of_row W gb _ _ _ (0, 0) P.row]; rfl
theorem ChPutSt.lt (P : ChPutSt w W v m l gb k A n c) : gb < W.heap.size := (Array.getElem?_eq_some_iff.1 P.row).1
theorem ChPutSt.drew (P : ChPutSt w W v m l gb k A n c) : ChPutSt w W.drew v m l gb k A n c := ⟨P.own, P.bel.drew, P.row⟩
theorem ChPutSt.grown (P : ChPutSt w W v m l gb k A n c) (ho : W'.ownsRow w.heap.size 5 1 v' m' (ints .u8 l')) (hg : W.grownBy W' v.ownBlock) : ChPutSt w W' v' m' l' gb k A n c :=
  ⟨ho, P.bel.grown hg P.bel.size (fun k hk => (P.own.lt k hk).1), (hg.block gb P.lt (fun e => own_apart P.row (by decide) P.own gb e.symm rfl)).trans P.row⟩
theorem ChPutSt.below (P : ChPutSt w W v m l gb k A n c) (hb : Below W.heap.size W W') : ChPutSt w W' v m l gb k A n c :=
  ⟨own_below P.own hb, below_seq P.bel (Nat.le_refl _) hb, (hb.block gb P.lt).trans P.row⟩
theorem ChPutSt.alloc (P : ChPutSt w W v m l gb k A n c) (o : Obj) : ChPutSt w (W.alloc o) v m l gb k A n c := P.below ((Below.refl _ _).alloc (Nat.le_refl _) _)
end
set_option maxHeartbeats 1000000 in
set_option maxRecDepth 100000 in
theorem ChPut_calls (A : Option Addr) (n c : Nat) (L : List (Int × List Int)) (w : World) (hC : ChunksAt w A n L) (hL : ∀ x ∈ L, (0 ≤ x.1 ∧ x.1 ≤ 255) ∧ x.2.length ≤ 100000000 ∧ ∀ y ∈ x.2, 0 ≤ y ∧ y ≤ 255) (hlen : (putsB L L.length).length ≤ 1000000000) (hn : n ≤ 1000000) (hK : KeysAt w) (hBg : BeginAt w) (hMg : MagicAt w) :
    Calls Tryd.prog 9 #[.slice A n c] w fun e w' => ∃ v, e = .returned v ∧ Hid (w'.ownsRow w.heap.size 5 1 v (putsB L L.length).length (ints .u8 (putsB L L.length))) ∧ Below w.heap.size w w' := by
  have HC := Lib.hid hC
  have HL := Lib.hid hL
  have Hlen := Lib.hid hlen
  have HK := Lib.hid hK
  have HBg := Lib.hid hBg
  have HMg := Lib.hid hMg
  have Hln := Lib.hid hC.len
  clear hC hL hlen hK hBg hMg
  go_enter Tryd.func9, Tryd.ntmps9
  go_wp2_with fail
  go_loopw [3, 8] (fun v i wr => ∃ j : Nat, j ≤ n ∧ i = .int .i64 j ∧ Hid (wr.ownsRow w.heap.size 5 1 v (putsB L j).length (ints .u8 (putsB L j))) ∧ Hid (Below w.heap.size w wr)) (fun _ i _ => n - (intOf i).toNat)
  case atStart => exact ⟨0, by omega, rfl, Lib.hid (World.ownsRow_nil _ _ _ _), Lib.hid (Below.refl _ _)⟩
  case round =>
    obtain ⟨j, hj, rfl, HO, HB⟩ := hrel
    obtain ⟨W, hW⟩ : ∃ W, W = wr := ⟨_, rfl⟩
    subst hW
    by_cases hlt : j < n
    · have hjl : j < L.length := by have := Hln.out; omega
      obtain ⟨b, o, rfl, hx⟩ := HC.out.at' (by omega)
      obtain ⟨A1, n1, c1, z0, z1, hr1, hne1, hc1⟩ := hx j hlt
      have hmem : L.getD j (0, []) ∈ L := by rw [List.getD_eq_getElem?_getD, List.getElem?_eq_getElem hjl]; exact List.getElem_mem hjl
      obtain ⟨hk, hcl, hcs⟩ := HL.out _ hmem
      have hnx := putsB_next hjl
      obtain ⟨k, hke⟩ : ∃ k, k = (L.getD j (0, [])).1 := ⟨_, rfl⟩
      obtain ⟨cs, hcse⟩ : ∃ cs, cs = (L.getD j (0, [])).2 := ⟨_, rfl⟩
      have hpk : putK (L.getD j (0, [])) = chunkB k cs := by rw [hke, hcse]; rfl
      rw [hpk] at hnx
      rw [← hke] at z0 hk
      rw [← hcse] at hr1 hcl hcs
      have hn1 : n1 ≤ 100000000 := by rw [← hr1.1]; exact hcl
      obtain ⟨m, hm⟩ : ∃ m, m = (putsB L j).length := ⟨_, rfl⟩
      have hm1 : m + 9 + (lebU n1).length + n1 ≤ 1000000000 := by
        have h1 := putsB_le L (j + 1)
        rw [hnx, List.length_append, chunkB_length, hr1.1, ← hm] at h1
        have := Hlen.out
        omega
      obtain ⟨l, hl⟩ : ∃ l, l = putsB L j := ⟨_, rfl⟩
      rw [← hm, ← hl] at HO
      have Hnx : Hid (putsB L (j + 1) = l ++ chunkB k cs) := Lib.hid (by rw [hl]; exact hnx)
      have Hm := Lib.hid (show m = l.length by rw [hm, hl])
      have z0 := kept_cell HB.out z0
      have z1 := kept_cell HB.out z1
      have Hr1 := Lib.hid hr1
      have Hn1 := Lib.hid hne1
      have Hcs := Lib.hid hcs
      clear hx hmem hcl hcs hnx hke hcse hpk hr1 hne1 hm hl hjl
      go_upto_region 5 with fail
      obtain ⟨gb, hgb⟩ : ∃ gb, gb = W.heap.size := ⟨_, rfl⟩
      obtain ⟨w1, hw1⟩ : ∃ X, X = W.alloc (.cells #[.int .i64 k, .slice A1 n1 c1] 26) := ⟨_, rfl⟩
      rw [← hw1, ← hgb]
      have hb1 : Below W.heap.size W w1 := by rw [hw1]; exact (Below.refl _ _).alloc (Nat.le_refl _) _
      have P : ChPutSt w w1 _ m l gb k A1 n1 c1 := ⟨own_below HO.out hb1, below_seq HB.out (Nat.le_refl _) hb1, by rw [hw1, hgb]; exact heap_alloc_new W _⟩
      have P0 := P.drew
      have HP := Lib.hid P
      clear hw1 hgb hb1 P z0 z1 HO HB
      have hwk : IntKind.u8.wrap k = k := by rw [IntKind.wrap_u8]; omega
      have hwn : IntKind.u64.wrap (n1 : Int) = n1 := by rw [IntKind.wrap_u64]; omega
      refine wp_region_last (n := 6) (on := ⟨_, _, _, _, _, _⟩) (S := fun W => W.cell? ⟨gb, 0, none⟩ = some (.int .i64 k) ∧ W.cell? ⟨gb, 1, none⟩ = some (.slice A1 n1 c1)) (by kernel_rfl) rfl (by kernel_rfl) (⟨P0.c0, P0.c1⟩) (fun hHeld => ?_)
      refine' wpAnyH_take (i := 0) (oi := ⟨_, _, _, _, _, _⟩) (v := _) rfl (by kernel_rfl) (by kernel_rfl) (by kernel_rfl) (fun _ _ _ h => h) (Or.inl ⟨by rfl, ?hya0⟩) (by assumption) ?resta0
      case hya0 => (intro w hSw; (try dsimp only at hSw); go_simp; try with_reducible rfl)
      try simp only [Act.put, List.setIfInBounds_toArray, List.set_cons_zero, List.set_cons_succ]
      refine' wpAnyH_take (i := 1) (oi := ⟨_, _, _, _, _, _⟩) (v := _) rfl (by kernel_rfl) (by kernel_rfl) (by kernel_rfl) (fun _ _ _ h => h) (Or.inl ⟨by rfl, ?hya1⟩) (by assumption) ?resta1
      case hya1 => (intro w hSw; (try dsimp only at hSw); go_simp; try with_reducible rfl)
      try simp only [Act.put, List.setIfInBounds_toArray, List.set_cons_zero, List.set_cons_succ]
      refine' wpAnyH_take (i := 3) (oi := ⟨_, _, _, _, _, _⟩) (v := _) rfl (by kernel_rfl) (by kernel_rfl) (by kernel_rfl) (fun _ _ _ h => h) (Or.inl ⟨by rfl, ?hya3⟩) (by assumption) ?resta3
      case hya3 => (intro w hSw; (try dsimp only at hSw); go_simp; try with_reducible rfl)
      try simp only [Act.put, List.setIfInBounds_toArray, List.set_cons_zero, List.set_cons_succ]
      refine wpAnyH_ready (rs := [2]) (by kernel_rfl) (by simp) ?_
      refine AllReadyH.cons (o := ⟨_, _, _, _, _, _⟩) rfl (fun K hK => ?_) AllReadyH.nil
      refine step_appRd (by rfl) _ _ (by rfl) elBy P0.own (by rfl) (by rfl) (magic_rd P0.bel HMg.out) (fun e => by cases e) (by omega) P0.bel.size ?_
      intro v2 W2 ho2 hg2
      have P2 := P0.grown ho2 hg2
      refine hK.out _ _ (⟨P2.c0, P2.c1⟩) (fun hHeldN => ?_)
      clear hK K hHeld
      have hHeld := hHeldN
      clear hHeldN
      try simp only [Act.put, List.setIfInBounds_toArray, List.set_cons_zero, List.set_cons_succ]
      refine wpAnyH_ready (rs := [4]) (by kernel_rfl) (by simp) ?_
      refine AllReadyH.cons (o := ⟨_, _, _, _, _, _⟩) rfl (fun K hK => ?_) AllReadyH.nil
      go_simp
      go_at_call 16
      refine (sum_calls k A1 n1 c1 cs _ hk (Hr1.out.below P2.bel) Hn1.out hc1 Hcs.out hn1 (fun j hj => kept_cell P2.bel (HK.out j hj)) (fun j hj => kept_cell P2.bel (HBg.out j hj))).mono ?_
      rintro e W4 ⟨g4, rfl, hr4, hb4⟩
      have P4 := P2.below hb4
      refine hK.out _ _ (⟨P4.c0, P4.c1⟩) (fun hHeldN => ?_)
      clear hK K hHeld
      have hHeld := hHeldN
      clear hHeldN
      try simp only [Act.put, List.setIfInBounds_toArray, List.set_cons_zero, List.set_cons_succ]
      refine wpAnyH_ready (rs := [5]) (by kernel_rfl) (by simp) ?_
      refine AllReadyH.cons (o := ⟨_, _, _, _, _, _⟩) rfl (fun K hK => ?_) AllReadyH.nil
      refine step_appRd (by rfl) _ _ (by rfl) elBy P4.own (by rfl) (by rfl) (hr4.out) (fun e => by cases e) (by omega) P4.bel.size ?_
      intro v5 W5 ho5 hg5
      have P5 := P4.grown ho5 hg5
      refine hK.out _ _ (⟨P5.c0, P5.c1⟩) (fun hHeldN => ?_)
      clear hK K hHeld
      have hHeld := hHeldN
      clear hHeldN
      try simp only [Act.put, List.setIfInBounds_toArray, List.set_cons_zero, List.set_cons_succ]
      refine wpAnyH_done (by kernel_rfl) ?_ _
      change wpList _ _ _ _ _ _
      have HP5 := Lib.hid P5
      clear P0 P2 P4 P5 hHeld
      go_upto_region 6 with fail
      have Q0 := HP5.out
      refine wp_region_last (n := 12) (on := ⟨_, _, _, _, _, _⟩) (S := fun W => W.cell? ⟨gb, 0, none⟩ = some (.int .i64 k) ∧ W.cell? ⟨gb, 1, none⟩ = some (.slice A1 n1 c1)) (by kernel_rfl) rfl (by kernel_rfl) (⟨Q0.drew.c0, Q0.drew.c1⟩) (fun hHeld => ?_)
      refine' wpAnyH_take (i := 0) (oi := ⟨_, _, _, _, _, _⟩) (v := _) rfl (by kernel_rfl) (by kernel_rfl) (by kernel_rfl) (fun _ _ _ h => h) (Or.inl ⟨by rfl, ?hyb0⟩) (by assumption) ?restb0
      case hyb0 => (intro w hSw; (try dsimp only at hSw); go_simp; try with_reducible rfl)
      try simp only [Act.put, List.setIfInBounds_toArray, List.set_cons_zero, List.set_cons_succ]
      refine' wpAnyH_take (i := 1) (oi := ⟨_, _, _, _, _, _⟩) (v := _) rfl (by kernel_rfl) (by kernel_rfl) (by kernel_rfl) (fun _ _ _ h => h) (Or.inl ⟨by rfl, ?hyb1⟩) (by assumption) ?restb1
      case hyb1 => (intro w hSw; (try dsimp only at hSw); go_simp; try with_reducible rfl)
      try simp only [Act.put, List.setIfInBounds_toArray, List.set_cons_zero, List.set_cons_succ]
      refine' wpAnyH_take (i := 2) (oi := ⟨_, _, _, _, _, _⟩) (v := _) rfl (by kernel_rfl) (by kernel_rfl) (by kernel_rfl) (fun _ _ _ h => h) (Or.inl ⟨by rfl, ?hyb2⟩) (by assumption) ?restb2
      case hyb2 => (intro w hSw; (try dsimp only at hSw); go_simp; try with_reducible rfl)
      try simp only [Act.put, List.setIfInBounds_toArray, List.set_cons_zero, List.set_cons_succ]
      refine' wpAnyH_take (i := 3) (oi := ⟨_, _, _, _, _, _⟩) (v := _) rfl (by kernel_rfl) (by kernel_rfl) (by kernel_rfl) (fun _ _ _ h => h) (Or.inl ⟨by rfl, ?hyb3⟩) (by assumption) ?restb3
      case hyb3 => (intro w hSw; (try dsimp only at hSw); go_simp; try with_reducible rfl)
      try simp only [Act.put, List.setIfInBounds_toArray, List.set_cons_zero, List.set_cons_succ]
      refine' wpAnyH_take (i := 6) (oi := ⟨_, _, _, _, _, _⟩) (v := _) rfl (by kernel_rfl) (by kernel_rfl) (by kernel_rfl) (fun _ _ _ h => h) (Or.inl ⟨by rfl, ?hyb6⟩) (by assumption) ?restb6
      case hyb6 => (intro w hSw; (try dsimp only at hSw); go_simp; try with_reducible rfl)
      try simp only [Act.put, List.setIfInBounds_toArray, List.set_cons_zero, List.set_cons_succ]
      refine' wpAnyH_take (i := 7) (oi := ⟨_, _, _, _, _, _⟩) (v := _) rfl (by kernel_rfl) (by kernel_rfl) (by kernel_rfl) (fun _ _ _ h => h) (Or.inl ⟨by rfl, ?hyb7⟩) (by assumption) ?restb7
      case hyb7 => (intro w hSw; (try dsimp only at hSw); go_simp; try with_reducible rfl)
      try simp only [Act.put, List.setIfInBounds_toArray, List.set_cons_zero, List.set_cons_succ]
      refine' wpAnyH_take (i := 8) (oi := ⟨_, _, _, _, _, _⟩) (v := _) rfl (by kernel_rfl) (by kernel_rfl) (by kernel_rfl) (fun _ _ _ h => h) (Or.inl ⟨by rfl, ?hyb8⟩) (by assumption) ?restb8
      case hyb8 => (intro w hSw; (try dsimp only at hSw); go_simp; try with_reducible rfl)
      try simp only [Act.put, List.setIfInBounds_toArray, List.set_cons_zero, List.set_cons_succ]
      refine' wpAnyH_take (i := 9) (oi := ⟨_, _, _, _, _, _⟩) (v := _) rfl (by kernel_rfl) (by kernel_rfl) (by kernel_rfl) (fun _ _ _ h => h) (Or.inl ⟨by rfl, ?hyb9⟩) (by assumption) ?restb9
      case hyb9 => (intro w hSw; (try dsimp only at hSw); go_simp; try with_reducible rfl)
      try simp only [Act.put, List.setIfInBounds_toArray, List.set_cons_zero, List.set_cons_succ]
      refine wpAnyH_ready (rs := [4]) (by kernel_rfl) (by simp) ?_
      refine AllReadyH.cons (o := ⟨_, _, _, _, _, _⟩) rfl (fun K hK => ?_) AllReadyH.nil
      go_simp
      have Q4 := Q0.alloc (.cells #[.int .u8 k] 5)
      refine hK.out _ _ (⟨(Q4.drew).c0, (Q4.drew).c1⟩) (fun hHeldN => ?_)
      clear hK K hHeld
      have hHeld := hHeldN
      clear hHeldN
      try simp only [Act.put, List.setIfInBounds_toArray, List.set_cons_zero, List.set_cons_succ]
      refine wpAnyH_ready (rs := [5]) (by kernel_rfl) (by simp) ?_
      refine AllReadyH.cons (o := ⟨_, _, _, _, _, _⟩) rfl (fun K hK => ?_) AllReadyH.nil
      refine step_appRd (by rfl) _ _ (by rfl) elBy Q4.drew.own (by rfl) (by rfl) (rd_drew (lit_rd (T := 5) (Later.refl _) k)) (fun e => by cases e) (by omega) Q4.drew.bel.size ?_
      intro v5 W5 ho5 hg5
      have Q5 := Q4.drew.grown ho5 hg5
      refine hK.out _ _ (⟨Q5.c0, Q5.c1⟩) (fun hHeldN => ?_)
      clear hK K hHeld
      have hHeld := hHeldN
      clear hHeldN
      try simp only [Act.put, List.setIfInBounds_toArray, List.set_cons_zero, List.set_cons_succ]
      refine wpAnyH_ready (rs := [10]) (by kernel_rfl) (by simp) ?_
      refine AllReadyH.cons (o := ⟨_, _, _, _, _, _⟩) rfl (fun K hK => ?_) AllReadyH.nil
      go_simp
      go_at_call 17
      refine (U_calls n1 _ (by omega)).mono ?_
      rintro e W9 ⟨v9, rfl, ho9, hb9⟩
      obtain ⟨A9, c9, rfl, hc9, r9⟩ := own_rd ho9
      have nl9 := own_none ho9
      have Q9 := Q5.below hb9
      clear ho9
      refine hK.out _ _ (⟨Q9.c0, Q9.c1⟩) (fun hHeldN => ?_)
      clear hK K hHeld
      have hHeld := hHeldN
      clear hHeldN
      try simp only [Act.put, List.setIfInBounds_toArray, List.set_cons_zero, List.set_cons_succ]
      refine wpAnyH_ready (rs := [11]) (by kernel_rfl) (by simp) ?_
      refine AllReadyH.cons (o := ⟨_, _, _, _, _, _⟩) rfl (fun K hK => ?_) AllReadyH.nil
      refine step_appRd (by rfl) _ _ (by rfl) elBy Q9.own (by rfl) (by rfl) (r9) (nl9) (by omega) Q9.bel.size ?_
      intro v11 W11 ho11 hg11
      have Q11 := Q9.grown ho11 hg11
      refine hK.out _ _ (⟨Q11.c0, Q11.c1⟩) (fun hHeldN => ?_)
      clear hK K hHeld
      have hHeld := hHeldN
      clear hHeldN
      try simp only [Act.put, List.setIfInBounds_toArray, List.set_cons_zero, List.set_cons_succ]
      refine wpAnyH_done (by kernel_rfl) ?_ _
      change wpList _ _ _ _ _ _
      have HQ11 := Lib.hid Q11
      have q1 := Q11.c1
      have hsq := Q11.bel.size
      clear Q0 Q4 Q5 Q9 Q11 hHeld ho2 hg2 ho5 hg5 hb4 hb9 hc9 r9 nl9 ho11 hg11 hwk hwn
      go_wp2_with (at_builtin; refine wpList_appRd rfl _ _ rfl elBy HQ11.out.own rfl rfl (Hr1.out.below HQ11.out.bel) Hn1.out (by omega) hsq ?_; intro v12 W12 ho12 hg12; have Q12 := HQ11.out.grown ho12 hg12; have HQ12 := Lib.hid Q12; clear ho12 hg12 Q12)
      go_roundw
      case rel =>
        have h9 := HQ12.out.own
        have e9 : l ++ magicL ++ sumB k cs ++ [k] ++ lebU n1 ++ cs = putsB L (j + 1) := by
          rw [Hnx.out]
          unfold chunkB tailB
          rw [Hr1.out.1]
          simp
        have e8 := congrArg List.length e9
        simp only [List.length_append, List.length_cons, List.length_nil, sumB_length, Hr1.out.1, ← Hm.out] at e8
        have e7 : magicL.length = 4 := rfl
        rw [e7] at e8
        rw [e9, show m + 4 + 4 + 1 + (lebU n1).length + n1 = (putsB L (j + 1)).length by omega] at h9
        exact ⟨j + 1, by omega, by go_num, Lib.hid h9, Lib.hid HQ12.out.bel⟩
      case measure => simp [intOf]; omega
    · obtain rfl : j = n := by omega
      go_wp2
      go_ret
      rw [← Hln.out] at HO
      exact ⟨_, rfl, HO, HB.out⟩
end Go.Proofs.YtendohnkhbgfbaaDoor
/-
  The walk of chunk's begins.
-/
namespace Go.Proofs.YtendohnkhbgfbaaDoor
open Go.RowKit

theorem arr4_run (a : Option Addr) (c : Nat) (W : World) : (Instr.arrayAt 46 (.slice a 4 c)).run Tryd.prog W = .ok (.pointer a) W := by
  simp [Instr.arrayAt, run_underlying Tryd.underlying46, go_sem]
theorem size_u8 (W : World) : (sizeOf 5).run Tryd.prog W = .ok 1 W := by kernel_rfl
theorem part4 (x0 x1 x2 x3 : Value) (W : World) : (part 5 #[x0, x1, x2, x3] 0).run Tryd.prog W = .ok x0 W ∧ (part 5 #[x0, x1, x2, x3] 1).run Tryd.prog W = .ok x1 W ∧ (part 5 #[x0, x1, x2, x3] 2).run Tryd.prog W = .ok x2 W ∧ (part 5 #[x0, x1, x2, x3] 3).run Tryd.prog W = .ok x3 W := by
  refine ⟨?_, ?_, ?_, ?_⟩ <;> kernel_rfl
theorem eq4_run (x0 x1 x2 x3 y0 y1 y2 y3 : Int) (W : World) : (binOp .eql 46 (.agg #[.int .u8 x0, .int .u8 x1, .int .u8 x2, .int .u8 x3]) (.agg #[.int .u8 y0, .int .u8 y1, .int .u8 y2, .int .u8 y3])).run Tryd.prog W = .ok (.bool (x0 == y0 && (x1 == y1 && (x2 == y2 && x3 == y3)))) W := by
  refine binEql_of ?_
  have e : ∀ a b : Int, (Op.equalIn (9998 + 1) 5 (.int .u8 a) (.int .u8 b)).run Tryd.prog W = .ok (a == b) W := fun a b => eqInt_of Tryd.underlying5 a b
  obtain ⟨a0, a1, a2, a3⟩ := part4 (.int .u8 x0) (.int .u8 x1) (.int .u8 x2) (.int .u8 x3) W
  obtain ⟨b0, b1, b2, b3⟩ := part4 (.int .u8 y0) (.int .u8 y1) (.int .u8 y2) (.int .u8 y3) W
  rw [Op.equalIn]
  simp only [Sem.run_bind, run_underlying Tryd.underlying46, Result.andThen_ok, size_u8 W]
  simp [a0, a1, a2, a3, b0, b1, b2, b3, e, List.range', List.forIn_cons, Nat.mul_one]
  by_cases h0 : x0 = y0 <;> by_cases h1 : x1 = y1 <;> by_cases h2 : x2 = y2 <;> by_cases h3 : x3 = y3 <;> simp [h0, h1, h2, h3]
set_option maxHeartbeats 1000000 in
set_option maxRecDepth 100000 in
theorem begins_calls (A : Option Addr) (n c : Nat) (b : List Int) (w : World) (hR : Rd w .u8 A n b) (hb : ∀ x ∈ b, 0 ≤ x ∧ x ≤ 255) (hc : n ≤ c) (hM : MagicAt w) :
    Calls Tryd.prog 22 #[.slice A n c] w fun e w' => ∃ t : Bool, e = .returned (.bool t) ∧ Hid (t = true ↔ Begins b) ∧ Below w.heap.size w w' := by
  have HR := Lib.hid hR
  have Hb := Lib.hid hb
  have HM := Lib.hid hM
  have Hl := Lib.hid hR.1
  have m0 := hM 0 (by omega)
  have m1 := hM 1 (by omega)
  have m2 := hM 2 (by omega)
  have m3 := hM 3 (by omega)
  clear hR hb hM
  go_enter Tryd.func22, Tryd.ntmps22
  by_cases h4 : 4 ≤ n
  · obtain ⟨b0, o0, rfl, hx⟩ := HR.out.2 (by omega)
    have z0 := hx 0 (by omega)
    rw [Nat.add_zero] at z0
    have z1 := hx 1 (by omega)
    have z2 := hx 2 (by omega)
    have z3 := hx 3 (by omega)
    have ha4 := fun W => arr4_run (some ⟨b0, o0, none⟩) c W
    obtain ⟨t, ht⟩ : ∃ t : Bool, t = (rd b 0 == rd magicL 0 && (rd b 1 == rd magicL 1 && (rd b 2 == rd magicL 2 && rd b 3 == rd magicL 3))) := ⟨_, rfl⟩
    have hq : ∀ W : World, (binOp .eql 46 (.agg #[.int .u8 (rd b 0), .int .u8 (rd b 1), .int .u8 (rd b 2), .int .u8 (rd b 3)]) (.agg #[.int .u8 (rd magicL 0), .int .u8 (rd magicL 1), .int .u8 (rd magicL 2), .int .u8 (rd magicL 3)])).run Tryd.prog W = .ok (.bool t) W := fun W => by rw [ht]; exact eq4_run _ _ _ _ _ _ _ _ W
    have Ht := Lib.hid ht
    clear ht hx
    go_wp2
    go_region
    go_wp2
    go_ret
    refine ⟨t, rfl, Lib.hid ?_, (Below.refl _ _).drew⟩
    rw [Ht.out]
    simp only [Bool.and_eq_true, beq_iff_eq]
    constructor
    · rintro ⟨e0, e1, e2, e3⟩ i hi _
      rcases (show i = 0 ∨ i = 1 ∨ i = 2 ∨ i = 3 by omega) with rfl | rfl | rfl | rfl <;> assumption
    · intro h
      have hl := Hl.out
      exact ⟨h 0 (by omega) (by omega), h 1 (by omega) (by omega), h 2 (by omega) (by omega), h 3 (by omega) (by omega)⟩
  · have hmin : min (n : Int) 4 = n := by omega
    clear m0 m1 m2 m3
    go_wp2
    go_loopw [16] (fun i wr => ∃ j : Nat, j ≤ n ∧ i = .int .i64 j ∧ Hid (∀ q, q < j → rd b q = rd magicL q) ∧ Hid (Below w.heap.size w wr)) (fun i _ => n - (intOf i).toNat)
    case atStart => exact ⟨0, by omega, rfl, Lib.hid (fun q hq => by omega), Lib.hid (Below.refl _ _)⟩
    case round =>
      obtain ⟨j, hj, rfl, HQ, HB⟩ := hrel
      obtain ⟨W, hW⟩ : ∃ W, W = wr := ⟨_, rfl⟩
      subst hW
      by_cases hlt : j < n
      · obtain ⟨b0, o0, rfl, hx⟩ := (HR.out.below HB.out).2 (by omega)
        have z := hx j hlt
        have mz := kept_cell HB.out (HM.out j (by omega))
        obtain ⟨x, hxe⟩ : ∃ x, x = rd b j := ⟨_, rfl⟩
        obtain ⟨y, hye⟩ : ∃ y, y = rd magicL j := ⟨_, rfl⟩
        rw [← hxe] at z
        rw [← hye] at mz
        have Hxe := Lib.hid hxe
        have Hye := Lib.hid hye
        clear hx hxe hye
        by_cases hxy : x = y
        · have hd : (x != y) = false := by simp [hxy]
          have Hxy := Lib.hid hxy
          clear hxy
          go_wp2
          go_region
          go_wp2
          go_roundw
          case rel =>
            refine ⟨j + 1, by omega, by go_num, Lib.hid (fun q hq => ?_), Lib.hid HB.out.drew⟩
            rcases Nat.lt_or_ge q j with h | h
            · exact HQ.out q h
            · obtain rfl : q = j := by omega
              rw [← Hxe.out, ← Hye.out]
              exact Hxy.out
          case measure => simp [intOf]; omega
        · have hd : (x != y) = true := by simp [hxy]
          have Hxy := Lib.hid hxy
          clear hxy
          go_wp2
          go_region
          go_wp2
          go_ret
          refine ⟨false, rfl, Lib.hid ⟨fun h => by (cases h), fun h => ?_⟩, HB.out.drew⟩
          exfalso
          refine Hxy.out ?_
          rw [Hxe.out, Hye.out]
          exact h j (by omega) (by rw [Hl.out]; exact hlt)
      · obtain rfl : j = n := by omega
        go_wp2
        go_ret
        exact ⟨true, rfl, Lib.hid ⟨fun _ i _ hi => HQ.out i (by rw [← Hl.out]; exact hi), fun _ => rfl⟩, HB.out⟩
end Go.Proofs.YtendohnkhbgfbaaDoor
/-
  The walk of chunk's Pack.
-/
namespace Go.Proofs.YtendohnkhbgfbaaDoor
open Go.RowKit

/-- How bytes are packed: the kind, the content. -/
def packK (bs : List Int) : Int × List Int := if 256 ≤ bs.length ∧ (pressB bs).length < bs.length then (2, pressB bs) else (1, bs)
theorem packK_pos {bs : List Int} (h : 256 ≤ bs.length) (h2 : (pressB bs).length < bs.length) : packK bs = (2, pressB bs) := if_pos ⟨h, h2⟩
theorem packK_neg {bs : List Int} (h : ¬ (256 ≤ bs.length ∧ (pressB bs).length < bs.length)) : packK bs = (1, bs) := if_neg h
theorem packK_kind (bs : List Int) : (packK bs).1 = 1 ∨ (packK bs).1 = 2 := by
  unfold packK
  split
  · exact .inr rfl
  · exact .inl rfl
theorem packK_le (bs : List Int) : (packK bs).2.length ≤ bs.length := by
  unfold packK
  split
  · rename_i h; exact Nat.le_of_lt h.2
  · exact Nat.le_refl _
theorem packK_byte {bs : List Int} (h : ∀ x ∈ bs, 0 ≤ x ∧ x ≤ 255) : ∀ x ∈ (packK bs).2, 0 ≤ x ∧ x ≤ 255 := by
  unfold packK
  split
  · exact all_of_rd (pressB_byte h)
  · exact h
theorem two_c0 {w : World} {g : Nat} {v0 v1 : Value} {T : TypeId} (h : w.heap[g]? = some (.cells #[v0, v1] T (0, 0))) : w.cell? ⟨g, 0, none⟩ = some v0 := by rw [cell_of_row w g _ _ _ (0, 0) h]; rfl
theorem two_c1 {w : World} {g : Nat} {v0 v1 : Value} {T : TypeId} (h : w.heap[g]? = some (.cells #[v0, v1] T (0, 0))) : w.cell? ⟨g, 1, none⟩ = some v1 := by rw [cell_of_row w g _ _ _ (0, 0) h]; rfl
theorem two_set {w : World} {g : Nat} {v0 v1 : Value} {T : TypeId} (h : w.heap[g]? = some (.cells #[v0, v1] T (0, 0))) (u0 u1 : Value) : ((w.setCell ⟨g, 0, none⟩ u0).setCell ⟨g, 1, none⟩ u1).heap[g]? = some (.cells #[u0, u1] T (0, 0)) :=
  heap_setCell_same _ g 1 _ _ _ (heap_setCell_same w g 0 _ _ _ h)
set_option maxHeartbeats 1000000 in
set_option maxRecDepth 100000 in
theorem ChPack_calls (A : Option Addr) (len cap : Nat) (bs : List Int) (w : World) (hR : Rd w .u8 A len bs) (hb : ∀ x ∈ bs, 0 ≤ x ∧ x ≤ 255) (hA : A = none → len = 0 ∧ cap = 0) (hcap : len ≤ cap) (hlen : len ≤ 100000) (hT : Tabs w) (hO : OrdAt w) :
    Calls Tryd.prog 10 #[.slice A len cap] w fun e w' => ∃ A' n' c', e = .returned (.agg #[.int .i64 (packK bs).1, .slice A' n' c']) ∧ Hid (w'.ownsRow w.heap.size 5 1 (.slice A' n' c') n' (ints .u8 (packK bs).2)) ∧ Below w.heap.size w w' := by
  have HR := Lib.hid hR
  have Hb := Lib.hid hb
  have HA := Lib.hid hA
  have HT := Lib.hid hT
  have HO := Lib.hid hO
  have Hl := Lib.hid hR.1
  clear hR hb hA hT hO
  go_enter Tryd.func10, Tryd.ntmps10
  obtain ⟨g, hg⟩ : ∃ g, g = w.heap.size := ⟨_, rfl⟩
  have HG := Lib.hid hg
  go_upto_region 1 with fail
  obtain ⟨w0, hw0⟩ : ∃ X, X = w.alloc (.cells #[.int .i64 0, .slice none 0 0] 26) := ⟨_, rfl⟩
  rw [← hw0, ← hg]
  have hb0 : Below w.heap.size w w0 := by rw [hw0]; exact (Below.refl _ _).alloc (Nat.le_refl _) _
  have hrow0 : w0.heap[g]? = some (.cells #[.int .i64 0, .slice none 0 0] 26 (0, 0)) := by rw [hw0, hg]; exact heap_alloc_new w _
  have HB0 := Lib.hid hb0
  have HR0 := Lib.hid hrow0
  clear hw0 hb0 hrow0 hg
  by_cases h256 : 256 ≤ len
  · go_wp2_with fail
    refine (DPress_calls A len cap bs _ (HR.out.below HB0.out) (fun j hj => rd_bytes Hb.out j (by rw [Hl.out]; exact hj)) HA.out hcap hlen (HT.out.below HB0.out) (fun j hj => kept_cell HB0.out (HO.out j hj))).mono ?_
    rintro e w1 ⟨v1, rfl, ho1, hb1⟩
    obtain ⟨A1, c1, rfl⟩ := own_slice ho1
    have hrow1 : w1.heap[g]? = some (.cells #[.int .i64 0, .slice none 0 0] 26 (0, 0)) := (hb1.block g (Array.getElem?_eq_some_iff.1 HR0.out).1).trans HR0.out
    have q0 : w1.cell? ⟨g, 0, none⟩ = some (.int .i64 0) := by rw [cell_of_row w1 g _ _ _ (0, 0) hrow1]; rfl
    have q1 : w1.cell? ⟨g, 1, none⟩ = some (.slice none 0 0) := by rw [cell_of_row w1 g _ _ _ (0, 0) hrow1]; rfl
    have f0 : w1.frozen? ⟨g, 0, none⟩ = false := frozen_of_row w1 g 0 _ _ hrow1
    have f1 : w1.frozen? ⟨g, 1, none⟩ = false := frozen_of_row w1 g 1 _ _ hrow1
    have HR1 := Lib.hid hrow1
    have HO1 := Lib.hid (own_mono ho1 HB0.out.size)
    have HB1 := Lib.hid (below_seq HB0.out (Nat.le_refl _) hb1)
    clear ho1 hb1 hrow1
    obtain ⟨m1, hm1⟩ : ∃ m1, m1 = (pressB bs).length := ⟨_, rfl⟩
    rw [← hm1] at HO1 ⊢
    by_cases hlt : m1 < len
    · have hpk := packK_pos (bs := bs) (by rw [Hl.out]; exact h256) (by rw [Hl.out, ← hm1]; exact hlt)
      have Hpk := Lib.hid hpk
      clear hm1 hpk
      go_wp2_with fail
      have hrow9 : ((w1.setCell ⟨g, 0, none⟩ (.int .i64 2)).setCell ⟨g, 1, none⟩ (.slice A1 m1 c1)).heap[g]? = some (.cells #[.int .i64 2, .slice A1 m1 c1] 26 (0, 0)) := two_set HR1.out _ _
      have hl := run_loadVar_row (P := Tryd.prog) _ g 26 26 _ _ _ hrow9 Tryd.underlying26 rfl (by kernel_rfl)
      have hf9 : Fr w1 ((w1.setCell ⟨g, 0, none⟩ (.int .i64 2)).setCell ⟨g, 1, none⟩ (.slice A1 m1 c1)) [some g] := ((Fr.refl _ _).set _ _ (.inl (by simp))).set _ _ (.inl (by simp))
      refine bodyPost_ret (v := .agg #[.int .i64 2, .slice A1 m1 c1]) ?_ rfl ⟨A1, m1, c1, by rw [Hpk.out], ?_, ?_⟩
      · simp [results, Tryd.results10, asAddr, hl]
      · rw [Hpk.out]
        exact Lib.hid (own_fr HO1.out hf9 (fun o ho => by simp at ho; subst ho; exact own_apart HR1.out (by decide) HO1.out))
      · exact HB1.out.trans (hf9.below (by have := HG.out; have := HB1.out.size; omega) (fun o ho j e => by simp at ho; subst ho; cases e; rw [HG.out]; exact Nat.le_refl _))
    · have hpk := packK_neg (bs := bs) (by rw [Hl.out, ← hm1]; omega)
      have Hpk := Lib.hid hpk
      clear hm1 hpk q0 q1 f0 f1
      go_wp2_with (at_builtin; refine wpList_appRd rfl _ _ rfl elBy (ys := []) (own_lit0 w1 _) rfl rfl ((HR.out.below HB1.out).alloc _) HA.out (by omega) (by simp) ?_; intro v2 w2 ho2 hg2; rw [Nat.zero_add, List.nil_append] at ho2; obtain ⟨A2, c2, rfl⟩ := own_slice ho2; have hb2 : Below w1.heap.size w1 w2 := ((Below.refl _ _).alloc (Nat.le_refl _) _).grown hg2 (by simp) (fun k hk => by simp [Value.ownBlock] at hk; omega); have hrow2 : w2.heap[g]? = some (.cells #[.int .i64 0, .slice none 0 0] 26 (0, 0)) := (hb2.block g (Array.getElem?_eq_some_iff.1 HR1.out).1).trans HR1.out; have q0 := two_c0 hrow2; have q1 := two_c1 hrow2; have f0 : w2.frozen? ⟨g, 0, none⟩ = false := frozen_of_row w2 g 0 _ _ hrow2; have f1 : w2.frozen? ⟨g, 1, none⟩ = false := frozen_of_row w2 g 1 _ _ hrow2; have HR2 := Lib.hid hrow2; have HO2 := Lib.hid (own_mono ho2 HB1.out.size); have HB2 := Lib.hid (below_seq HB1.out (Nat.le_refl _) hb2); clear ho2 hg2 hb2 hrow2)
      have hrow9 : ((w2.setCell ⟨g, 0, none⟩ (.int .i64 1)).setCell ⟨g, 1, none⟩ (.slice A2 len c2)).heap[g]? = some (.cells #[.int .i64 1, .slice A2 len c2] 26 (0, 0)) := two_set HR2.out _ _
      have hl := run_loadVar_row (P := Tryd.prog) _ g 26 26 _ _ _ hrow9 Tryd.underlying26 rfl (by kernel_rfl)
      have hf9 : Fr w2 ((w2.setCell ⟨g, 0, none⟩ (.int .i64 1)).setCell ⟨g, 1, none⟩ (.slice A2 len c2)) [some g] := ((Fr.refl _ _).set _ _ (.inl (by simp))).set _ _ (.inl (by simp))
      refine bodyPost_ret (v := .agg #[.int .i64 1, .slice A2 len c2]) ?_ rfl ⟨A2, len, c2, by rw [Hpk.out], ?_, ?_⟩
      · simp [results, Tryd.results10, asAddr, hl]
      · rw [Hpk.out]
        exact Lib.hid (own_fr HO2.out hf9 (fun o ho => by simp at ho; subst ho; exact own_apart HR2.out (by decide) HO2.out))
      · exact HB2.out.trans (hf9.below (by have := HG.out; have := HB2.out.size; omega) (fun o ho j e => by simp at ho; subst ho; cases e; rw [HG.out]; exact Nat.le_refl _))
  · have hpk := packK_neg (bs := bs) (by rw [Hl.out]; omega)
    have Hpk := Lib.hid hpk
    clear hpk
    go_wp2_with (at_builtin; refine wpList_appRd rfl _ _ rfl elBy (ys := []) (own_lit0 w0 _) rfl rfl ((HR.out.below HB0.out).alloc _) HA.out (by omega) (by simp) ?_; intro v2 w2 ho2 hg2; rw [Nat.zero_add, List.nil_append] at ho2; obtain ⟨A2, c2, rfl⟩ := own_slice ho2; have hb2 : Below w0.heap.size w0 w2 := ((Below.refl _ _).alloc (Nat.le_refl _) _).grown hg2 (by simp) (fun k hk => by simp [Value.ownBlock] at hk; omega); have hrow2 : w2.heap[g]? = some (.cells #[.int .i64 0, .slice none 0 0] 26 (0, 0)) := (hb2.block g (Array.getElem?_eq_some_iff.1 HR0.out).1).trans HR0.out; have q0 := two_c0 hrow2; have q1 := two_c1 hrow2; have f0 : w2.frozen? ⟨g, 0, none⟩ = false := frozen_of_row w2 g 0 _ _ hrow2; have f1 : w2.frozen? ⟨g, 1, none⟩ = false := frozen_of_row w2 g 1 _ _ hrow2; have HR2 := Lib.hid hrow2; have HO2 := Lib.hid (own_mono ho2 HB0.out.size); have HB2 := Lib.hid (below_seq HB0.out (Nat.le_refl _) hb2); clear ho2 hg2 hb2 hrow2)
    have hrow9 : ((w2.setCell ⟨g, 0, none⟩ (.int .i64 1)).setCell ⟨g, 1, none⟩ (.slice A2 len c2)).heap[g]? = some (.cells #[.int .i64 1, .slice A2 len c2] 26 (0, 0)) := two_set HR2.out _ _
    have hl := run_loadVar_row (P := Tryd.prog) _ g 26 26 _ _ _ hrow9 Tryd.underlying26 rfl (by kernel_rfl)
    have hf9 : Fr w2 ((w2.setCell ⟨g, 0, none⟩ (.int .i64 1)).setCell ⟨g, 1, none⟩ (.slice A2 len c2)) [some g] := ((Fr.refl _ _).set _ _ (.inl (by simp))).set _ _ (.inl (by simp))
    refine bodyPost_ret (v := .agg #[.int .i64 1, .slice A2 len c2]) ?_ rfl ⟨A2, len, c2, by rw [Hpk.out], ?_, ?_⟩
    · simp [results, Tryd.results10, asAddr, hl]
    · rw [Hpk.out]
      exact Lib.hid (own_fr HO2.out hf9 (fun o ho => by simp at ho; subst ho; exact own_apart HR2.out (by decide) HO2.out))
    · exact HB2.out.trans (hf9.below (by have := HG.out; have := HB2.out.size; omega) (fun o ho j e => by simp at ho; subst ho; cases e; rw [HG.out]; exact Nat.le_refl _))
end Go.Proofs.YtendohnkhbgfbaaDoor
/-
  Bytes of strings as lists (no program).
-/
namespace Go.Proofs.YtendohnkhbgfbaaDoor
open Go.RowKit

abbrev bytes (s : ByteArray) : List UInt8 := s.data.toList
abbrev text (l : List UInt8) : ByteArray := ⟨l.toArray⟩
theorem text_bytes (s : ByteArray) : text (bytes s) = s := by simp [bytes]
theorem bytes_text (l : List UInt8) : bytes (text l) = l := by simp [bytes]
theorem bytes_inj' {a b : ByteArray} (h : bytes a = bytes b) : a = b := by rw [← text_bytes a, h, text_bytes]
theorem tl_iff (a b : ByteArray) : a.toList = b.toList ↔ a = b := by
  rw [Lib.toList_data, Lib.toList_data]
  exact ⟨bytes_inj', fun e => by rw [e]⟩
theorem tl_beq (a b : ByteArray) : (a.toList == b.toList) = decide (a = b) := by
  by_cases h : a = b
  · subst h; rw [decide_eq_true rfl]; exact beq_self_eq_true _
  · rw [decide_eq_false h]; exact beq_eq_false_iff_ne.2 (fun e => h ((tl_iff a b).1 e))
end Go.Proofs.YtendohnkhbgfbaaDoor
