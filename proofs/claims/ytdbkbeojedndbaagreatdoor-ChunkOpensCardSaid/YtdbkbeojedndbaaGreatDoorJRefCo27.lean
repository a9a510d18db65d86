/-
  Texts joined into one file: RefT.
-/
import Derived.Test.YtdbkbeojedndbaaGreatDoorJRefCo14
import Derived.Test.YtdbkbeojedndbaaGreatDoorJRefCo23
import Derived.Test.YtdbkbeojedndbaaGreatDoorJRefCo4
import Derived.Test.YtdbkbeojedndbaaGreatDoorJRefCo3
import Derived.Test.YtdbkbeojedndbaaGreatDoorJRefCo24
import Derived.Test.YtdbkbeojedndbaaGreatDoorJRefCo20
import Derived.Test.YtdbkbeojedndbaaGreatDoorJRefCo8
import Derived.Test.YtdbkbeojedndbaaGreatDoorJRefCo5
namespace Go.Proofs.YtdbkbeojedndbaaGreatDoor
open Go.RowKit

structure From (B : Nat) (W0 W : World) : Prop where
 bel : Below B W0 W
 size : B ≤ W.heap.size
theorem From.cell {B : Nat} {W0 : World} {a : Addr} {v : Value} (h : W0.cell? a = some v) (ha : a.block < B) : ∀ W, From B W0 W → W.cell? a = some v := fun _ k => (k.bel.cell ha).trans h
theorem From.step {B : Nat} {W0 W W' : World} (h : From B W0 W) (k : Below W.heap.size W W') : From B W0 W' := ⟨h.bel.trans (k.mono h.size), Nat.le_trans h.size k.size⟩
theorem From.app {B : Nat} {W0 W W' : World} (h : From B W0 W) {e : TypeId} {size n : Nat} {v : Value} {xs : List Value} (ho : W.ownsRow B e size v n xs) (hg : W.grownBy W' v.ownBlock) : From B W0 W' :=
 ⟨h.bel.grown hg h.size (fun k hk => (ho.lt k hk).1), Nat.le_trans h.size hg.size⟩
theorem Rd.fromW {B : Nat} {W0 W : World} {k : IntKind} {A : Option Addr} {n : Nat} {xs : List Int} (h : Rd W0 k A n xs) (hf : From B W0 W) (hA : ∀ b o, A = some ⟨b, o, none⟩ → b < B) : Rd W k A n xs :=
 ⟨h.1, fun hn => by obtain ⟨b, o, e, hc⟩ := h.2 hn; exact ⟨b, o, e, fun j hj => From.cell (hc j hj) (hA b o e) W hf⟩⟩
theorem codes_lt {a : List Int} {n : Nat} (hl : a.length = n) (hn : n ≤ 1000) {s : Nat} (hs : s < n) : 0 ≤ rd (codesOf a) s ∧ rd (codesOf a) s < 18446744073709551616 := by
 rw [rd_codesOf a s (by omega)]
 unfold codeAt
 split
 ·have := nextCode_range a (rd a s).toNat s (by omega)
  rw [hl] at this
  omega
 ·omega
theorem tok_cells {w : World} {A : Option Addr} {n : Nat} {ts : List Tok} (h : Toks w A n ts) {k : Nat} (hk : k < n) : ∃ b o, A = some ⟨b, o, none⟩ ∧ w.cell? ⟨b, o + k * 3, none⟩ = some (.int .u8 (tokB ts k)) ∧ w.cell? ⟨b, o + k * 3 + 1, none⟩ = some (.int .i64 (tokL ts k)) ∧ w.cell? ⟨b, o + k * 3 + 2, none⟩ = some (.int .i64 (tokD ts k)) := by
 obtain ⟨b, o, e, hc⟩ := h.2 (by omega)
 exact ⟨b, o, e, hc k hk⟩
theorem rows_from {B : Nat} {W0 W : World} {g : Nat} {rows : List (Int × Int)} (h : RowsAt W0 g rows) (hg : g < B) (hf : From B W0 W) : RowsAt W g rows :=
 fun j hj => ⟨From.cell (h j hj).1 hg W hf, From.cell (h j hj).2 hg W hf⟩
theorem rows_lt {w : World} {g : Nat} {rows : List (Int × Int)} (h : RowsAt w g rows) (h0 : 0 < rows.length) : g < w.heap.size := World.block_lt_of_cell? _ _ (h 0 h0).1
set_option maxHeartbeats 1000000 in set_option maxRecDepth 100000 in
theorem rtokens_calls (n m c1 c2 nt ct : Nat) (A C T : Option Addr) (a b : List Int) (ts : List Tok) (w : World) (hA : Rd w .i64 A n a) (hC : Rd w .i64 C m b) (hT : Toks w T nt ts) (hok : TokOk ts)
  (hn : 286 ≤ n) (hn2 : n ≤ 1000) (hm : 30 ≤ m) (hm2 : m ≤ 1000) (ha : ∀ j, 0 ≤ rd a j ∧ rd a j ≤ 15) (hb : ∀ j, 0 ≤ rd b j ∧ rd b j ≤ 15) (hnt : nt ≤ 100000) :
  Calls Tryz.prog 64 #[.slice T nt ct, .slice A n c1, .slice C m c2] w fun e w' => ∃ v, e = .returned v ∧ Hid (w'.ownsRow w.heap.size 5 1 v (toksS a b ts).length (ints .u8 (toksS a b ts))) ∧ Below w.heap.size w w' := by
 have HA := Lib.hid hA
 have HC := Lib.hid hC
 have HT := Lib.hid hT
 have Hok := Lib.hid hok
 have Ha := Lib.hid ha
 have Hb := Lib.hid hb
 have Hlt := Lib.hid hT.1
 have Hla := Lib.hid hA.1
 have Hlb := Lib.hid hC.1
 have Htl := Lib.hid (toksTo_len ha hb hok)
 obtain ⟨ba, oa, rfl, hca⟩ := hA.2 (by omega)
 obtain ⟨bc, oc, rfl, hcc⟩ := hC.2 (by omega)
 have Hba := Lib.hid (World.block_lt_of_cell? _ _ (hca 0 (by omega)))
 have Hbc := Lib.hid (World.block_lt_of_cell? _ _ (hcc 0 (by omega)))
 have Hca := Lib.hid hca
 have Hcc := Lib.hid hcc
 clear hA hC hT hok ha hb hca hcc
 go_enter Tryz.func64, Tryz.ntmps64
 go_wp2_with fail
 refine (refCodes_calls (some ⟨ba, oa, none⟩) n c1 a _ HA.out (by omega)).mono ?_
 rintro e w1 ⟨v1, rfl, ho1, hb1⟩
 obtain ⟨gx, cx, rfl, _, hg1, _, _, _⟩ := own_form ho1 (by omega)
 obtain ⟨_, _, e1, _, hr1⟩ := own_rd ho1
 cases e1
 have HX := Lib.hid hr1
 have HB1 := Lib.hid hb1
 have hsz1 := hb1.size
 clear ho1 hr1 hb1
 go_wp2_with fail
 refine (refCodes_calls (some ⟨bc, oc, none⟩) m c2 b _ (HC.out.below HB1.out) (by omega)).mono ?_
 rintro e w2 ⟨v2, rfl, ho2, hb2⟩
 obtain ⟨gy, cy, rfl, _, hg2, _, _, _⟩ := own_form ho2 (by omega)
 obtain ⟨_, _, e2, _, hr2⟩ := own_rd ho2
 cases e2
 have HX2 := Lib.hid (HX.out.below hb2)
 have HY := Lib.hid hr2
 have HB2 := Lib.hid (below_seq HB1.out (Nat.le_refl _) hb2)
 have hsz2 := hb2.size
 clear ho2 hr2 hb2 HX
 go_wp2_with fail
 refine (rLengths_calls _).mono ?_
 rintro e w3 ⟨v3, rfl, ho3, hb3⟩
 obtain ⟨gl, cl', rfl, _, hl3⟩ := rowsAt_own ho3 (by decide)
 have HL := Lib.hid hl3
 have hgl := rows_lt hl3 (by decide)
 have HX3 := Lib.hid (HX2.out.below hb3)
 have HY3 := Lib.hid (HY.out.below hb3)
 have HB3 := Lib.hid (below_seq HB2.out (Nat.le_refl _) hb3)
 have hsz3 := hb3.size
 clear ho3 hl3 hb3 HX2 HY
 go_wp2_with fail
 refine (rDistances_calls _).mono ?_
 rintro e Wc ⟨v4, rfl, ho4, hb4⟩
 obtain ⟨gd, cd', rfl, _, hl4⟩ := rowsAt_own ho4 (by decide)
 have HD := Lib.hid hl4
 have hgd := rows_lt hl4 (by decide)
 have HL4 := Lib.hid (HL.out.below hb4)
 have HX4 := Lib.hid (HX3.out.below hb4)
 have HY4 := Lib.hid (HY3.out.below hb4)
 have HB4 := Lib.hid (below_seq HB3.out (Nat.le_refl _) hb4)
 have hsz4 := hb4.size
 clear ho4 hl4 hb4 HX3 HY3 HL
 obtain ⟨Bc, hBc⟩ : ∃ B, B = Wc.heap.size := ⟨_, rfl⟩
 have HA4 := Lib.hid (HA.out.below HB4.out)
 have HC4 := Lib.hid (HC.out.below HB4.out)
 have HT4 := Lib.hid (HT.out.below HB4.out)
 have hblk : gx < Bc ∧ gy < Bc ∧ gl < Bc ∧ gd < Bc ∧ ba < Bc ∧ bc < Bc ∧ w.heap.size ≤ Bc := by
  have h1 := Hba.out
  have h2 := Hbc.out
  rw [hBc]
  omega
 have Hblk := Lib.hid hblk
 have HBc := Lib.hid hBc
 have F00 : Hid (From Bc Wc Wc) := by rw [hBc]; exact ⟨Below.refl _ _, Nat.le_refl _⟩
 clear hBc hblk
 go_wp2
 go_loopw [11, 12] (fun v i wr => ∃ (k nd : Nat), k ≤ nt ∧ i = .int .i64 k ∧ nd ≤ 48 * k ∧ Hid (nd = (toksTo a b ts k).length) ∧ Hid (wr.ownsRow Bc 5 1 v nd (ints .u8 (toksTo a b ts k))) ∧ Hid (From Bc Wc wr)) (fun _ i _ => nt - (intOf i).toNat)
 case atStart => exact ⟨0, 0, by omega, rfl, by omega, rfl, World.ownsRow_nil _ _ _ _, F00.out⟩
 case round =>
  obtain ⟨k, nd, hk, rfl, hnd, Hnd, HO, HF⟩ := hrel
  have hszr := HF.out.size
  obtain ⟨av, cv, e11⟩ := own_slice HO.out
  subst e11
  by_cases hlt : k < nt
  ·obtain ⟨bt, ot, rfl, y0, y1, y2⟩ := tok_cells HT4.out hlt
   have hbt := World.block_lt_of_cell? _ _ y0
   rw [← HBc.out] at hbt
   have z0 := From.cell y0 hbt
   have z1 := From.cell y1 hbt
   have z2 := From.cell y2 hbt
   obtain ⟨htb, htk⟩ := Hok.out k (by rw [Hlt.out]; exact hlt)
   have hsucc := toksTo_succ a b (ts := ts) (k := k) (by rw [Hlt.out]; exact hlt)
   have htbl := tokBits_len (t := (tokB ts k, tokL ts k, tokD ts k)) Ha.out Hb.out htk
   generalize tokB ts k = vb at *
   generalize tokL ts k = vl at *
   generalize tokD ts k = vd at *
   clear y0 y1 y2
   have zr1 := z1 wr HF.out
   rcases tokOk_cases htk with ⟨hl, hd⟩ | ⟨hb0, hl1, hl2, hd1, hd2⟩
   ·subst hl
    obtain ⟨m0, hm0⟩ : ∃ m0 : Nat, vb = m0 := ⟨vb.toNat, by omega⟩
    subst hm0
    have zr0 := z0 wr HF.out
    have hbits : tokBits a b ((m0 : Int), 0, vd) = symCode a m0 := if_pos rfl
    rw [hbits] at hsucc htbl
    have Hsucc := Lib.hid hsucc
    have hm286 : m0 ≤ 255 := by omega
    have hm0n : m0 < n := by omega
    have hrx := Ha.out m0
    have hrc := codes_lt (a := a) Hla.out hn2 (s := m0) (by omega)
    obtain ⟨x, hx⟩ : ∃ x : Nat, rd a m0 = x := ⟨(rd a m0).toNat, by omega⟩
    obtain ⟨y, hy⟩ : ∃ y : Nat, rd (codesOf a) m0 = y := ⟨(rd (codesOf a) m0).toNat, by omega⟩
    have qa := From.cell ((HB4.out.cell (p := ⟨ba, oa + m0, none⟩) Hba.out).trans (Hca.out m0 (by omega))) Hblk.out.2.2.2.2.1
    obtain ⟨_, _, e9, hcx⟩ := HX4.out.2 (by omega)
    cases e9
    have qx := From.cell (hcx m0 (by omega)) Hblk.out.1
    rw [Nat.zero_add] at qx
    rw [hx] at qa hrx
    rw [hy] at qx hrc
    have HBit := Lib.hid (show symCode a m0 = hiOf y x by unfold symCode; rw [hx, hy, Int.toNat_natCast, Int.toNat_natCast])
    have F0 : From Bc Wc wr.drew := HF.out.step (Below.refl _ _).drew
    clear hsucc hbits hd htk htb hcx hx hy z0 z1 z2
    go_upto_region 9 with fail
    refine wp_region_noPanic ?_
    refine wp_region_held_drew (S := fun W => From Bc Wc W) (by kernel_rfl) (F0) (fun hHeld => ?_)
    refine' wpAnyH_take (i := 0) (oi := ⟨_, _, _, _, _, _⟩) rfl (by kernel_rfl) (by kernel_rfl) (by kernel_rfl) (fun _ _ _ h => h) (Or.inl ⟨by rfl, ?a0⟩) (by assumption) ?b0
    case a0 => (intro w hSw; (try dsimp only at hSw); go_simp; try with_reducible rfl)
    try simp only [Act.put, List.setIfInBounds_toArray, List.set_cons_zero, List.set_cons_succ]
    refine' wpAnyH_take (i := 1) (oi := ⟨_, _, _, _, _, _⟩) rfl (by kernel_rfl) (by kernel_rfl) (by kernel_rfl) (fun _ _ _ h => h) (Or.inl ⟨by rfl, ?a1⟩) (by assumption) ?b1
    case a1 => (intro w hSw; (try dsimp only at hSw); go_simp; try with_reducible rfl)
    try simp only [Act.put, List.setIfInBounds_toArray, List.set_cons_zero, List.set_cons_succ]
    refine' wpAnyH_take (i := 2) (oi := ⟨_, _, _, _, _, _⟩) rfl (by kernel_rfl) (by kernel_rfl) (by kernel_rfl) (fun _ _ _ h => h) (Or.inl ⟨by rfl, ?a2⟩) (by assumption) ?b2
    case a2 => (intro w hSw; (try dsimp only at hSw); go_simp; try with_reducible rfl)
    try simp only [Act.put, List.setIfInBounds_toArray, List.set_cons_zero, List.set_cons_succ]
    refine' wpAnyH_take (i := 3) (oi := ⟨_, _, _, _, _, _⟩) rfl (by kernel_rfl) (by kernel_rfl) (by kernel_rfl) (fun _ _ _ h => h) (Or.inl ⟨by rfl, ?a3⟩) (by assumption) ?b3
    case a3 => (intro w hSw; (try dsimp only at hSw); go_simp; try with_reducible rfl)
    try simp only [Act.put, List.setIfInBounds_toArray, List.set_cons_zero, List.set_cons_succ]
    refine' wpAnyH_take (i := 4) (oi := ⟨_, _, _, _, _, _⟩) rfl (by kernel_rfl) (by kernel_rfl) (by kernel_rfl) (fun _ _ _ h => h) (Or.inl ⟨by rfl, ?a4⟩) (by assumption) ?b4
    case a4 => (intro w hSw; (try dsimp only at hSw); go_simp; try with_reducible rfl)
    try simp only [Act.put, List.setIfInBounds_toArray, List.set_cons_zero, List.set_cons_succ]
    refine' wpAnyH_take (i := 5) (oi := ⟨_, _, _, _, _, _⟩) rfl (by kernel_rfl) (by kernel_rfl) (by kernel_rfl) (fun _ _ _ h => h) (Or.inl ⟨by rfl, ?a5⟩) (by assumption) ?b5
    case a5 => (intro w hSw; (try dsimp only at hSw); go_simp; try with_reducible rfl)
    try simp only [Act.put, List.setIfInBounds_toArray, List.set_cons_zero, List.set_cons_succ]
    refine' wpAnyH_take (i := 6) (oi := ⟨_, _, _, _, _, _⟩) rfl (by kernel_rfl) (by kernel_rfl) (by kernel_rfl) (fun _ _ _ h => h) (Or.inl ⟨by rfl, ?a6⟩) (by assumption) ?b6
    case a6 => (intro w hSw; (try dsimp only at hSw); go_simp; try with_reducible rfl)
    try simp only [Act.put, List.setIfInBounds_toArray, List.set_cons_zero, List.set_cons_succ]
    refine' wpAnyH_take (i := 7) (oi := ⟨_, _, _, _, _, _⟩) rfl (by kernel_rfl) (by kernel_rfl) (by kernel_rfl) (fun _ _ _ h => h) (Or.inl ⟨by rfl, ?a7⟩) (by assumption) ?b7
    case a7 => (intro w hSw; (try dsimp only at hSw); go_simp; try with_reducible rfl)
    try simp only [Act.put, List.setIfInBounds_toArray, List.set_cons_zero, List.set_cons_succ]
    refine' wpAnyH_take (i := 8) (oi := ⟨_, _, _, _, _, _⟩) rfl (by kernel_rfl) (by kernel_rfl) (by kernel_rfl) (fun _ _ _ h => h) (Or.inl ⟨by rfl, ?a8⟩) (by assumption) ?b8
    case a8 => (intro w hSw; (try dsimp only at hSw); go_simp; try with_reducible rfl)
    try simp only [Act.put, List.setIfInBounds_toArray, List.set_cons_zero, List.set_cons_succ]
    refine wpAnyH_ready (rs := [9]) (by kernel_rfl) (by simp) ?_
    refine AllReadyH.cons (o := ⟨_, _, _, _, _, _⟩) rfl (fun K hK => ?_) AllReadyH.nil
    go_simp
    go_at_call 90
    refine (High_calls y x _ (by omega) (by omega)).mono ?_
    rintro e wA ⟨vA, rfl, hoA, hbA⟩
    have FA : From Bc Wc wA := hHeld.step hbA
    have OA := Lib.hid (own_below HO.out (below_seq (Below.refl _ wr).drew (Nat.le_refl _) hbA))
    obtain ⟨aA, cA, rfl, _, hrA⟩ := own_rd hoA
    have hnA := own_none hoA
    have HrA := Lib.hid hrA
    have HnA := Lib.hid hnA
    clear hoA hbA hrA hnA
    refine hK.out _ _ (FA) (fun hHeldN => ?_)
    clear hK K hHeld
    have hHeld := hHeldN
    clear hHeldN
    try simp only [Act.put, List.setIfInBounds_toArray, List.set_cons_zero, List.set_cons_succ]
    refine wpAnyH_ready (rs := [10]) (by kernel_rfl) (by simp) ?_
    refine AllReadyH.cons (o := ⟨_, _, _, _, _, _⟩) rfl (fun K hK => ?_) AllReadyH.nil
    refine step_appRd (by rfl) _ _ (by rfl) elB OA.out (by rfl) (by rfl) HrA.out HnA.out (by omega) FA.size ?_
    intro vB wBa hownB hgB
    obtain ⟨aBa, cBa, rfl⟩ := own_slice hownB
    have FBa : From Bc Wc wBa := FA.app OA.out hgB
    have OBa := Lib.hid hownB
    clear hgB hownB OA HrA HnA FA
    refine hK.out _ _ (FBa) (fun hHeldN => ?_)
    clear hK K hHeld
    have hHeld := hHeldN
    clear hHeldN
    try simp only [Act.put, List.setIfInBounds_toArray, List.set_cons_zero, List.set_cons_succ]
    refine' wpAnyH_take (i := 11) (oi := ⟨_, _, _, _, _, _⟩) rfl (by kernel_rfl) (by kernel_rfl) (by kernel_rfl) (fun _ _ _ h => h) (Or.inl ⟨by rfl, ?a9⟩) (by assumption) ?b9
    case a9 => (intro w hSw; (try dsimp only at hSw); go_simp; try with_reducible rfl)
    try simp only [Act.put, List.setIfInBounds_toArray, List.set_cons_zero, List.set_cons_succ]
    refine wpAnyH_done (by kernel_rfl) ?_ _
    refine NoPanic.normal ?_
    clear hHeld
    go_wp2
    go_roundw
    case rel => exact ⟨k + 1, nd + x, by omega, by go_num, by omega, Lib.hid (by rw [Hsucc.out, List.length_append, ← Hnd.out, HBit.out, hiOf_length]), by rw [Hsucc.out, HBit.out]; exact OBa.out, FBa⟩
    case measure => simp [intOf]; omega
   ·have r1 := symL_range vl hl1 hl2
    have r2 := symD_range vd hd1 hd2
    have hls := lastLe_lt lens vl 29 (by decide)
    have hds := lastLe_lt dists vd 30 (by decide)
    obtain ⟨s, hs⟩ : ∃ s, s = lastLe lens vl 29 := ⟨_, rfl⟩
    obtain ⟨q, hq⟩ : ∃ q, q = lastLe dists vd 30 := ⟨_, rfl⟩
    have es : symS 257 lens vl = ((257 + s : Nat) : Int) := by
     show (257 : Int) + (lastLe lens vl lens.length : Nat) = _
     rw [show lens.length = 29 from rfl, ← hs]
     omega
    have eq : symS 0 dists vd = (q : Int) := by
     show (0 : Int) + (lastLe dists vd dists.length : Nat) = _
     rw [show dists.length = 30 from rfl, ← hq]
     omega
    have esb : symB lens vl = rowB lens s := by
     show rowB lens (lastLe lens vl lens.length) = _
     rw [show lens.length = 29 from rfl, ← hs]
    have eqb : symB dists vd = rowB dists q := by
     show rowB dists (lastLe dists vd dists.length) = _
     rw [show dists.length = 30 from rfl, ← hq]
    rw [← hs] at hls
    rw [← hq] at hds
    obtain ⟨pb, hpb⟩ : ∃ p : Nat, symB lens vl = p := ⟨(symB lens vl).toNat, by omega⟩
    obtain ⟨px, hpx⟩ : ∃ p : Nat, symX lens vl = p := ⟨(symX lens vl).toNat, by omega⟩
    obtain ⟨qb, hqb⟩ : ∃ p : Nat, symB dists vd = p := ⟨(symB dists vd).toNat, by omega⟩
    obtain ⟨qx, hqx⟩ : ∃ p : Nat, symX dists vd = p := ⟨(symX dists vd).toNat, by omega⟩
    have hbits : tokBits a b (vb, vl, vd) = symCode a (257 + s) ++ lowOf px pb ++ (symCode b q ++ lowOf qx qb) := by
     unfold tokBits
     rw [if_neg (by show ¬ vl = 0; omega), es, hpb, hpx, eq, hqb, hqx, Int.toNat_natCast, Int.toNat_natCast, Int.toNat_natCast, Int.toNat_natCast, Int.toNat_natCast, Int.toNat_natCast]
    rw [hbits] at hsucc
    rw [hpb, hpx] at r1
    rw [hqb, hqx] at r2
    have hpb5 : pb ≤ 5 := by omega
    have hpx5 : px ≤ 255 := by omega
    have hqb5 : qb ≤ 13 := by omega
    have hqx5 : qx ≤ 32767 := by omega
    have Hsucc := Lib.hid hsucc
    have hl0 : (vl == 0) = false := by simp; omega
    have hxa := Ha.out (257 + s)
    have hca := codes_lt (a := a) Hla.out hn2 (s := 257 + s) (by omega)
    have hxb := Hb.out q
    have hcb := codes_lt (a := b) Hlb.out hm2 (s := q) (by omega)
    obtain ⟨x, hx⟩ : ∃ x : Nat, rd a (257 + s) = x := ⟨(rd a (257 + s)).toNat, by omega⟩
    obtain ⟨y, hy⟩ : ∃ y : Nat, rd (codesOf a) (257 + s) = y := ⟨(rd (codesOf a) (257 + s)).toNat, by omega⟩
    obtain ⟨x', hx'⟩ : ∃ x : Nat, rd b q = x := ⟨(rd b q).toNat, by omega⟩
    obtain ⟨y', hy'⟩ : ∃ y : Nat, rd (codesOf b) q = y := ⟨(rd (codesOf b) q).toNat, by omega⟩
    have qa := From.cell ((HB4.out.cell (p := ⟨ba, oa + (257 + s), none⟩) Hba.out).trans (Hca.out (257 + s) (by omega))) Hblk.out.2.2.2.2.1
    have qc := From.cell ((HB4.out.cell (p := ⟨bc, oc + q, none⟩) Hbc.out).trans (Hcc.out q (by omega))) Hblk.out.2.2.2.2.2.1
    obtain ⟨_, _, e9, hcx⟩ := HX4.out.2 (by omega)
    cases e9
    obtain ⟨_, _, e9, hcy⟩ := HY4.out.2 (by omega)
    cases e9
    have qx1 := From.cell (hcx (257 + s) (by omega)) Hblk.out.1
    have qy1 := From.cell (hcy q (by omega)) Hblk.out.2.1
    rw [Nat.zero_add] at qx1 qy1
    rw [hx] at qa hxa
    rw [hy] at qx1 hca
    rw [hx'] at qc hxb
    rw [hy'] at qy1 hcb
    have zlb := From.cell (HL4.out s (by show s < 29; omega)).2 Hblk.out.2.2.1
    have zdb := From.cell (HD.out q (by show q < 30; omega)).2 Hblk.out.2.2.2.1
    rw [← esb, hpb] at zlb
    rw [← eqb, hqb] at zdb
    have HBit := Lib.hid (show symCode a (257 + s) = hiOf y x by unfold symCode; rw [hx, hy, Int.toNat_natCast, Int.toNat_natCast])
    have HBit' := Lib.hid (show symCode b q = hiOf y' x' by unfold symCode; rw [hx', hy', Int.toNat_natCast, Int.toNat_natCast])
    have Hs := Lib.hid hs
    have Hq := Lib.hid hq
    have Hpx := Lib.hid hpx
    have Hqx := Lib.hid hqx
    have hs29 : s < 29 := hls
    have hq30 : q < 30 := hds
    have hqm : q < m := by omega
    have s1 : IntKind.i64.wrap (257 + (s : Int)) = 257 + s := IntWalk.i64_in _ (by omega)
    have s2 : (257 + (s : Int)).toNat = 257 + s := by omega
    have s3 : 0 ≤ 257 + (s : Int) := by omega
    have s4 : 257 + (s : Int) < n := by omega
    have Qa := Lib.hid qa
    have Qc := Lib.hid qc
    have Qx1 := Lib.hid qx1
    have Qy1 := Lib.hid qy1
    have Zlb := Lib.hid zlb
    have Zdb := Lib.hid zdb
    have Z2 := Lib.hid z2
    clear hsucc hbits htk htb htbl hb0 hcx hcy hx hy hx' hy' hs hq hpb hpx hqb hqx es eq esb eqb r1 r2 qa qc qx1 qy1 zlb zdb z0 z1 z2 hls hds
    go_wp2_with fail
    refine (rOf_calls vl lens gl 29 cl' _ rfl (by omega) (by omega) (by decide) (by decide) (fun j hj => by have := lens_range j hj; omega) (rows_from HL4.out Hblk.out.2.2.1 HF.out)).mono ?_
    rintro e w5 ⟨rfl, hb5⟩
    rw [← Hs.out, Hpx.out]
    have F5 := Lib.hid (HF.out.step hb5)
    have O5 := Lib.hid (own_below HO.out hb5)
    have F0 : From Bc Wc w5.drew := F5.out.step (Below.refl _ _).drew
    have qa := Qa.out
    have qx1 := Qx1.out
    clear hb5 zr1
    go_upto_region 11 with fail
    refine wp_region_noPanic ?_
    refine wp_region_held_drew (S := fun W => From Bc Wc W) (by kernel_rfl) (F0) (fun hHeld => ?_)
    refine' wpAnyH_take (i := 0) (oi := ⟨_, _, _, _, _, _⟩) rfl (by kernel_rfl) (by kernel_rfl) (by kernel_rfl) (fun _ _ _ h => h) (Or.inl ⟨by rfl, ?a10⟩) (by assumption) ?b10
    case a10 => (intro w hSw; (try dsimp only at hSw); go_simp; try with_reducible rfl)
    try simp only [Act.put, List.setIfInBounds_toArray, List.set_cons_zero, List.set_cons_succ]
    refine' wpAnyH_take (i := 1) (oi := ⟨_, _, _, _, _, _⟩) rfl (by kernel_rfl) (by kernel_rfl) (by kernel_rfl) (fun _ _ _ h => h) (Or.inl ⟨by rfl, ?a11⟩) (by assumption) ?b11
    case a11 => (intro w hSw; (try dsimp only at hSw); go_simp; try with_reducible rfl)
    try simp only [Act.put, List.setIfInBounds_toArray, List.set_cons_zero, List.set_cons_succ]
    refine' wpAnyH_take (i := 2) (oi := ⟨_, _, _, _, _, _⟩) rfl (by kernel_rfl) (by kernel_rfl) (by kernel_rfl) (fun _ _ _ h => h) (Or.inl ⟨by rfl, ?a12⟩) (by assumption) ?b12
    case a12 => (intro w hSw; (try dsimp only at hSw); go_simp; try with_reducible rfl)
    try simp only [Act.put, List.setIfInBounds_toArray, List.set_cons_zero, List.set_cons_succ]
    refine' wpAnyH_take (i := 3) (oi := ⟨_, _, _, _, _, _⟩) rfl (by kernel_rfl) (by kernel_rfl) (by kernel_rfl) (fun _ _ _ h => h) (Or.inl ⟨by rfl, ?a13⟩) (by assumption) ?b13
    case a13 => (intro w hSw; (try dsimp only at hSw); go_simp; try with_reducible rfl)
    try simp only [Act.put, List.setIfInBounds_toArray, List.set_cons_zero, List.set_cons_succ]
    refine' wpAnyH_take (i := 4) (oi := ⟨_, _, _, _, _, _⟩) rfl (by kernel_rfl) (by kernel_rfl) (by kernel_rfl) (fun _ _ _ h => h) (Or.inl ⟨by rfl, ?a14⟩) (by assumption) ?b14
    case a14 => (intro w hSw; (try dsimp only at hSw); go_simp; try with_reducible rfl)
    try simp only [Act.put, List.setIfInBounds_toArray, List.set_cons_zero, List.set_cons_succ]
    refine' wpAnyH_take (i := 5) (oi := ⟨_, _, _, _, _, _⟩) rfl (by kernel_rfl) (by kernel_rfl) (by kernel_rfl) (fun _ _ _ h => h) (Or.inl ⟨by rfl, ?a15⟩) (by assumption) ?b15
    case a15 => (intro w hSw; (try dsimp only at hSw); go_simp; try with_reducible rfl)
    try simp only [Act.put, List.setIfInBounds_toArray, List.set_cons_zero, List.set_cons_succ]
    refine' wpAnyH_take (i := 6) (oi := ⟨_, _, _, _, _, _⟩) rfl (by kernel_rfl) (by kernel_rfl) (by kernel_rfl) (fun _ _ _ h => h) (Or.inl ⟨by rfl, ?a16⟩) (by assumption) ?b16
    case a16 => (intro w hSw; (try dsimp only at hSw); go_simp; try with_reducible rfl)
    try simp only [Act.put, List.setIfInBounds_toArray, List.set_cons_zero, List.set_cons_succ]
    refine' wpAnyH_take (i := 7) (oi := ⟨_, _, _, _, _, _⟩) rfl (by kernel_rfl) (by kernel_rfl) (by kernel_rfl) (fun _ _ _ h => h) (Or.inl ⟨by rfl, ?a17⟩) (by assumption) ?b17
    case a17 => (intro w hSw; (try dsimp only at hSw); go_simp; try with_reducible rfl)
    try simp only [Act.put, List.setIfInBounds_toArray, List.set_cons_zero, List.set_cons_succ]
    refine' wpAnyH_take (i := 8) (oi := ⟨_, _, _, _, _, _⟩) rfl (by kernel_rfl) (by kernel_rfl) (by kernel_rfl) (fun _ _ _ h => h) (Or.inl ⟨by rfl, ?a18⟩) (by assumption) ?b18
    case a18 => (intro w hSw; (try dsimp only at hSw); go_simp; try with_reducible rfl)
    try simp only [Act.put, List.setIfInBounds_toArray, List.set_cons_zero, List.set_cons_succ]
    refine' wpAnyH_take (i := 9) (oi := ⟨_, _, _, _, _, _⟩) rfl (by kernel_rfl) (by kernel_rfl) (by kernel_rfl) (fun _ _ _ h => h) (Or.inl ⟨by rfl, ?a19⟩) (by assumption) ?b19
    case a19 => (intro w hSw; (try dsimp only at hSw); go_simp; try with_reducible rfl)
    try simp only [Act.put, List.setIfInBounds_toArray, List.set_cons_zero, List.set_cons_succ]
    refine' wpAnyH_take (i := 10) (oi := ⟨_, _, _, _, _, _⟩) rfl (by kernel_rfl) (by kernel_rfl) (by kernel_rfl) (fun _ _ _ h => h) (Or.inl ⟨by rfl, ?a20⟩) (by assumption) ?b20
    case a20 => (intro w hSw; (try dsimp only at hSw); go_simp; try with_reducible rfl)
    try simp only [Act.put, List.setIfInBounds_toArray, List.set_cons_zero, List.set_cons_succ]
    refine wpAnyH_ready (rs := [11]) (by kernel_rfl) (by simp) ?_
    refine AllReadyH.cons (o := ⟨_, _, _, _, _, _⟩) rfl (fun K hK => ?_) AllReadyH.nil
    go_simp
    go_at_call 90
    refine (High_calls y x _ (by omega) (by omega)).mono ?_
    rintro e wA ⟨vA, rfl, hoA, hbA⟩
    have FA : From Bc Wc wA := hHeld.step hbA
    have OA := Lib.hid (own_below O5.out (below_seq (Below.refl _ w5).drew (Nat.le_refl _) hbA))
    obtain ⟨aA, cA, rfl, _, hrA⟩ := own_rd hoA
    have hnA := own_none hoA
    have HrA := Lib.hid hrA
    have HnA := Lib.hid hnA
    clear hoA hbA hrA hnA
    refine hK.out _ _ (FA) (fun hHeldN => ?_)
    clear hK K hHeld
    have hHeld := hHeldN
    clear hHeldN
    try simp only [Act.put, List.setIfInBounds_toArray, List.set_cons_zero, List.set_cons_succ]
    refine wpAnyH_ready (rs := [12]) (by kernel_rfl) (by simp) ?_
    refine AllReadyH.cons (o := ⟨_, _, _, _, _, _⟩) rfl (fun K hK => ?_) AllReadyH.nil
    refine step_appRd (by rfl) _ _ (by rfl) elB OA.out (by rfl) (by rfl) HrA.out HnA.out (by omega) FA.size ?_
    intro vB wBb hownB hgB
    obtain ⟨aBb, cBb, rfl⟩ := own_slice hownB
    have FBb : From Bc Wc wBb := FA.app OA.out hgB
    have OBb := Lib.hid hownB
    clear hgB hownB OA HrA HnA FA
    refine hK.out _ _ (FBb) (fun hHeldN => ?_)
    clear hK K hHeld
    have hHeld := hHeldN
    clear hHeldN
    try simp only [Act.put, List.setIfInBounds_toArray, List.set_cons_zero, List.set_cons_succ]
    refine' wpAnyH_take (i := 13) (oi := ⟨_, _, _, _, _, _⟩) rfl (by kernel_rfl) (by kernel_rfl) (by kernel_rfl) (fun _ _ _ h => h) (Or.inl ⟨by rfl, ?a21⟩) (by assumption) ?b21
    case a21 => (intro w hSw; (try dsimp only at hSw); go_simp; try with_reducible rfl)
    try simp only [Act.put, List.setIfInBounds_toArray, List.set_cons_zero, List.set_cons_succ]
    refine wpAnyH_done (by kernel_rfl) ?_ _
    refine NoPanic.normal ?_
    clear hHeld
    have zlb := Zlb.out wBb FBb
    clear qa qx1 F0
    go_wp2_with fail
    refine (Low_calls px pb _ (by omega) (by omega)).mono ?_
    rintro e wA ⟨vA, rfl, hoA, hbA⟩
    have FAc := Lib.hid (From.step FBb hbA)
    have OAc := Lib.hid (own_below OBb.out hbA)
    obtain ⟨aA, cA, rfl, _, hrA⟩ := own_rd hoA
    have HnA := Lib.hid (own_none hoA)
    have HrA := Lib.hid hrA
    have hszAc := FAc.out.size
    clear hoA hbA hrA
    go_wp2_with (at_builtin; refine wpList_appRd rfl _ _ rfl elB OAc.out rfl rfl HrA.out HnA.out (by omega) hszAc ?_; intro vL wLc hownL hgL; obtain ⟨aLc, cLc, rfl⟩ := own_slice hownL; have FLc := Lib.hid (FAc.out.app OAc.out hgL); have OLc := Lib.hid hownL; clear hgL hownL; have zr2 := Z2.out wLc FLc.out)
    clear zlb
    go_wp2_with fail
    refine (rOf_calls vd dists gd 30 cd' _ rfl (by omega) (by omega) (by decide) (by decide) (fun j hj => by have := dists_range j hj; omega) (rows_from HD.out Hblk.out.2.2.2.1 FLc.out)).mono ?_
    rintro e w6 ⟨rfl, hb6⟩
    rw [← Hq.out, Hqx.out]
    have F6 := Lib.hid (FLc.out.step hb6)
    have O6 := Lib.hid (own_below OLc.out hb6)
    have F0 : From Bc Wc w6.drew := F6.out.step (Below.refl _ _).drew
    have qc := Qc.out
    have qy1 := Qy1.out
    clear hb6 zr2
    go_upto_region 14 with fail
    refine wp_region_noPanic ?_
    refine wp_region_held_drew (S := fun W => From Bc Wc W) (by kernel_rfl) (F0) (fun hHeld => ?_)
    refine' wpAnyH_take (i := 0) (oi := ⟨_, _, _, _, _, _⟩) rfl (by kernel_rfl) (by kernel_rfl) (by kernel_rfl) (fun _ _ _ h => h) (Or.inl ⟨by rfl, ?a22⟩) (by assumption) ?b22
    case a22 => (intro w hSw; (try dsimp only at hSw); go_simp; try with_reducible rfl)
    try simp only [Act.put, List.setIfInBounds_toArray, List.set_cons_zero, List.set_cons_succ]
    refine' wpAnyH_take (i := 1) (oi := ⟨_, _, _, _, _, _⟩) rfl (by kernel_rfl) (by kernel_rfl) (by kernel_rfl) (fun _ _ _ h => h) (Or.inl ⟨by rfl, ?a23⟩) (by assumption) ?b23
    case a23 => (intro w hSw; (try dsimp only at hSw); go_simp; try with_reducible rfl)
    try simp only [Act.put, List.setIfInBounds_toArray, List.set_cons_zero, List.set_cons_succ]
    refine' wpAnyH_take (i := 2) (oi := ⟨_, _, _, _, _, _⟩) rfl (by kernel_rfl) (by kernel_rfl) (by kernel_rfl) (fun _ _ _ h => h) (Or.inl ⟨by rfl, ?a24⟩) (by assumption) ?b24
    case a24 => (intro w hSw; (try dsimp only at hSw); go_simp; try with_reducible rfl)
    try simp only [Act.put, List.setIfInBounds_toArray, List.set_cons_zero, List.set_cons_succ]
    refine' wpAnyH_take (i := 3) (oi := ⟨_, _, _, _, _, _⟩) rfl (by kernel_rfl) (by kernel_rfl) (by kernel_rfl) (fun _ _ _ h => h) (Or.inl ⟨by rfl, ?a25⟩) (by assumption) ?b25
    case a25 => (intro w hSw; (try dsimp only at hSw); go_simp; try with_reducible rfl)
    try simp only [Act.put, List.setIfInBounds_toArray, List.set_cons_zero, List.set_cons_succ]
    refine' wpAnyH_take (i := 4) (oi := ⟨_, _, _, _, _, _⟩) rfl (by kernel_rfl) (by kernel_rfl) (by kernel_rfl) (fun _ _ _ h => h) (Or.inl ⟨by rfl, ?a26⟩) (by assumption) ?b26
    case a26 => (intro w hSw; (try dsimp only at hSw); go_simp; try with_reducible rfl)
    try simp only [Act.put, List.setIfInBounds_toArray, List.set_cons_zero, List.set_cons_succ]
    refine' wpAnyH_take (i := 5) (oi := ⟨_, _, _, _, _, _⟩) rfl (by kernel_rfl) (by kernel_rfl) (by kernel_rfl) (fun _ _ _ h => h) (Or.inl ⟨by rfl, ?a27⟩) (by assumption) ?b27
    case a27 => (intro w hSw; (try dsimp only at hSw); go_simp; try with_reducible rfl)
    try simp only [Act.put, List.setIfInBounds_toArray, List.set_cons_zero, List.set_cons_succ]
    refine' wpAnyH_take (i := 6) (oi := ⟨_, _, _, _, _, _⟩) rfl (by kernel_rfl) (by kernel_rfl) (by kernel_rfl) (fun _ _ _ h => h) (Or.inl ⟨by rfl, ?a28⟩) (by assumption) ?b28
    case a28 => (intro w hSw; (try dsimp only at hSw); go_simp; try with_reducible rfl)
    try simp only [Act.put, List.setIfInBounds_toArray, List.set_cons_zero, List.set_cons_succ]
    refine' wpAnyH_take (i := 7) (oi := ⟨_, _, _, _, _, _⟩) rfl (by kernel_rfl) (by kernel_rfl) (by kernel_rfl) (fun _ _ _ h => h) (Or.inl ⟨by rfl, ?a29⟩) (by assumption) ?b29
    case a29 => (intro w hSw; (try dsimp only at hSw); go_simp; try with_reducible rfl)
    try simp only [Act.put, List.setIfInBounds_toArray, List.set_cons_zero, List.set_cons_succ]
    refine' wpAnyH_take (i := 8) (oi := ⟨_, _, _, _, _, _⟩) rfl (by kernel_rfl) (by kernel_rfl) (by kernel_rfl) (fun _ _ _ h => h) (Or.inl ⟨by rfl, ?a30⟩) (by assumption) ?b30
    case a30 => (intro w hSw; (try dsimp only at hSw); go_simp; try with_reducible rfl)
    try simp only [Act.put, List.setIfInBounds_toArray, List.set_cons_zero, List.set_cons_succ]
    refine wpAnyH_ready (rs := [9]) (by kernel_rfl) (by simp) ?_
    refine AllReadyH.cons (o := ⟨_, _, _, _, _, _⟩) rfl (fun K hK => ?_) AllReadyH.nil
    go_simp
    go_at_call 90
    refine (High_calls y' x' _ (by omega) (by omega)).mono ?_
    rintro e wA ⟨vA, rfl, hoA, hbA⟩
    have FA : From Bc Wc wA := hHeld.step hbA
    have OA := Lib.hid (own_below O6.out (below_seq (Below.refl _ w6).drew (Nat.le_refl _) hbA))
    obtain ⟨aA, cA, rfl, _, hrA⟩ := own_rd hoA
    have hnA := own_none hoA
    have HrA := Lib.hid hrA
    have HnA := Lib.hid hnA
    clear hoA hbA hrA hnA
    refine hK.out _ _ (FA) (fun hHeldN => ?_)
    clear hK K hHeld
    have hHeld := hHeldN
    clear hHeldN
    try simp only [Act.put, List.setIfInBounds_toArray, List.set_cons_zero, List.set_cons_succ]
    refine wpAnyH_ready (rs := [10]) (by kernel_rfl) (by simp) ?_
    refine AllReadyH.cons (o := ⟨_, _, _, _, _, _⟩) rfl (fun K hK => ?_) AllReadyH.nil
    refine step_appRd (by rfl) _ _ (by rfl) elB OA.out (by rfl) (by rfl) HrA.out HnA.out (by omega) FA.size ?_
    intro vB wBd hownB hgB
    obtain ⟨aBd, cBd, rfl⟩ := own_slice hownB
    have FBd : From Bc Wc wBd := FA.app OA.out hgB
    have OBd := Lib.hid hownB
    clear hgB hownB OA HrA HnA FA
    refine hK.out _ _ (FBd) (fun hHeldN => ?_)
    clear hK K hHeld
    have hHeld := hHeldN
    clear hHeldN
    try simp only [Act.put, List.setIfInBounds_toArray, List.set_cons_zero, List.set_cons_succ]
    refine' wpAnyH_take (i := 11) (oi := ⟨_, _, _, _, _, _⟩) rfl (by kernel_rfl) (by kernel_rfl) (by kernel_rfl) (fun _ _ _ h => h) (Or.inl ⟨by rfl, ?a31⟩) (by assumption) ?b31
    case a31 => (intro w hSw; (try dsimp only at hSw); go_simp; try with_reducible rfl)
    try simp only [Act.put, List.setIfInBounds_toArray, List.set_cons_zero, List.set_cons_succ]
    refine wpAnyH_done (by kernel_rfl) ?_ _
    refine NoPanic.normal ?_
    clear hHeld
    have zdb := Zdb.out wBd FBd
    clear qc qy1 F0
    go_wp2_with fail
    refine (Low_calls qx qb _ (by omega) (by omega)).mono ?_
    rintro e wA ⟨vA, rfl, hoA, hbA⟩
    have FAe := Lib.hid (From.step FBd hbA)
    have OAe := Lib.hid (own_below OBd.out hbA)
    obtain ⟨aA, cA, rfl, _, hrA⟩ := own_rd hoA
    have HnA := Lib.hid (own_none hoA)
    have HrA := Lib.hid hrA
    have hszAe := FAe.out.size
    clear hoA hbA hrA
    go_wp2_with (at_builtin; refine wpList_appRd rfl _ _ rfl elB OAe.out rfl rfl HrA.out HnA.out (by omega) hszAe ?_; intro vL wLe hownL hgL; obtain ⟨aLe, cLe, rfl⟩ := own_slice hownL; have FLe := Lib.hid (FAe.out.app OAe.out hgL); have OLe := Lib.hid hownL; clear hgL hownL)
    clear zdb
    go_wp2
    go_roundw
    case rel =>
     refine ⟨k + 1, nd + x + pb + x' + qb, by omega, by go_num, by omega, Lib.hid (by rw [Hsucc.out, HBit.out, HBit'.out]; simp only [List.length_append, hiOf_length, lowOf_length, ← Hnd.out]; omega), ?_, FLe.out⟩
     have h9 := OLe.out
     rw [Hsucc.out, HBit.out, HBit'.out]
     simp only [List.append_assoc] at h9 ⊢
     exact h9
    case measure => simp [intOf]; omega
  ·obtain rfl : k = nt := by omega
   have hall : toksTo a b ts k = ts.flatMap (tokBits a b) := by rw [← Hlt.out]; exact toksTo_all a b ts
   have Hall := Lib.hid hall
   have h256 : (256 : Int) < n := by omega
   have hxa := Ha.out 256
   have hca := codes_lt (a := a) Hla.out hn2 (s := 256) (by omega)
   obtain ⟨x, hx⟩ : ∃ x : Nat, rd a 256 = x := ⟨(rd a 256).toNat, by omega⟩
   obtain ⟨y, hy⟩ : ∃ y : Nat, rd (codesOf a) 256 = y := ⟨(rd (codesOf a) 256).toNat, by omega⟩
   have qa := From.cell ((HB4.out.cell (p := ⟨ba, oa + 256, none⟩) Hba.out).trans (Hca.out 256 (by omega))) Hblk.out.2.2.2.2.1
   obtain ⟨_, _, e9, hcx⟩ := HX4.out.2 (by omega)
   cases e9
   have qx1 := From.cell (hcx 256 (by omega)) Hblk.out.1
   rw [Nat.zero_add] at qx1
   rw [hx] at qa hxa
   rw [hy] at qx1 hca
   have HBit := Lib.hid (show symCode a 256 = hiOf y x by unfold symCode; rw [hx, hy, Int.toNat_natCast, Int.toNat_natCast])
   have F0 : From Bc Wc wr.drew := HF.out.step (Below.refl _ _).drew
   clear hall hcx hx hy
   go_upto_region 16 with fail
   refine wp_region_noPanic ?_
   refine wp_region_held_drew (S := fun W => From Bc Wc W) (by kernel_rfl) (F0) (fun hHeld => ?_)
   refine' wpAnyH_take (i := 0) (oi := ⟨_, _, _, _, _, _⟩) rfl (by kernel_rfl) (by kernel_rfl) (by kernel_rfl) (fun _ _ _ h => h) (Or.inl ⟨by rfl, ?a32⟩) (by assumption) ?b32
   case a32 => (intro w hSw; (try dsimp only at hSw); go_simp; try with_reducible rfl)
   try simp only [Act.put, List.setIfInBounds_toArray, List.set_cons_zero, List.set_cons_succ]
   refine' wpAnyH_take (i := 1) (oi := ⟨_, _, _, _, _, _⟩) rfl (by kernel_rfl) (by kernel_rfl) (by kernel_rfl) (fun _ _ _ h => h) (Or.inl ⟨by rfl, ?a33⟩) (by assumption) ?b33
   case a33 => (intro w hSw; (try dsimp only at hSw); go_simp; try with_reducible rfl)
   try simp only [Act.put, List.setIfInBounds_toArray, List.set_cons_zero, List.set_cons_succ]
   refine' wpAnyH_take (i := 2) (oi := ⟨_, _, _, _, _, _⟩) rfl (by kernel_rfl) (by kernel_rfl) (by kernel_rfl) (fun _ _ _ h => h) (Or.inl ⟨by rfl, ?a34⟩) (by assumption) ?b34
   case a34 => (intro w hSw; (try dsimp only at hSw); go_simp; try with_reducible rfl)
   try simp only [Act.put, List.setIfInBounds_toArray, List.set_cons_zero, List.set_cons_succ]
   refine' wpAnyH_take (i := 3) (oi := ⟨_, _, _, _, _, _⟩) rfl (by kernel_rfl) (by kernel_rfl) (by kernel_rfl) (fun _ _ _ h => h) (Or.inl ⟨by rfl, ?a35⟩) (by assumption) ?b35
   case a35 => (intro w hSw; (try dsimp only at hSw); go_simp; try with_reducible rfl)
   try simp only [Act.put, List.setIfInBounds_toArray, List.set_cons_zero, List.set_cons_succ]
   refine' wpAnyH_take (i := 4) (oi := ⟨_, _, _, _, _, _⟩) rfl (by kernel_rfl) (by kernel_rfl) (by kernel_rfl) (fun _ _ _ h => h) (Or.inl ⟨by rfl, ?a36⟩) (by assumption) ?b36
   case a36 => (intro w hSw; (try dsimp only at hSw); go_simp; try with_reducible rfl)
   try simp only [Act.put, List.setIfInBounds_toArray, List.set_cons_zero, List.set_cons_succ]
   refine' wpAnyH_take (i := 5) (oi := ⟨_, _, _, _, _, _⟩) rfl (by kernel_rfl) (by kernel_rfl) (by kernel_rfl) (fun _ _ _ h => h) (Or.inl ⟨by rfl, ?a37⟩) (by assumption) ?b37
   case a37 => (intro w hSw; (try dsimp only at hSw); go_simp; try with_reducible rfl)
   try simp only [Act.put, List.setIfInBounds_toArray, List.set_cons_zero, List.set_cons_succ]
   refine' wpAnyH_take (i := 6) (oi := ⟨_, _, _, _, _, _⟩) rfl (by kernel_rfl) (by kernel_rfl) (by kernel_rfl) (fun _ _ _ h => h) (Or.inl ⟨by rfl, ?a38⟩) (by assumption) ?b38
   case a38 => (intro w hSw; (try dsimp only at hSw); go_simp; try with_reducible rfl)
   try simp only [Act.put, List.setIfInBounds_toArray, List.set_cons_zero, List.set_cons_succ]
   refine wpAnyH_ready (rs := [7]) (by kernel_rfl) (by simp) ?_
   refine AllReadyH.cons (o := ⟨_, _, _, _, _, _⟩) rfl (fun K hK => ?_) AllReadyH.nil
   go_simp
   go_at_call 90
   refine (High_calls y x _ (by omega) (by omega)).mono ?_
   rintro e wA ⟨vA, rfl, hoA, hbA⟩
   have FA : From Bc Wc wA := hHeld.step hbA
   have OA := Lib.hid (own_below HO.out (below_seq (Below.refl _ wr).drew (Nat.le_refl _) hbA))
   obtain ⟨aA, cA, rfl, _, hrA⟩ := own_rd hoA
   have hnA := own_none hoA
   have HrA := Lib.hid hrA
   have HnA := Lib.hid hnA
   clear hoA hbA hrA hnA
   refine hK.out _ _ (FA) (fun hHeldN => ?_)
   clear hK K hHeld
   have hHeld := hHeldN
   clear hHeldN
   try simp only [Act.put, List.setIfInBounds_toArray, List.set_cons_zero, List.set_cons_succ]
   refine wpAnyH_ready (rs := [8]) (by kernel_rfl) (by simp) ?_
   refine AllReadyH.cons (o := ⟨_, _, _, _, _, _⟩) rfl (fun K hK => ?_) AllReadyH.nil
   refine step_appRd (by rfl) _ _ (by rfl) elB OA.out (by rfl) (by rfl) HrA.out HnA.out (by omega) FA.size ?_
   intro vB wBf hownB hgB
   obtain ⟨aBf, cBf, rfl⟩ := own_slice hownB
   have FBf : From Bc Wc wBf := FA.app OA.out hgB
   have OBf := Lib.hid hownB
   clear hgB hownB OA HrA HnA FA
   refine hK.out _ _ (FBf) (fun hHeldN => ?_)
   clear hK K hHeld
   have hHeld := hHeldN
   clear hHeldN
   try simp only [Act.put, List.setIfInBounds_toArray, List.set_cons_zero, List.set_cons_succ]
   refine' wpAnyH_take (i := 9) (oi := ⟨_, _, _, _, _, _⟩) rfl (by kernel_rfl) (by kernel_rfl) (by kernel_rfl) (fun _ _ _ h => h) (Or.inl ⟨by rfl, ?a39⟩) (by assumption) ?b39
   case a39 => (intro w hSw; (try dsimp only at hSw); go_simp; try with_reducible rfl)
   try simp only [Act.put, List.setIfInBounds_toArray, List.set_cons_zero, List.set_cons_succ]
   refine wpAnyH_done (by kernel_rfl) ?_ _
   refine NoPanic.normal ?_
   clear hHeld
   go_wp2
   go_ret
   have e7 : toksTo a b ts k ++ hiOf y x = toksS a b ts := by unfold toksS; rw [Hall.out, HBit.out]
   have h9 := OBf.out
   rw [e7] at h9
   have hl9 : nd + x = (toksS a b ts).length := by rw [← e7, List.length_append, ← Hnd.out, hiOf_length]
   exact ⟨_, rfl, by rw [← hl9]; exact own_mono h9 Hblk.out.2.2.2.2.2.2, HB4.out.trans (FBf.bel.mono Hblk.out.2.2.2.2.2.2)⟩
end Go.Proofs.YtdbkbeojedndbaaGreatDoor
