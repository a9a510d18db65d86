/-
  Texts joined into one file: RefO.
-/
import Derived.Test.YtdbkbeojedndbaaGreatDoorJRefCo28
import Derived.Test.YtdbkbeojedndbaaGreatDoorJRefCo15
import Derived.Test.YtdbkbeojedndbaaGreatDoorJRefCo6
import Derived.Deep.Cut
import Derived.Deep.CutRange
import Derived.Deep.CutBlock
import Derived.Deep.DeepCutAuto
namespace Go.Proofs.YtdbkbeojedndbaaGreatDoor
open Go.RowKit

structure RefSt (w wr : World) (n : Nat) (v : Value) (L : List HT) (cs : List Value) (out : List Int) : Prop where
 g : GRow wr (w.heap.size + 1) (w.heap.size + 1) v L cs
 o : wr.ownsRow w.heap.size 3 1 (.slice (some ⟨w.heap.size, 0, none⟩) n n) n (ints .i64 out)
 bel : Below w.heap.size w wr
theorem RefSt.big {w wr : World} {n : Nat} {v : Value} {L : List HT} {cs : List Value} {out : List Int} (H : RefSt w wr n v L cs out) : w.heap.size + 1 ≤ wr.heap.size := (H.o.lt _ rfl).2
theorem RefSt.apart {w wr : World} {n : Nat} {v : Value} {L : List HT} {cs : List Value} {out : List Int} (H : RefSt w wr n v L cs out) : Apart v.ownBlock (some w.heap.size) := fun k hk e => by
 cases e
 have := (H.g.own.lt _ hk).1
 omega
theorem Rd.new1 (w : World) (x : Int) : Rd (w.alloc (.cells #[.int .i64 x] 3)) .i64 (some ⟨w.heap.size, 0, none⟩) 1 [x] :=
 ⟨rfl, fun _ => ⟨_, _, rfl, fun j hj => by
  obtain rfl : j = 0 := by omega
  have := news_at w #[.int .i64 x] 3 0 _ rfl
  exact this⟩⟩
theorem RefSt.push {w wr w1 : World} {n g cap gs c : Nat} {v : Value} {L : List HT} {cs : List Value} {out : List Int} (H : RefSt w wr n v L cs out) (t : HT) (hgs : w.heap.size + 1 ≤ gs) (hc : t.syms.length ≤ c) (hR : Rd wr .i64 (some ⟨gs, 0, none⟩) t.syms.length (symI t)) (hne : v.ownBlock ≠ some gs) (hf : Fr wr w1 [v.ownBlock])
  (hown : w1.ownsRow (w.heap.size + 1) 171 2 (.slice (some ⟨g, 0, none⟩) (L.length + 1) cap) (L.length + 1) (cs ++ [.int .i64 t.wt, .slice (some ⟨gs, 0, none⟩) t.syms.length c])) (hat : v.ownBlock = some g ∨ wr.heap.size ≤ g) :
  RefSt w w1 n (.slice (some ⟨g, 0, none⟩) (L.length + 1) cap) (L ++ [t]) (cs ++ [.int .i64 t.wt, .slice (some ⟨gs, 0, none⟩) t.syms.length c]) out :=
 ⟨H.g.push t hgs hc hR hne hf hown hat, own_fr H.o hf (fun o ho => by simp at ho; subst ho; exact H.apart.symm), H.bel.trans (hf.below H.bel.size (fun o ho j e => by
  simp at ho
  subst ho
  have := (H.g.own.lt _ e).1
  omega))⟩
theorem RefSt.alloc {w wr : World} {n : Nat} {v : Value} {L : List HT} {cs : List Value} {out : List Int} (H : RefSt w wr n v L cs out) (o : Obj) : RefSt w (wr.alloc o) n v L cs out :=
 ⟨H.g.below ((Below.refl _ _).alloc (Nat.le_refl _) _), H.o.alloc _, H.bel.alloc H.bel.size _⟩
theorem RefSt.drew {w wr : World} {n : Nat} {v : Value} {L : List HT} {cs : List Value} {out : List Int} (H : RefSt w wr n v L cs out) : RefSt w wr.drew n v L cs out :=
 ⟨H.g.below (Below.refl _ _).drew, H.o, H.bel.drew⟩
theorem RefSt.later {w wr w1 : World} {n : Nat} {v : Value} {L : List HT} {cs : List Value} {out : List Int} (H : RefSt w wr n v L cs out) (hb : Below wr.heap.size wr w1) : RefSt w w1 n v L cs out :=
 ⟨H.g.below hb, own_below H.o hb, below_seq H.bel (Nat.le_refl _) hb⟩
theorem rd_news {w : World} {g n : Nat} {xs : List Int} (h : Rd w .i64 (some ⟨g, 0, none⟩) n xs) : ∀ j u, (ints .i64 xs)[j]? = some u → w.cell? ((⟨g, 0, none⟩ : Addr).add j) = some u := fun j u hu => by
 have hj : j < xs.length := by
  have := (List.getElem?_eq_some_iff.1 hu).1
  rwa [ints_length] at this
 obtain ⟨b, o, e, hc⟩ := h.2 (by rw [← h.1]; omega)
 cases e
 rw [ints_get hj] at hu
 cases hu
 rw [addr_add]
 exact hc j (by rw [← h.1]; exact hj)
theorem Later.grown {W0 W W' : World} {o : Option Nat} (h : Later W0 W) (hg : W.grownBy W' o) (ho : ∀ k, o = some k → W0.heap.size ≤ k) : Later W0 W' := ⟨h.bel.grown hg h.bel.size ho⟩
theorem Fr.cell {w w' : World} {S : List (Option Nat)} (h : Fr w w' S) {a : Addr} {v : Value} (hc : w.cell? a = some v) (ha : ∀ o ∈ S, o ≠ some a.block) : w'.cell? a = some v :=
 (World.cell?_of_block (h.block _ (World.block_lt_of_cell? _ _ hc) ha)).trans hc
theorem GRow.mono {w : World} {Bv Bv' B1 : Nat} {v : Value} {L : List HT} {cs : List Value} (h : GRow w Bv B1 v L cs) (hb : Bv' ≤ Bv) : GRow w Bv' B1 v L cs := ⟨own_mono h.own hb, h.each⟩
theorem RefSt.set {w wr : World} {n : Nat} {v : Value} {L : List HT} {cs : List Value} {out : List Int} (H : RefSt w wr n v L cs out) (s : Nat) (x : Int) : RefSt w (wr.setCell ⟨w.heap.size, s, none⟩ (.int .i64 x)) n v L cs (out.set s x) :=
 ⟨H.g.fr ((Fr.refl wr [some w.heap.size]).set _ _ (.inl (by simp))) (Nat.lt_succ_self _) H.apart, by rw [ints_set]; exact own_store H.o s _, H.bel.setCell (Nat.le_refl _) _⟩
theorem RefSt.outLen {w wr : World} {n : Nat} {v : Value} {L : List HT} {cs : List Value} {out : List Int} (H : RefSt w wr n v L cs out) : out.length = n := by
 have := H.o.1
 rw [ints_length] at this
 omega
theorem sym_two (a b : HT) : symI a ++ symI b = symI (.node a b) := by simp [symI, HT.syms]
theorem rd_symI {t : HT} {i : Nat} (h : i < t.syms.length) : rd (symI t) i = ((t.syms[i] : Nat) : Int) := by
 rw [rd_getElem (by rw [symI_length]; exact h)]
 simp [symI]
theorem restTo_fin {L : List HT} {a q : Nat} (ha : a < L.length) (hq : q < L.length) (hqa : q ≠ a) : (restTo L a q L.length).length + 2 = L.length := by
 rw [restTo_all ha hq hqa, List.length_eraseIdx_of_lt (by rw [List.length_eraseIdx_of_lt ha]; split <;> omega), List.length_eraseIdx_of_lt ha]
 omega
theorem ints_cells (k : IntKind) (l : List Int) : ∀ u ∈ ints k l, u.oneCell' = true := fun u hu => by
 obtain ⟨x, _, rfl⟩ := List.mem_map.1 hu
 rfl
def rowLen : Value → Nat
 | .slice _ n _ => n
 | _ => 0
set_option maxHeartbeats 4000000 in
set_option maxRecDepth 200000 in
theorem refOnce_calls (A : Option Addr) (n cap : Nat) (ws : List Int) (w : World) (hR : Rd w .i64 A n ws) (hn : n ≤ 100000) (hw : ∀ x ∈ ws, 0 ≤ x) (hsum : ws.sum ≤ 4611686018427387904) :
  Calls Tryz.prog 92 #[.slice A n cap] w fun e w' => ∃ v, e = .returned v ∧ w'.ownsRow w.heap.size 3 1 v n (ints .i64 (onceM ws)) ∧ Below w.heap.size w w' := by
 have HR := Lib.hid hR
 have hlen := Lib.hid hR.1
 have Hw := Lib.hid hw
 clear hR hw
 go_enter Tryz.func92, Tryz.ntmps92
 go_wp2_with (at_make; refine wpList_mk1 (base := w.heap.size) (n := n) _ rfl _ _ rfl elIntN rfl rfl rfl rfl (by omega) (Nat.le_refl _) ?_; intro w4 hown4 hb4 hsz4)
 have Hown4 := Lib.hid hown4
 have Hb4 := Lib.hid hb4
 clear hown4 hb4
 go_loopw [4, 5] (fun v i wr => ∃ (k : Nat) (cs : List Value), k ≤ n ∧ i = .int .i64 k ∧ Hid (RefSt w wr n v (leavesTo ws k) cs (List.replicate n 0))) (fun _ i _ => n - (intOf i).toNat)
 case atStart => exact ⟨0, [], by omega, rfl, GRow.nil _ _ _, Hown4.out, Hb4.out⟩
 case round =>
  obtain ⟨k, cs, hk, rfl, HS⟩ := hrel
  have hll : (leavesTo ws k).length ≤ k := by rw [leavesTo_length]; exact posTo_le ws k
  by_cases hlt : k < n
  ·obtain ⟨b, o, rfl, hcx⟩ := HR.out.2 (by omega)
   have z := kept_cell HS.out.bel (hcx k hlt)
   clear hcx
   by_cases hx : 0 < rd ws k
   ·have hbig := HS.out.big
    have hne := HS.out.g.own
    obtain ⟨A1, p1, rfl⟩ := own_slice HS.out.g.own
    clear hne
    go_wp2_with (at_builtin; refine wpList_app3 rfl _ _ rfl elGrp (HS.out.g.own.alloc _) rfl rfl (by simp) rfl rfl (by omega) (by simp; omega) ?_; intro g cap w1 hown1 hfr hat hlt)
    go_roundw
    case rel =>
     have h9 := (HS.out.alloc (.cells #[.int .i64 k] 3)).push (.leaf (rd ws k) k) (gs := wr.heap.size) (c := 1) hbig (Nat.le_refl _) (Rd.new1 wr k) (fun e => by have := (HS.out.g.own.lt _ e).2; omega) hfr hown1 hat
     rw [← leavesTo_hit hx] at h9
     exact ⟨k + 1, _, by omega, by go_num, h9⟩
    case measure => simp [intOf]; omega
   ·go_wp2
    go_roundw
    case rel => exact ⟨k + 1, cs, by omega, by go_num, by rw [leavesTo_miss hx]; exact HS.out⟩
    case measure => simp [intOf]; omega
  ·obtain rfl : k = n := by omega
   have hb := HS.out.big
   obtain ⟨L, hL⟩ : ∃ L, L = leavesTo ws k := ⟨_, rfl⟩
   have hLo : L = leavesOf ws := by rw [hL]; unfold leavesOf; rw [hlen.out]
   rw [← hL] at HS hll
   have HLo := Lib.hid hLo
   clear hL hLo
   have own := HS.out.g.own
   by_cases h1 : L.length = 1
   ·obtain ⟨s0, hs0, e0⟩ := leaf_one (ws := ws) (by rw [← HLo.out]; exact h1)
    have E0 := Lib.hid e0
    have hs0 : s0 < k := by have := hlen.out; omega
    have hLe : L = [HT.leaf (rd ws s0) s0] := HLo.out.trans e0
    obtain ⟨gl, c, rfl, hg1, hg2, hg3, hat⟩ := HS.out.g.at' (by omega)
    obtain ⟨x0, gs, cc, x1, q1, q2, q3, q4⟩ := hat 0 (by omega)
    have hg : L.getD 0 default = .leaf (rd ws s0) s0 := by rw [hLe]; rfl
    rw [hg] at x1 q4
    obtain ⟨b, o, e, hc⟩ := q4.2 (by simp [HT.syms])
    cases e
    have x2 := hc 0 (by simp [HT.syms])
    simp [HT.syms, symI, rd] at x1 x2
    have oc := HS.out.o.cellAt s0 (by omega)
    rw [ints_get (by simp; exact hs0)] at oc
    have of' := HS.out.o.frozenAt s0
    clear hat hc q1 q2 q3 q4 x0 hg own e0 hLe
    rw [h1] at HS hg3 ⊢
    go_wp2
    have hst := own_store HS.out.o s0 (.int .i64 1)
    rw [← ints_set] at hst
    have hbe : Below w.heap.size w (wr.setCell ⟨w.heap.size, s0, none⟩ (.int .i64 1)) := HS.out.bel.setCell (Nat.le_refl _) _
    have Hst := Lib.hid hst
    have Hbe := Lib.hid hbe
    clear hst hbe
    go_loopw [4] (fun v wy => v = .slice (some ⟨gl, 0, none⟩) 1 c ∧ wy = wr.setCell ⟨w.heap.size, s0, none⟩ (.int .i64 1)) (fun _ _ => 0)
    case atStart => exact ⟨rfl, rfl⟩
    case round =>
     obtain ⟨rfl, rfl⟩ := hrel
     go_wp2
     go_ret
     refine ⟨_, rfl, ?_, Hbe.out⟩
     have h9 := (RInv.oneLeaf Hw.out hsum (by rw [hlen.out]; exact hs0) E0.out).fin (by rw [E0.out]; exact Nat.le_refl _)
     rw [hlen.out] at h9
     rw [← h9]
     exact Hst.out
   ·obtain ⟨A1, p1, rfl⟩ := own_slice own
    clear own
    go_wp2
    rename ((L.length : Int) == 1) = false => hcc
    clear hcc
    go_loopw [4] (fun v wr => ∃ (L : List HT) (cs : List Value) (out : List Int), Hid (RefSt w wr k v L cs out) ∧ Hid (RInv ws L out)) (fun v _ => rowLen v)
    case atStart => exact ⟨L, cs, _, HS.out, by rw [HLo.out, ← hlen.out]; exact RInv.start Hw.out hsum (by rw [← HLo.out]; exact h1)⟩
    case round =>
     clear HS
     obtain ⟨wr0, hwr0⟩ : ∃ W, W = wr := ⟨_, rfl⟩
     subst hwr0
     obtain ⟨L, cs, out, HS, HI⟩ := hrel
     have hLn : L.length ≤ k := by have := HI.out.len; rw [hlen.out] at this; exact this
     by_cases h2 : L.length ≤ 1
     ·obtain ⟨A2, p2, rfl⟩ := own_slice HS.out.g.own
      go_wp2
      go_ret
      refine ⟨_, rfl, ?_, HS.out.bel⟩
      rw [← HI.out.fin h2]
      exact HS.out.o
     ·obtain ⟨gl, c, rfl, hg1, hg2, hg3, hat⟩ := HS.out.g.at' (by omega)
      have Hat := Lib.hid hat
      clear hat
      go_wp2
      go_loopw [6, 7] (fun a i wy => ∃ p j : Nat, j ≤ L.length ∧ p < L.length ∧ a = .int .i64 p ∧ i = .int .i64 j ∧ Hid (∀ t, t < j → wtAt L p ≤ wtAt L t) ∧ Hid (∀ t, t < p → wtAt L p < wtAt L t) ∧ Hid (Below wr0.heap.size wr0 wy)) (fun _ i _ => L.length - (intOf i).toNat)
      case atStart => exact ⟨0, 0, by omega, by omega, rfl, rfl, fun t ht => by omega, fun t ht => by omega, Below.refl _ _⟩
      case round =>
       obtain ⟨p, j, hj, hp, rfl, rfl, Hp1, Hp2, Hy⟩ := hrel
       by_cases hlt2 : j < L.length
       ·have x := kept_cell Hy.out (Hat.out p hp).1
        have y := kept_cell Hy.out (Hat.out j hlt2).1
        rcases Int.lt_or_le (wtAt L j) (wtAt L p) with hx | hx
        all_goals
         go_wp2
         go_region_held3 (fun W => W.cell? ⟨gl, p * 2, none⟩ = some (.int .i64 (wtAt L p)) ∧ W.cell? ⟨gl, j * 2, none⟩ = some (.int .i64 (wtAt L j))) (exact ⟨x, y⟩) (fail)
         rename_i hh
         obtain ⟨x2, y2⟩ := hh
         go_wp2
         go_roundw
         case measure => simp [intOf]; omega
        case rel =>
         refine ⟨j, j + 1, by omega, hlt2, rfl, by go_num, fun t ht => ?_, fun t ht => ?_, Hy.out.drew⟩
         ·by_cases e : t = j
          ·rw [e]; exact Int.le_refl _
          ·have := Hp1.out t (by omega); omega
         ·have := Hp1.out t ht; omega
        case rel =>
         refine ⟨p, j + 1, by omega, hp, rfl, by go_num, fun t ht => ?_, Hp2.out, Hy.out.drew⟩
         by_cases e : t = j
         ·rw [e]; exact hx
         ·exact Hp1.out t (by omega)
       ·obtain rfl : j = L.length := by omega
        clear hj hlt2
        have hpk : p < k := by omega
        go_wp2
        go_loopw [8, 9] (fun b i wz => ∃ (j : Nat) (bv : Int), j ≤ L.length ∧ b = .int .i64 bv ∧ i = .int .i64 j ∧ Hid ((bv = -1 ∧ ∀ t, t < j → t = p) ∨ (∃ q : Nat, bv = q ∧ q < L.length ∧ q ≠ p ∧ (∀ t, t < j → t ≠ p → wtAt L q ≤ wtAt L t) ∧ ∀ t, t < q → t ≠ p → wtAt L q < wtAt L t)) ∧ Hid (Below wr0.heap.size wr0 wz)) (fun _ i _ => L.length - (intOf i).toNat)
        case atStart => exact ⟨0, -1, by omega, rfl, rfl, .inl ⟨rfl, fun t ht => by omega⟩, Hy.out⟩
        case round =>
         obtain ⟨j, bv, hj, rfl, rfl, Hq, Hz⟩ := hrel
         by_cases hlt2 : j < L.length
         ·have y := kept_cell Hz.out (Hat.out j hlt2).1
          by_cases hjp : j = p
          ·have d1 : ((j : Int) == (p : Int)) = true := by simp [hjp]
           have HqI : Hid (((bv : Int) = -1 ∧ ∀ t, t < j + 1 → t = p) ∨ (∃ q' : Nat, (bv : Int) = q' ∧ q' < L.length ∧ q' ≠ p ∧ (∀ t, t < j + 1 → t ≠ p → wtAt L q' ≤ wtAt L t) ∧ ∀ t, t < q' → t ≠ p → wtAt L q' < wtAt L t)) := by
            rcases Hq.out with ⟨e, h0⟩ | ⟨q, e, hq1, hq2, hq3, hq4⟩
            ·exact .inl ⟨e, fun t ht => by
              by_cases g : t = j
              ·omega
              ·exact h0 t (by omega)⟩
            ·exact .inr ⟨q, e, hq1, hq2, fun t ht g => hq3 t (by omega) g, hq4⟩
           clear Hq
           go_wp2
           refine wp_region_noPanic ?_
           refine wp_region_held_drew (S := fun W => W.cell? ⟨gl, j * 2, none⟩ = some (.int .i64 (wtAt L j))) (by kernel_rfl) (y) (fun hHeld => ?_)
           refine' wpAnyH_take (i := 0) (oi := ⟨_, _, _, _, _, _⟩) rfl (by kernel_rfl) (by kernel_rfl) (by kernel_rfl) (fun _ _ _ h => h) (Or.inl ⟨by rfl, ?a0⟩) (by assumption) ?b0
           case a0 => (intro w hSw; (try dsimp only at hSw); go_simp; try with_reducible rfl)
           try simp only [Act.put, List.setIfInBounds_toArray, List.set_cons_zero, List.set_cons_succ]
           refine' wpAnyH_take (i := 1) (oi := ⟨_, _, _, _, _, _⟩) rfl (by kernel_rfl) (by kernel_rfl) (by kernel_rfl) (fun _ _ _ h => h) (Or.inl ⟨by rfl, ?a1⟩) (by assumption) ?b1
           case a1 => (intro w hSw; (try dsimp only at hSw); go_simp; try with_reducible rfl)
           try simp only [Act.put, List.setIfInBounds_toArray, List.set_cons_zero, List.set_cons_succ]
           refine' wpAnyH_take (i := 2) (oi := ⟨_, _, _, _, _, _⟩) rfl (by kernel_rfl) (by kernel_rfl) (by kernel_rfl) (fun _ _ _ h => h) (Or.inl ⟨by rfl, ?a2⟩) (by assumption) ?b2
           case a2 => (intro w hSw; (try dsimp only at hSw); go_simp; try with_reducible rfl)
           try simp only [Act.put, List.setIfInBounds_toArray, List.set_cons_zero, List.set_cons_succ]
           refine' wpAnyH_take (i := 3) (oi := ⟨_, _, _, _, _, _⟩) rfl (by kernel_rfl) (by kernel_rfl) (by kernel_rfl) (fun _ _ _ h => h) (Or.inl ⟨by rfl, ?a3⟩) (by assumption) ?b3
           case a3 => (intro w hSw; (try dsimp only at hSw); go_simp; try with_reducible rfl)
           try simp only [Act.put, List.setIfInBounds_toArray, List.set_cons_zero, List.set_cons_succ]
           refine' wpAnyH_take (i := 4) (oi := ⟨_, _, _, _, _, _⟩) (v := undef) rfl (by kernel_rfl) (by kernel_rfl) (by kernel_rfl) (fun _ _ _ h => h) (Or.inr ⟨by rfl, rfl⟩) (by assumption) ?_
           try simp only [Act.put, List.setIfInBounds_toArray, List.set_cons_zero, List.set_cons_succ]
           refine' wpAnyH_take (i := 5) (oi := ⟨_, _, _, _, _, _⟩) (v := undef) rfl (by kernel_rfl) (by kernel_rfl) (by kernel_rfl) (fun _ _ _ h => h) (Or.inr ⟨by rfl, rfl⟩) (by assumption) ?_
           try simp only [Act.put, List.setIfInBounds_toArray, List.set_cons_zero, List.set_cons_succ]
           refine' wpAnyH_take (i := 6) (oi := ⟨_, _, _, _, _, _⟩) (v := undef) rfl (by kernel_rfl) (by kernel_rfl) (by kernel_rfl) (fun _ _ _ h => h) (Or.inr ⟨by rfl, rfl⟩) (by assumption) ?_
           try simp only [Act.put, List.setIfInBounds_toArray, List.set_cons_zero, List.set_cons_succ]
           refine' wpAnyH_take (i := 7) (oi := ⟨_, _, _, _, _, _⟩) (v := undef) rfl (by kernel_rfl) (by kernel_rfl) (by kernel_rfl) (fun _ _ _ h => h) (Or.inr ⟨by rfl, rfl⟩) (by assumption) ?_
           try simp only [Act.put, List.setIfInBounds_toArray, List.set_cons_zero, List.set_cons_succ]
           refine' wpAnyH_take (i := 8) (oi := ⟨_, _, _, _, _, _⟩) (v := undef) rfl (by kernel_rfl) (by kernel_rfl) (by kernel_rfl) (fun _ _ _ h => h) (Or.inr ⟨by rfl, rfl⟩) (by assumption) ?_
           try simp only [Act.put, List.setIfInBounds_toArray, List.set_cons_zero, List.set_cons_succ]
           refine' wpAnyH_take (i := 9) (oi := ⟨_, _, _, _, _, _⟩) (v := undef) rfl (by kernel_rfl) (by kernel_rfl) (by kernel_rfl) (fun _ _ _ h => h) (Or.inr ⟨by rfl, rfl⟩) (by assumption) ?_
           try simp only [Act.put, List.setIfInBounds_toArray, List.set_cons_zero, List.set_cons_succ]
           refine' wpAnyH_take (i := 10) (oi := ⟨_, _, _, _, _, _⟩) (v := undef) rfl (by kernel_rfl) (by kernel_rfl) (by kernel_rfl) (fun _ _ _ h => h) (Or.inr ⟨by rfl, rfl⟩) (by assumption) ?_
           try simp only [Act.put, List.setIfInBounds_toArray, List.set_cons_zero, List.set_cons_succ]
           refine' wpAnyH_take (i := 11) (oi := ⟨_, _, _, _, _, _⟩) (v := undef) rfl (by kernel_rfl) (by kernel_rfl) (by kernel_rfl) (fun _ _ _ h => h) (Or.inr ⟨by rfl, rfl⟩) (by assumption) ?_
           try simp only [Act.put, List.setIfInBounds_toArray, List.set_cons_zero, List.set_cons_succ]
           refine' wpAnyH_take (i := 12) (oi := ⟨_, _, _, _, _, _⟩) (v := undef) rfl (by kernel_rfl) (by kernel_rfl) (by kernel_rfl) (fun _ _ _ h => h) (Or.inr ⟨by rfl, rfl⟩) (by assumption) ?_
           try simp only [Act.put, List.setIfInBounds_toArray, List.set_cons_zero, List.set_cons_succ]
           refine' wpAnyH_take (i := 13) (oi := ⟨_, _, _, _, _, _⟩) (v := undef) rfl (by kernel_rfl) (by kernel_rfl) (by kernel_rfl) (fun _ _ _ h => h) (Or.inr ⟨by rfl, rfl⟩) (by assumption) ?_
           try simp only [Act.put, List.setIfInBounds_toArray, List.set_cons_zero, List.set_cons_succ]
           refine' wpAnyH_take (i := 14) (oi := ⟨_, _, _, _, _, _⟩) (v := undef) rfl (by kernel_rfl) (by kernel_rfl) (by kernel_rfl) (fun _ _ _ h => h) (Or.inr ⟨by rfl, rfl⟩) (by assumption) ?_
           try simp only [Act.put, List.setIfInBounds_toArray, List.set_cons_zero, List.set_cons_succ]
           refine' wpAnyH_take (i := 15) (oi := ⟨_, _, _, _, _, _⟩) (v := undef) rfl (by kernel_rfl) (by kernel_rfl) (by kernel_rfl) (fun _ _ _ h => h) (Or.inr ⟨by rfl, rfl⟩) (by assumption) ?_
           try simp only [Act.put, List.setIfInBounds_toArray, List.set_cons_zero, List.set_cons_succ]
           refine' wpAnyH_take (i := 16) (oi := ⟨_, _, _, _, _, _⟩) (v := undef) rfl (by kernel_rfl) (by kernel_rfl) (by kernel_rfl) (fun _ _ _ h => h) (Or.inr ⟨by rfl, rfl⟩) (by assumption) ?_
           try simp only [Act.put, List.setIfInBounds_toArray, List.set_cons_zero, List.set_cons_succ]
           refine' wpAnyH_take (i := 17) (oi := ⟨_, _, _, _, _, _⟩) (v := undef) rfl (by kernel_rfl) (by kernel_rfl) (by kernel_rfl) (fun _ _ _ h => h) (Or.inr ⟨by rfl, rfl⟩) (by assumption) ?_
           try simp only [Act.put, List.setIfInBounds_toArray, List.set_cons_zero, List.set_cons_succ]
           refine' wpAnyH_take (i := 18) (oi := ⟨_, _, _, _, _, _⟩) (v := undef) rfl (by kernel_rfl) (by kernel_rfl) (by kernel_rfl) (fun _ _ _ h => h) (Or.inr ⟨by rfl, rfl⟩) (by assumption) ?_
           try simp only [Act.put, List.setIfInBounds_toArray, List.set_cons_zero, List.set_cons_succ]
           refine' wpAnyH_take (i := 19) (oi := ⟨_, _, _, _, _, _⟩) rfl (by kernel_rfl) (by kernel_rfl) (by kernel_rfl) (fun _ _ _ h => h) (Or.inl ⟨by rfl, ?a4⟩) (by assumption) ?b4
           case a4 => (intro w hSw; (try dsimp only at hSw); go_simp; try with_reducible rfl)
           try simp only [Act.put, List.setIfInBounds_toArray, List.set_cons_zero, List.set_cons_succ]
           refine wpAnyH_done (by kernel_rfl) ?_ _
           refine NoPanic.normal ?_
           go_wp2
           go_roundw
           case rel => exact ⟨j + 1, _, by omega, rfl, by go_num, HqI.out, Hz.out.drew⟩
           case measure => simp [intOf]; omega
          ·have d1 : ((j : Int) == (p : Int)) = false := beq_eq_false_iff_ne.2 (by omega)
           have d1b : ((j : Int) != (p : Int)) = true := by simp [bne, d1]
           have d1c : decide ((j : Int) = (p : Int)) = false := decide_eq_false (by omega)
           have d1d : (j == p) = false := beq_eq_false_iff_ne.2 hjp
           have d1e : decide (j = p) = false := decide_eq_false hjp
           rcases Hq.out with ⟨rfl, hq0⟩ | ⟨q, rfl, hq1, hq2, hq3, hq4⟩
           ·have HqI : Hid ((((j : Nat) : Int) = -1 ∧ ∀ t, t < j + 1 → t = p) ∨ (∃ q' : Nat, ((j : Nat) : Int) = q' ∧ q' < L.length ∧ q' ≠ p ∧ (∀ t, t < j + 1 → t ≠ p → wtAt L q' ≤ wtAt L t) ∧ ∀ t, t < q' → t ≠ p → wtAt L q' < wtAt L t)) := .inr ⟨j, rfl, hlt2, hjp, fun t ht g => by
             by_cases e : t = j
             ·rw [e]; exact Int.le_refl _
             ·exact absurd (hq0 t (by omega)) g, fun t ht g => absurd (hq0 t ht) g⟩
            clear Hq hq0
            go_wp2
            refine wp_region_noPanic ?_
            refine wp_region_held_drew (S := fun W => W.cell? ⟨gl, j * 2, none⟩ = some (.int .i64 (wtAt L j))) (by kernel_rfl) (y) (fun hHeld => ?_)
            refine' wpAnyH_take (i := 0) (oi := ⟨_, _, _, _, _, _⟩) rfl (by kernel_rfl) (by kernel_rfl) (by kernel_rfl) (fun _ _ _ h => h) (Or.inl ⟨by rfl, ?a5⟩) (by assumption) ?b5
            case a5 => (intro w hSw; (try dsimp only at hSw); go_simp; try with_reducible rfl)
            try simp only [Act.put, List.setIfInBounds_toArray, List.set_cons_zero, List.set_cons_succ]
            refine' wpAnyH_take (i := 1) (oi := ⟨_, _, _, _, _, _⟩) rfl (by kernel_rfl) (by kernel_rfl) (by kernel_rfl) (fun _ _ _ h => h) (Or.inl ⟨by rfl, ?a6⟩) (by assumption) ?b6
            case a6 => (intro w hSw; (try dsimp only at hSw); go_simp; try with_reducible rfl)
            try simp only [Act.put, List.setIfInBounds_toArray, List.set_cons_zero, List.set_cons_succ]
            refine' wpAnyH_take (i := 2) (oi := ⟨_, _, _, _, _, _⟩) rfl (by kernel_rfl) (by kernel_rfl) (by kernel_rfl) (fun _ _ _ h => h) (Or.inl ⟨by rfl, ?a7⟩) (by assumption) ?b7
            case a7 => (intro w hSw; (try dsimp only at hSw); go_simp; try with_reducible rfl)
            try simp only [Act.put, List.setIfInBounds_toArray, List.set_cons_zero, List.set_cons_succ]
            refine' wpAnyH_take (i := 3) (oi := ⟨_, _, _, _, _, _⟩) rfl (by kernel_rfl) (by kernel_rfl) (by kernel_rfl) (fun _ _ _ h => h) (Or.inl ⟨by rfl, ?a8⟩) (by assumption) ?b8
            case a8 => (intro w hSw; (try dsimp only at hSw); go_simp; try with_reducible rfl)
            try simp only [Act.put, List.setIfInBounds_toArray, List.set_cons_zero, List.set_cons_succ]
            refine' wpAnyH_take (i := 4) (oi := ⟨_, _, _, _, _, _⟩) rfl (by kernel_rfl) (by kernel_rfl) (by kernel_rfl) (fun _ _ _ h => h) (Or.inl ⟨by rfl, ?a9⟩) (by assumption) ?b9
            case a9 => (intro w hSw; (try dsimp only at hSw); go_simp; try with_reducible rfl)
            try simp only [Act.put, List.setIfInBounds_toArray, List.set_cons_zero, List.set_cons_succ]
            refine' wpAnyH_take (i := 5) (oi := ⟨_, _, _, _, _, _⟩) rfl (by kernel_rfl) (by kernel_rfl) (by kernel_rfl) (fun _ _ _ h => h) (Or.inl ⟨by rfl, ?a10⟩) (by assumption) ?b10
            case a10 => (intro w hSw; (try dsimp only at hSw); go_simp; try with_reducible rfl)
            try simp only [Act.put, List.setIfInBounds_toArray, List.set_cons_zero, List.set_cons_succ]
            refine' wpAnyH_take (i := 6) (oi := ⟨_, _, _, _, _, _⟩) rfl (by kernel_rfl) (by kernel_rfl) (by kernel_rfl) (fun _ _ _ h => h) (Or.inl ⟨by rfl, ?a11⟩) (by assumption) ?b11
            case a11 => (intro w hSw; (try dsimp only at hSw); go_simp; try with_reducible rfl)
            try simp only [Act.put, List.setIfInBounds_toArray, List.set_cons_zero, List.set_cons_succ]
            refine' wpAnyH_take (i := 7) (oi := ⟨_, _, _, _, _, _⟩) (v := undef) rfl (by kernel_rfl) (by kernel_rfl) (by kernel_rfl) (fun _ _ _ h => h) (Or.inr ⟨by rfl, rfl⟩) (by assumption) ?_
            try simp only [Act.put, List.setIfInBounds_toArray, List.set_cons_zero, List.set_cons_succ]
            refine' wpAnyH_take (i := 8) (oi := ⟨_, _, _, _, _, _⟩) (v := undef) rfl (by kernel_rfl) (by kernel_rfl) (by kernel_rfl) (fun _ _ _ h => h) (Or.inr ⟨by rfl, rfl⟩) (by assumption) ?_
            try simp only [Act.put, List.setIfInBounds_toArray, List.set_cons_zero, List.set_cons_succ]
            refine' wpAnyH_take (i := 9) (oi := ⟨_, _, _, _, _, _⟩) (v := undef) rfl (by kernel_rfl) (by kernel_rfl) (by kernel_rfl) (fun _ _ _ h => h) (Or.inr ⟨by rfl, rfl⟩) (by assumption) ?_
            try simp only [Act.put, List.setIfInBounds_toArray, List.set_cons_zero, List.set_cons_succ]
            refine' wpAnyH_take (i := 10) (oi := ⟨_, _, _, _, _, _⟩) (v := undef) rfl (by kernel_rfl) (by kernel_rfl) (by kernel_rfl) (fun _ _ _ h => h) (Or.inr ⟨by rfl, rfl⟩) (by assumption) ?_
            try simp only [Act.put, List.setIfInBounds_toArray, List.set_cons_zero, List.set_cons_succ]
            refine' wpAnyH_take (i := 11) (oi := ⟨_, _, _, _, _, _⟩) (v := undef) rfl (by kernel_rfl) (by kernel_rfl) (by kernel_rfl) (fun _ _ _ h => h) (Or.inr ⟨by rfl, rfl⟩) (by assumption) ?_
            try simp only [Act.put, List.setIfInBounds_toArray, List.set_cons_zero, List.set_cons_succ]
            refine' wpAnyH_take (i := 12) (oi := ⟨_, _, _, _, _, _⟩) (v := undef) rfl (by kernel_rfl) (by kernel_rfl) (by kernel_rfl) (fun _ _ _ h => h) (Or.inr ⟨by rfl, rfl⟩) (by assumption) ?_
            try simp only [Act.put, List.setIfInBounds_toArray, List.set_cons_zero, List.set_cons_succ]
            refine' wpAnyH_take (i := 13) (oi := ⟨_, _, _, _, _, _⟩) (v := undef) rfl (by kernel_rfl) (by kernel_rfl) (by kernel_rfl) (fun _ _ _ h => h) (Or.inr ⟨by rfl, rfl⟩) (by assumption) ?_
            try simp only [Act.put, List.setIfInBounds_toArray, List.set_cons_zero, List.set_cons_succ]
            refine' wpAnyH_take (i := 14) (oi := ⟨_, _, _, _, _, _⟩) (v := undef) rfl (by kernel_rfl) (by kernel_rfl) (by kernel_rfl) (fun _ _ _ h => h) (Or.inr ⟨by rfl, rfl⟩) (by assumption) ?_
            try simp only [Act.put, List.setIfInBounds_toArray, List.set_cons_zero, List.set_cons_succ]
            refine' wpAnyH_take (i := 15) (oi := ⟨_, _, _, _, _, _⟩) (v := undef) rfl (by kernel_rfl) (by kernel_rfl) (by kernel_rfl) (fun _ _ _ h => h) (Or.inr ⟨by rfl, rfl⟩) (by assumption) ?_
            try simp only [Act.put, List.setIfInBounds_toArray, List.set_cons_zero, List.set_cons_succ]
            refine' wpAnyH_take (i := 16) (oi := ⟨_, _, _, _, _, _⟩) (v := undef) rfl (by kernel_rfl) (by kernel_rfl) (by kernel_rfl) (fun _ _ _ h => h) (Or.inr ⟨by rfl, rfl⟩) (by assumption) ?_
            try simp only [Act.put, List.setIfInBounds_toArray, List.set_cons_zero, List.set_cons_succ]
            refine' wpAnyH_take (i := 17) (oi := ⟨_, _, _, _, _, _⟩) (v := undef) rfl (by kernel_rfl) (by kernel_rfl) (by kernel_rfl) (fun _ _ _ h => h) (Or.inr ⟨by rfl, rfl⟩) (by assumption) ?_
            try simp only [Act.put, List.setIfInBounds_toArray, List.set_cons_zero, List.set_cons_succ]
            refine' wpAnyH_take (i := 18) (oi := ⟨_, _, _, _, _, _⟩) rfl (by kernel_rfl) (by kernel_rfl) (by kernel_rfl) (fun _ _ _ h => h) (Or.inl ⟨by rfl, ?a12⟩) (by assumption) ?b12
            case a12 => (intro w hSw; (try dsimp only at hSw); go_simp; try with_reducible rfl)
            try simp only [Act.put, List.setIfInBounds_toArray, List.set_cons_zero, List.set_cons_succ]
            refine' wpAnyH_take (i := 19) (oi := ⟨_, _, _, _, _, _⟩) rfl (by kernel_rfl) (by kernel_rfl) (by kernel_rfl) (fun _ _ _ h => h) (Or.inl ⟨by rfl, ?a13⟩) (by assumption) ?b13
            case a13 => (intro w hSw; (try dsimp only at hSw); go_simp; try with_reducible rfl)
            try simp only [Act.put, List.setIfInBounds_toArray, List.set_cons_zero, List.set_cons_succ]
            refine wpAnyH_done (by kernel_rfl) ?_ _
            refine NoPanic.normal ?_
            go_wp2
            go_roundw
            case rel => exact ⟨j + 1, _, by omega, rfl, by go_num, HqI.out, Hz.out.drew⟩
            case measure => simp [intOf]; omega
           ·have x := kept_cell Hz.out (Hat.out q hq1).1
            have d2 : decide ((q : Int) < 0) = false := decide_eq_false (by omega)
            rcases Int.lt_or_le (wtAt L j) (wtAt L q) with hx | hx
            ·have d3 : decide (wtAt L j < wtAt L q) = true := decide_eq_true hx
             have HqI : Hid ((((j : Nat) : Int) = -1 ∧ ∀ t, t < j + 1 → t = p) ∨ (∃ q' : Nat, ((j : Nat) : Int) = q' ∧ q' < L.length ∧ q' ≠ p ∧ (∀ t, t < j + 1 → t ≠ p → wtAt L q' ≤ wtAt L t) ∧ ∀ t, t < q' → t ≠ p → wtAt L q' < wtAt L t)) := .inr ⟨j, rfl, hlt2, hjp, fun t ht g => by
              by_cases e : t = j
              ·rw [e]; exact Int.le_refl _
              ·have := hq3 t (by omega) g; omega, fun t ht g => by have := hq3 t ht g; omega⟩
             clear Hq hq3 hq4
             go_wp2
             refine wp_region_noPanic ?_
             refine wp_region_held_drew (S := fun W => W.cell? ⟨gl, q * 2, none⟩ = some (.int .i64 (wtAt L q)) ∧ W.cell? ⟨gl, j * 2, none⟩ = some (.int .i64 (wtAt L j))) (by kernel_rfl) (⟨x, y⟩) (fun hHeld => ?_)
             refine' wpAnyH_take (i := 0) (oi := ⟨_, _, _, _, _, _⟩) rfl (by kernel_rfl) (by kernel_rfl) (by kernel_rfl) (fun _ _ _ h => h) (Or.inl ⟨by rfl, ?a14⟩) (by assumption) ?b14
             case a14 => (intro w hSw; (try dsimp only at hSw); go_simp; try with_reducible rfl)
             try simp only [Act.put, List.setIfInBounds_toArray, List.set_cons_zero, List.set_cons_succ]
             refine' wpAnyH_take (i := 1) (oi := ⟨_, _, _, _, _, _⟩) rfl (by kernel_rfl) (by kernel_rfl) (by kernel_rfl) (fun _ _ _ h => h) (Or.inl ⟨by rfl, ?a15⟩) (by assumption) ?b15
             case a15 => (intro w hSw; (try dsimp only at hSw); go_simp; try with_reducible rfl)
             try simp only [Act.put, List.setIfInBounds_toArray, List.set_cons_zero, List.set_cons_succ]
             refine' wpAnyH_take (i := 2) (oi := ⟨_, _, _, _, _, _⟩) rfl (by kernel_rfl) (by kernel_rfl) (by kernel_rfl) (fun _ _ _ h => h) (Or.inl ⟨by rfl, ?a16⟩) (by assumption) ?b16
             case a16 => (intro w hSw; (try dsimp only at hSw); go_simp; try with_reducible rfl)
             try simp only [Act.put, List.setIfInBounds_toArray, List.set_cons_zero, List.set_cons_succ]
             refine' wpAnyH_take (i := 3) (oi := ⟨_, _, _, _, _, _⟩) rfl (by kernel_rfl) (by kernel_rfl) (by kernel_rfl) (fun _ _ _ h => h) (Or.inl ⟨by rfl, ?a17⟩) (by assumption) ?b17
             case a17 => (intro w hSw; (try dsimp only at hSw); go_simp; try with_reducible rfl)
             try simp only [Act.put, List.setIfInBounds_toArray, List.set_cons_zero, List.set_cons_succ]
             refine' wpAnyH_take (i := 4) (oi := ⟨_, _, _, _, _, _⟩) rfl (by kernel_rfl) (by kernel_rfl) (by kernel_rfl) (fun _ _ _ h => h) (Or.inl ⟨by rfl, ?a18⟩) (by assumption) ?b18
             case a18 => (intro w hSw; (try dsimp only at hSw); go_simp; try with_reducible rfl)
             try simp only [Act.put, List.setIfInBounds_toArray, List.set_cons_zero, List.set_cons_succ]
             refine' wpAnyH_take (i := 5) (oi := ⟨_, _, _, _, _, _⟩) rfl (by kernel_rfl) (by kernel_rfl) (by kernel_rfl) (fun _ _ _ h => h) (Or.inl ⟨by rfl, ?a19⟩) (by assumption) ?b19
             case a19 => (intro w hSw; (try dsimp only at hSw); go_simp; try with_reducible rfl)
             try simp only [Act.put, List.setIfInBounds_toArray, List.set_cons_zero, List.set_cons_succ]
             refine' wpAnyH_take (i := 6) (oi := ⟨_, _, _, _, _, _⟩) rfl (by kernel_rfl) (by kernel_rfl) (by kernel_rfl) (fun _ _ _ h => h) (Or.inl ⟨by rfl, ?a20⟩) (by assumption) ?b20
             case a20 => (intro w hSw; (try dsimp only at hSw); go_simp; try with_reducible rfl)
             try simp only [Act.put, List.setIfInBounds_toArray, List.set_cons_zero, List.set_cons_succ]
             refine' wpAnyH_take (i := 7) (oi := ⟨_, _, _, _, _, _⟩) rfl (by kernel_rfl) (by kernel_rfl) (by kernel_rfl) (fun _ _ _ h => h) (Or.inl ⟨by rfl, ?a21⟩) (by assumption) ?b21
             case a21 => (intro w hSw; (try dsimp only at hSw); go_simp; try with_reducible rfl)
             try simp only [Act.put, List.setIfInBounds_toArray, List.set_cons_zero, List.set_cons_succ]
             refine' wpAnyH_take (i := 8) (oi := ⟨_, _, _, _, _, _⟩) rfl (by kernel_rfl) (by kernel_rfl) (by kernel_rfl) (fun _ _ _ h => h) (Or.inl ⟨by rfl, ?a22⟩) (by assumption) ?b22
             case a22 => (intro w hSw; (try dsimp only at hSw); go_simp; try with_reducible rfl)
             try simp only [Act.put, List.setIfInBounds_toArray, List.set_cons_zero, List.set_cons_succ]
             refine' wpAnyH_take (i := 9) (oi := ⟨_, _, _, _, _, _⟩) rfl (by kernel_rfl) (by kernel_rfl) (by kernel_rfl) (fun _ _ _ h => h) (Or.inl ⟨by rfl, ?a23⟩) (by assumption) ?b23
             case a23 => (intro w hSw; (try dsimp only at hSw); go_simp; try with_reducible rfl)
             try simp only [Act.put, List.setIfInBounds_toArray, List.set_cons_zero, List.set_cons_succ]
             refine' wpAnyH_take (i := 10) (oi := ⟨_, _, _, _, _, _⟩) rfl (by kernel_rfl) (by kernel_rfl) (by kernel_rfl) (fun _ _ _ h => h) (Or.inl ⟨by rfl, ?a24⟩) (by assumption) ?b24
             case a24 => (intro w hSw; (try dsimp only at hSw); go_simp; try with_reducible rfl)
             try simp only [Act.put, List.setIfInBounds_toArray, List.set_cons_zero, List.set_cons_succ]
             refine' wpAnyH_take (i := 11) (oi := ⟨_, _, _, _, _, _⟩) rfl (by kernel_rfl) (by kernel_rfl) (by kernel_rfl) (fun _ _ _ h => h) (Or.inl ⟨by rfl, ?a25⟩) (by assumption) ?b25
             case a25 => (intro w hSw; (try dsimp only at hSw); go_simp; try with_reducible rfl)
             try simp only [Act.put, List.setIfInBounds_toArray, List.set_cons_zero, List.set_cons_succ]
             refine' wpAnyH_take (i := 12) (oi := ⟨_, _, _, _, _, _⟩) rfl (by kernel_rfl) (by kernel_rfl) (by kernel_rfl) (fun _ _ _ h => h) (Or.inl ⟨by rfl, ?a26⟩) (by assumption) ?b26
             case a26 => (intro w hSw; (try dsimp only at hSw); go_simp; try with_reducible rfl)
             try simp only [Act.put, List.setIfInBounds_toArray, List.set_cons_zero, List.set_cons_succ]
             refine' wpAnyH_take (i := 13) (oi := ⟨_, _, _, _, _, _⟩) rfl (by kernel_rfl) (by kernel_rfl) (by kernel_rfl) (fun _ _ _ h => h) (Or.inl ⟨by rfl, ?a27⟩) (by assumption) ?b27
             case a27 => (intro w hSw; (try dsimp only at hSw); go_simp; try with_reducible rfl)
             try simp only [Act.put, List.setIfInBounds_toArray, List.set_cons_zero, List.set_cons_succ]
             refine' wpAnyH_take (i := 14) (oi := ⟨_, _, _, _, _, _⟩) rfl (by kernel_rfl) (by kernel_rfl) (by kernel_rfl) (fun _ _ _ h => h) (Or.inl ⟨by rfl, ?a28⟩) (by assumption) ?b28
             case a28 => (intro w hSw; (try dsimp only at hSw); go_simp; try with_reducible rfl)
             try simp only [Act.put, List.setIfInBounds_toArray, List.set_cons_zero, List.set_cons_succ]
             refine' wpAnyH_take (i := 15) (oi := ⟨_, _, _, _, _, _⟩) rfl (by kernel_rfl) (by kernel_rfl) (by kernel_rfl) (fun _ _ _ h => h) (Or.inl ⟨by rfl, ?a29⟩) (by assumption) ?b29
             case a29 => (intro w hSw; (try dsimp only at hSw); go_simp; try with_reducible rfl)
             try simp only [Act.put, List.setIfInBounds_toArray, List.set_cons_zero, List.set_cons_succ]
             refine' wpAnyH_take (i := 16) (oi := ⟨_, _, _, _, _, _⟩) rfl (by kernel_rfl) (by kernel_rfl) (by kernel_rfl) (fun _ _ _ h => h) (Or.inl ⟨by rfl, ?a30⟩) (by assumption) ?b30
             case a30 => (intro w hSw; (try dsimp only at hSw); go_simp; try with_reducible rfl)
             try simp only [Act.put, List.setIfInBounds_toArray, List.set_cons_zero, List.set_cons_succ]
             refine' wpAnyH_take (i := 17) (oi := ⟨_, _, _, _, _, _⟩) rfl (by kernel_rfl) (by kernel_rfl) (by kernel_rfl) (fun _ _ _ h => h) (Or.inl ⟨by rfl, ?a31⟩) (by assumption) ?b31
             case a31 => (intro w hSw; (try dsimp only at hSw); go_simp; try with_reducible rfl)
             try simp only [Act.put, List.setIfInBounds_toArray, List.set_cons_zero, List.set_cons_succ]
             refine' wpAnyH_take (i := 18) (oi := ⟨_, _, _, _, _, _⟩) rfl (by kernel_rfl) (by kernel_rfl) (by kernel_rfl) (fun _ _ _ h => h) (Or.inl ⟨by rfl, ?a32⟩) (by assumption) ?b32
             case a32 => (intro w hSw; (try dsimp only at hSw); go_simp; try with_reducible rfl)
             try simp only [Act.put, List.setIfInBounds_toArray, List.set_cons_zero, List.set_cons_succ]
             refine' wpAnyH_take (i := 19) (oi := ⟨_, _, _, _, _, _⟩) rfl (by kernel_rfl) (by kernel_rfl) (by kernel_rfl) (fun _ _ _ h => h) (Or.inl ⟨by rfl, ?a33⟩) (by assumption) ?b33
             case a33 => (intro w hSw; (try dsimp only at hSw); go_simp; try with_reducible rfl)
             try simp only [Act.put, List.setIfInBounds_toArray, List.set_cons_zero, List.set_cons_succ]
             refine wpAnyH_done (by kernel_rfl) ?_ _
             refine NoPanic.normal ?_
             go_wp2
             go_roundw
             case rel => exact ⟨j + 1, _, by omega, rfl, by go_num, HqI.out, Hz.out.drew⟩
             case measure => simp [intOf]; omega
            ·have d3 : decide (wtAt L j < wtAt L q) = false := decide_eq_false (by omega)
             have HqI : Hid ((((q : Nat) : Int) = -1 ∧ ∀ t, t < j + 1 → t = p) ∨ (∃ q' : Nat, ((q : Nat) : Int) = q' ∧ q' < L.length ∧ q' ≠ p ∧ (∀ t, t < j + 1 → t ≠ p → wtAt L q' ≤ wtAt L t) ∧ ∀ t, t < q' → t ≠ p → wtAt L q' < wtAt L t)) := .inr ⟨q, rfl, hq1, hq2, fun t ht g => by
              by_cases e : t = j
              ·rw [e]; exact hx
              ·exact hq3 t (by omega) g, hq4⟩
             clear Hq hq3 hq4
             go_wp2
             refine wp_region_noPanic ?_
             refine wp_region_held_drew (S := fun W => W.cell? ⟨gl, q * 2, none⟩ = some (.int .i64 (wtAt L q)) ∧ W.cell? ⟨gl, j * 2, none⟩ = some (.int .i64 (wtAt L j))) (by kernel_rfl) (⟨x, y⟩) (fun hHeld => ?_)
             refine' wpAnyH_take (i := 0) (oi := ⟨_, _, _, _, _, _⟩) rfl (by kernel_rfl) (by kernel_rfl) (by kernel_rfl) (fun _ _ _ h => h) (Or.inl ⟨by rfl, ?a34⟩) (by assumption) ?b34
             case a34 => (intro w hSw; (try dsimp only at hSw); go_simp; try with_reducible rfl)
             try simp only [Act.put, List.setIfInBounds_toArray, List.set_cons_zero, List.set_cons_succ]
             refine' wpAnyH_take (i := 1) (oi := ⟨_, _, _, _, _, _⟩) rfl (by kernel_rfl) (by kernel_rfl) (by kernel_rfl) (fun _ _ _ h => h) (Or.inl ⟨by rfl, ?a35⟩) (by assumption) ?b35
             case a35 => (intro w hSw; (try dsimp only at hSw); go_simp; try with_reducible rfl)
             try simp only [Act.put, List.setIfInBounds_toArray, List.set_cons_zero, List.set_cons_succ]
             refine' wpAnyH_take (i := 2) (oi := ⟨_, _, _, _, _, _⟩) rfl (by kernel_rfl) (by kernel_rfl) (by kernel_rfl) (fun _ _ _ h => h) (Or.inl ⟨by rfl, ?a36⟩) (by assumption) ?b36
             case a36 => (intro w hSw; (try dsimp only at hSw); go_simp; try with_reducible rfl)
             try simp only [Act.put, List.setIfInBounds_toArray, List.set_cons_zero, List.set_cons_succ]
             refine' wpAnyH_take (i := 3) (oi := ⟨_, _, _, _, _, _⟩) rfl (by kernel_rfl) (by kernel_rfl) (by kernel_rfl) (fun _ _ _ h => h) (Or.inl ⟨by rfl, ?a37⟩) (by assumption) ?b37
             case a37 => (intro w hSw; (try dsimp only at hSw); go_simp; try with_reducible rfl)
             try simp only [Act.put, List.setIfInBounds_toArray, List.set_cons_zero, List.set_cons_succ]
             refine' wpAnyH_take (i := 4) (oi := ⟨_, _, _, _, _, _⟩) rfl (by kernel_rfl) (by kernel_rfl) (by kernel_rfl) (fun _ _ _ h => h) (Or.inl ⟨by rfl, ?a38⟩) (by assumption) ?b38
             case a38 => (intro w hSw; (try dsimp only at hSw); go_simp; try with_reducible rfl)
             try simp only [Act.put, List.setIfInBounds_toArray, List.set_cons_zero, List.set_cons_succ]
             refine' wpAnyH_take (i := 5) (oi := ⟨_, _, _, _, _, _⟩) rfl (by kernel_rfl) (by kernel_rfl) (by kernel_rfl) (fun _ _ _ h => h) (Or.inl ⟨by rfl, ?a39⟩) (by assumption) ?b39
             case a39 => (intro w hSw; (try dsimp only at hSw); go_simp; try with_reducible rfl)
             try simp only [Act.put, List.setIfInBounds_toArray, List.set_cons_zero, List.set_cons_succ]
             refine' wpAnyH_take (i := 6) (oi := ⟨_, _, _, _, _, _⟩) rfl (by kernel_rfl) (by kernel_rfl) (by kernel_rfl) (fun _ _ _ h => h) (Or.inl ⟨by rfl, ?a40⟩) (by assumption) ?b40
             case a40 => (intro w hSw; (try dsimp only at hSw); go_simp; try with_reducible rfl)
             try simp only [Act.put, List.setIfInBounds_toArray, List.set_cons_zero, List.set_cons_succ]
             refine' wpAnyH_take (i := 7) (oi := ⟨_, _, _, _, _, _⟩) rfl (by kernel_rfl) (by kernel_rfl) (by kernel_rfl) (fun _ _ _ h => h) (Or.inl ⟨by rfl, ?a41⟩) (by assumption) ?b41
             case a41 => (intro w hSw; (try dsimp only at hSw); go_simp; try with_reducible rfl)
             try simp only [Act.put, List.setIfInBounds_toArray, List.set_cons_zero, List.set_cons_succ]
             refine' wpAnyH_take (i := 8) (oi := ⟨_, _, _, _, _, _⟩) rfl (by kernel_rfl) (by kernel_rfl) (by kernel_rfl) (fun _ _ _ h => h) (Or.inl ⟨by rfl, ?a42⟩) (by assumption) ?b42
             case a42 => (intro w hSw; (try dsimp only at hSw); go_simp; try with_reducible rfl)
             try simp only [Act.put, List.setIfInBounds_toArray, List.set_cons_zero, List.set_cons_succ]
             refine' wpAnyH_take (i := 9) (oi := ⟨_, _, _, _, _, _⟩) rfl (by kernel_rfl) (by kernel_rfl) (by kernel_rfl) (fun _ _ _ h => h) (Or.inl ⟨by rfl, ?a43⟩) (by assumption) ?b43
             case a43 => (intro w hSw; (try dsimp only at hSw); go_simp; try with_reducible rfl)
             try simp only [Act.put, List.setIfInBounds_toArray, List.set_cons_zero, List.set_cons_succ]
             refine' wpAnyH_take (i := 10) (oi := ⟨_, _, _, _, _, _⟩) rfl (by kernel_rfl) (by kernel_rfl) (by kernel_rfl) (fun _ _ _ h => h) (Or.inl ⟨by rfl, ?a44⟩) (by assumption) ?b44
             case a44 => (intro w hSw; (try dsimp only at hSw); go_simp; try with_reducible rfl)
             try simp only [Act.put, List.setIfInBounds_toArray, List.set_cons_zero, List.set_cons_succ]
             refine' wpAnyH_take (i := 11) (oi := ⟨_, _, _, _, _, _⟩) rfl (by kernel_rfl) (by kernel_rfl) (by kernel_rfl) (fun _ _ _ h => h) (Or.inl ⟨by rfl, ?a45⟩) (by assumption) ?b45
             case a45 => (intro w hSw; (try dsimp only at hSw); go_simp; try with_reducible rfl)
             try simp only [Act.put, List.setIfInBounds_toArray, List.set_cons_zero, List.set_cons_succ]
             refine' wpAnyH_take (i := 12) (oi := ⟨_, _, _, _, _, _⟩) rfl (by kernel_rfl) (by kernel_rfl) (by kernel_rfl) (fun _ _ _ h => h) (Or.inl ⟨by rfl, ?a46⟩) (by assumption) ?b46
             case a46 => (intro w hSw; (try dsimp only at hSw); go_simp; try with_reducible rfl)
             try simp only [Act.put, List.setIfInBounds_toArray, List.set_cons_zero, List.set_cons_succ]
             refine' wpAnyH_take (i := 13) (oi := ⟨_, _, _, _, _, _⟩) rfl (by kernel_rfl) (by kernel_rfl) (by kernel_rfl) (fun _ _ _ h => h) (Or.inl ⟨by rfl, ?a47⟩) (by assumption) ?b47
             case a47 => (intro w hSw; (try dsimp only at hSw); go_simp; try with_reducible rfl)
             try simp only [Act.put, List.setIfInBounds_toArray, List.set_cons_zero, List.set_cons_succ]
             refine' wpAnyH_take (i := 14) (oi := ⟨_, _, _, _, _, _⟩) rfl (by kernel_rfl) (by kernel_rfl) (by kernel_rfl) (fun _ _ _ h => h) (Or.inl ⟨by rfl, ?a48⟩) (by assumption) ?b48
             case a48 => (intro w hSw; (try dsimp only at hSw); go_simp; try with_reducible rfl)
             try simp only [Act.put, List.setIfInBounds_toArray, List.set_cons_zero, List.set_cons_succ]
             refine' wpAnyH_take (i := 15) (oi := ⟨_, _, _, _, _, _⟩) rfl (by kernel_rfl) (by kernel_rfl) (by kernel_rfl) (fun _ _ _ h => h) (Or.inl ⟨by rfl, ?a49⟩) (by assumption) ?b49
             case a49 => (intro w hSw; (try dsimp only at hSw); go_simp; try with_reducible rfl)
             try simp only [Act.put, List.setIfInBounds_toArray, List.set_cons_zero, List.set_cons_succ]
             refine' wpAnyH_take (i := 16) (oi := ⟨_, _, _, _, _, _⟩) rfl (by kernel_rfl) (by kernel_rfl) (by kernel_rfl) (fun _ _ _ h => h) (Or.inl ⟨by rfl, ?a50⟩) (by assumption) ?b50
             case a50 => (intro w hSw; (try dsimp only at hSw); go_simp; try with_reducible rfl)
             try simp only [Act.put, List.setIfInBounds_toArray, List.set_cons_zero, List.set_cons_succ]
             refine' wpAnyH_take (i := 17) (oi := ⟨_, _, _, _, _, _⟩) rfl (by kernel_rfl) (by kernel_rfl) (by kernel_rfl) (fun _ _ _ h => h) (Or.inl ⟨by rfl, ?a51⟩) (by assumption) ?b51
             case a51 => (intro w hSw; (try dsimp only at hSw); go_simp; try with_reducible rfl)
             try simp only [Act.put, List.setIfInBounds_toArray, List.set_cons_zero, List.set_cons_succ]
             refine' wpAnyH_take (i := 18) (oi := ⟨_, _, _, _, _, _⟩) rfl (by kernel_rfl) (by kernel_rfl) (by kernel_rfl) (fun _ _ _ h => h) (Or.inl ⟨by rfl, ?a52⟩) (by assumption) ?b52
             case a52 => (intro w hSw; (try dsimp only at hSw); go_simp; try with_reducible rfl)
             try simp only [Act.put, List.setIfInBounds_toArray, List.set_cons_zero, List.set_cons_succ]
             refine' wpAnyH_take (i := 19) (oi := ⟨_, _, _, _, _, _⟩) rfl (by kernel_rfl) (by kernel_rfl) (by kernel_rfl) (fun _ _ _ h => h) (Or.inl ⟨by rfl, ?a53⟩) (by assumption) ?b53
             case a53 => (intro w hSw; (try dsimp only at hSw); go_simp; try with_reducible rfl)
             try simp only [Act.put, List.setIfInBounds_toArray, List.set_cons_zero, List.set_cons_succ]
             refine wpAnyH_done (by kernel_rfl) ?_ _
             refine NoPanic.normal ?_
             go_wp2
             go_roundw
             case rel => exact ⟨j + 1, _, by omega, rfl, by go_num, HqI.out, Hz.out.drew⟩
             case measure => simp [intOf]; omega
         ·obtain rfl : j = L.length := by omega
          rcases Hq.out with ⟨e, hq0⟩ | ⟨q, rfl, hq1, hq2, hq3, hq4⟩
          ·exfalso
           have := hq0 0 (by omega)
           have := hq0 1 (by omega)
           omega
          ·have Hq3 := Lib.hid hq3
           have Hq4 := Lib.hid hq4
           obtain ⟨y0, g1, m1, y1, hm1, hh1, hg1', hr1⟩ := Hat.out p hp
           obtain ⟨z0, g2, m2, z1, hm2, hh2, hg2', hr2⟩ := Hat.out q hq1
           have Hr1 := Lib.hid (hr1.below Hz.out)
           have Hr2 := Lib.hid (hr2.below Hz.out)
           have y0 := kept_cell Hz.out y0
           have y1 := kept_cell Hz.out y1
           have z0 := kept_cell Hz.out z0
           have z1 := kept_cell Hz.out z1
           have HSz := Lib.hid (RefSt.later HS.out Hz.out)
           obtain ⟨w0, w1, w2⟩ := sumW_two HI.out.pos hp hq1 hq2
           have w3 := HI.out.sum
           have sw : IntKind.i64.wrap (wtAt L p + wtAt L q) = wtAt L p + wtAt L q := IntWalk.i64_in _ (by omega)
           clear w0 w1 w2 w3 hq3 hq4 Hq hr1 hr2 hm1 hm2 hg1' hg2'
           obtain ⟨wz, hwz⟩ : ∃ W, W = wr := ⟨_, rfl⟩
           subst hwz
           have hl1 := HI.out.symsLe hp
           have hl2 := HI.out.symsLe hq1
           rw [hlen.out] at hl1 hl2
           have hp1 := syms_pos (L.getD p default)
           have hp2 := syms_pos (L.getD q default)
           obtain ⟨l1, hl1e⟩ : ∃ l, l = (L.getD p default).syms.length := ⟨_, rfl⟩
           obtain ⟨l2, hl2e⟩ : ∃ l, l = (L.getD q default).syms.length := ⟨_, rfl⟩
           obtain ⟨s1, hs1⟩ : ∃ l, l = symI (L.getD p default) := ⟨_, rfl⟩
           obtain ⟨s2, hs2⟩ : ∃ l, l = symI (L.getD q default) := ⟨_, rfl⟩
           rw [← hl1e] at y1 hl1 hp1 Hr1
           rw [← hl2e] at z1 hl2 hp2 Hr2
           rw [← hs1] at Hr1
           rw [← hs2] at Hr2
           have Hl1e := Lib.hid hl1e
           have Hl2e := Lib.hid hl2e
           have Hs1 := Lib.hid hs1
           have Hs2 := Lib.hid hs2
           clear hl1e hl2e hs1 hs2
           obtain ⟨ws', hws'⟩ : ∃ v, v = wtAt L p + wtAt L q := ⟨_, rfl⟩
           rw [← hws'] at sw
           obtain ⟨i0, hi0, hz0, hz1, hz2⟩ := info_parts elIntN.info
           have L0 : Later wz wz := Later.refl _
           go_upto_region 23 with fail
           go_cut [10] (fun t wx => ∃ ab g cap : Nat, t = .pointer (some ⟨ab, 0, none⟩) ∧ wz.heap.size ≤ ab ∧ wz.heap.size ≤ g ∧ ab ≠ g ∧ wx.cell? ⟨ab, 0, none⟩ = some (.int .i64 ws') ∧ wx.cell? ⟨ab, 1, none⟩ = some (.slice (some ⟨g, 0, none⟩) (l1 + l2) cap) ∧ Hid (wx.ownsRow wz.heap.size 3 1 (.slice (some ⟨g, 0, none⟩) (l1 + l2) cap) (l1 + l2) (ints .i64 (s1 ++ s2))) ∧ Hid (Below wz.heap.size wz wx))
           case first =>
            have HK : Hid (∀ W, Later wz W → Later wz W ∧ W.cell? ⟨gl, p * 2, none⟩ = some (.int .i64 (wtAt L p)) ∧ W.cell? ⟨gl, p * 2 + 1, none⟩ = some (.slice (some ⟨g1, 0, none⟩) l1 m1) ∧ W.cell? ⟨gl, q * 2, none⟩ = some (.int .i64 (wtAt L q)) ∧ W.cell? ⟨gl, q * 2 + 1, none⟩ = some (.slice (some ⟨g2, 0, none⟩) l2 m2)) := fun W h => ⟨h, Later.cell y0 _ h, Later.cell y1 _ h, Later.cell z0 _ h, Later.cell z1 _ h⟩
            clear y0 y1 z0 z1
            have sw2 : wrap64 (wtAt L p + wtAt L q) = ws' := (IntWalk.i64_left _).symm.trans (by rw [hws'] at sw ⊢; exact sw)
            refine wp_region_last (n := 26) (on := ⟨_, _, _, _, _, _⟩) (S := fun W => Later wz W ∧ W.cell? ⟨gl, p * 2, none⟩ = some (.int .i64 (wtAt L p)) ∧ W.cell? ⟨gl, p * 2 + 1, none⟩ = some (.slice (some ⟨g1, 0, none⟩) l1 m1) ∧ W.cell? ⟨gl, q * 2, none⟩ = some (.int .i64 (wtAt L q)) ∧ W.cell? ⟨gl, q * 2 + 1, none⟩ = some (.slice (some ⟨g2, 0, none⟩) l2 m2)) (by kernel_rfl) rfl (by kernel_rfl) (HK.out _ (Later.drew L0)) (fun hHeld => ?_)
            refine' wpAnyH_take (i := 0) (oi := ⟨_, _, _, _, _, _⟩) rfl (by kernel_rfl) (by kernel_rfl) (by kernel_rfl) (fun _ _ _ h => h) (Or.inl ⟨by rfl, ?a54⟩) (by assumption) ?b54
            case a54 => (intro w hSw; (try dsimp only at hSw); go_simp; try with_reducible rfl)
            try simp only [Act.put, List.setIfInBounds_toArray, List.set_cons_zero, List.set_cons_succ]
            refine' wpAnyH_take (i := 1) (oi := ⟨_, _, _, _, _, _⟩) rfl (by kernel_rfl) (by kernel_rfl) (by kernel_rfl) (fun _ _ _ h => h) (Or.inl ⟨by rfl, ?a55⟩) (by assumption) ?b55
            case a55 => (intro w hSw; (try dsimp only at hSw); go_simp; try with_reducible rfl)
            try simp only [Act.put, List.setIfInBounds_toArray, List.set_cons_zero, List.set_cons_succ]
            refine' wpAnyH_take (i := 2) (oi := ⟨_, _, _, _, _, _⟩) rfl (by kernel_rfl) (by kernel_rfl) (by kernel_rfl) (fun _ _ _ h => h) (Or.inl ⟨by rfl, ?a56⟩) (by assumption) ?b56
            case a56 => (intro w hSw; (try dsimp only at hSw); go_simp; try with_reducible rfl)
            try simp only [Act.put, List.setIfInBounds_toArray, List.set_cons_zero, List.set_cons_succ]
            refine' wpAnyH_take (i := 3) (oi := ⟨_, _, _, _, _, _⟩) rfl (by kernel_rfl) (by kernel_rfl) (by kernel_rfl) (fun _ _ _ h => h) (Or.inl ⟨by rfl, ?a57⟩) (by assumption) ?b57
            case a57 => (intro w hSw; (try dsimp only at hSw); go_simp; try with_reducible rfl)
            try simp only [Act.put, List.setIfInBounds_toArray, List.set_cons_zero, List.set_cons_succ]
            refine' wpAnyH_take (i := 4) (oi := ⟨_, _, _, _, _, _⟩) rfl (by kernel_rfl) (by kernel_rfl) (by kernel_rfl) (fun _ _ _ h => h) (Or.inl ⟨by rfl, ?a58⟩) (by assumption) ?b58
            case a58 => (intro w hSw; (try dsimp only at hSw); go_simp; try with_reducible rfl)
            try simp only [Act.put, List.setIfInBounds_toArray, List.set_cons_zero, List.set_cons_succ]
            refine' wpAnyH_take (i := 5) (oi := ⟨_, _, _, _, _, _⟩) rfl (by kernel_rfl) (by kernel_rfl) (by kernel_rfl) (fun _ _ _ h => h) (Or.inl ⟨by rfl, ?a59⟩) (by assumption) ?b59
            case a59 => (intro w hSw; (try dsimp only at hSw); go_simp; try with_reducible rfl)
            try simp only [Act.put, List.setIfInBounds_toArray, List.set_cons_zero, List.set_cons_succ]
            refine' wpAnyH_take (i := 6) (oi := ⟨_, _, _, _, _, _⟩) rfl (by kernel_rfl) (by kernel_rfl) (by kernel_rfl) (fun _ _ _ h => h) (Or.inl ⟨by rfl, ?a60⟩) (by assumption) ?b60
            case a60 => (intro w hSw; (try dsimp only at hSw); go_simp; try with_reducible rfl)
            try simp only [Act.put, List.setIfInBounds_toArray, List.set_cons_zero, List.set_cons_succ]
            refine' wpAnyH_take (i := 7) (oi := ⟨_, _, _, _, _, _⟩) rfl (by kernel_rfl) (by kernel_rfl) (by kernel_rfl) (fun _ _ _ h => h) (Or.inl ⟨by rfl, ?a61⟩) (by assumption) ?b61
            case a61 => (intro w hSw; (try dsimp only at hSw); go_simp; try with_reducible rfl)
            try simp only [Act.put, List.setIfInBounds_toArray, List.set_cons_zero, List.set_cons_succ]
            refine' wpAnyH_take (i := 8) (oi := ⟨_, _, _, _, _, _⟩) rfl (by kernel_rfl) (by kernel_rfl) (by kernel_rfl) (fun _ _ _ h => h) (Or.inl ⟨by rfl, ?a62⟩) (by assumption) ?b62
            case a62 => (intro w hSw; (try dsimp only at hSw); go_simp; try with_reducible rfl)
            try simp only [Act.put, List.setIfInBounds_toArray, List.set_cons_zero, List.set_cons_succ]
            refine' wpAnyH_take (i := 9) (oi := ⟨_, _, _, _, _, _⟩) rfl (by kernel_rfl) (by kernel_rfl) (by kernel_rfl) (fun _ _ _ h => h) (Or.inl ⟨by rfl, ?a63⟩) (by assumption) ?b63
            case a63 => (intro w hSw; (try dsimp only at hSw); go_simp; try with_reducible rfl)
            try simp only [Act.put, List.setIfInBounds_toArray, List.set_cons_zero, List.set_cons_succ]
            refine' wpAnyH_take (i := 10) (oi := ⟨_, _, _, _, _, _⟩) rfl (by kernel_rfl) (by kernel_rfl) (by kernel_rfl) (fun _ _ _ h => h) (Or.inl ⟨by rfl, ?a64⟩) (by assumption) ?b64
            case a64 => (intro w hSw; (try dsimp only at hSw); go_simp; try with_reducible rfl)
            try simp only [Act.put, List.setIfInBounds_toArray, List.set_cons_zero, List.set_cons_succ]
            refine' wpAnyH_take (i := 12) (oi := ⟨_, _, _, _, _, _⟩) rfl (by kernel_rfl) (by kernel_rfl) (by kernel_rfl) (fun _ _ _ h => h) (Or.inl ⟨by rfl, ?a65⟩) (by assumption) ?b65
            case a65 => (intro w hSw; (try dsimp only at hSw); go_simp; try with_reducible rfl)
            try simp only [Act.put, List.setIfInBounds_toArray, List.set_cons_zero, List.set_cons_succ]
            refine' wpAnyH_take (i := 13) (oi := ⟨_, _, _, _, _, _⟩) rfl (by kernel_rfl) (by kernel_rfl) (by kernel_rfl) (fun _ _ _ h => h) (Or.inl ⟨by rfl, ?a66⟩) (by assumption) ?b66
            case a66 => (intro w hSw; (try dsimp only at hSw); go_simp; try with_reducible rfl)
            try simp only [Act.put, List.setIfInBounds_toArray, List.set_cons_zero, List.set_cons_succ]
            refine' wpAnyH_take (i := 14) (oi := ⟨_, _, _, _, _, _⟩) rfl (by kernel_rfl) (by kernel_rfl) (by kernel_rfl) (fun _ _ _ h => h) (Or.inl ⟨by rfl, ?a67⟩) (by assumption) ?b67
            case a67 => (intro w hSw; (try dsimp only at hSw); go_simp; try with_reducible rfl)
            try simp only [Act.put, List.setIfInBounds_toArray, List.set_cons_zero, List.set_cons_succ]
            refine' wpAnyH_take (i := 15) (oi := ⟨_, _, _, _, _, _⟩) rfl (by kernel_rfl) (by kernel_rfl) (by kernel_rfl) (fun _ _ _ h => h) (Or.inl ⟨by rfl, ?a68⟩) (by assumption) ?b68
            case a68 => (intro w hSw; (try dsimp only at hSw); go_simp; try with_reducible rfl)
            try simp only [Act.put, List.setIfInBounds_toArray, List.set_cons_zero, List.set_cons_succ]
            refine' wpAnyH_take (i := 16) (oi := ⟨_, _, _, _, _, _⟩) rfl (by kernel_rfl) (by kernel_rfl) (by kernel_rfl) (fun _ _ _ h => h) (Or.inl ⟨by rfl, ?a69⟩) (by assumption) ?b69
            case a69 => (intro w hSw; (try dsimp only at hSw); go_simp; try with_reducible rfl)
            try simp only [Act.put, List.setIfInBounds_toArray, List.set_cons_zero, List.set_cons_succ]
            refine' wpAnyH_take (i := 18) (oi := ⟨_, _, _, _, _, _⟩) rfl (by kernel_rfl) (by kernel_rfl) (by kernel_rfl) (fun _ _ _ h => h) (Or.inl ⟨by rfl, ?a70⟩) (by assumption) ?b70
            case a70 => (intro w hSw; (try dsimp only at hSw); go_simp; try with_reducible rfl)
            try simp only [Act.put, List.setIfInBounds_toArray, List.set_cons_zero, List.set_cons_succ]
            refine' wpAnyH_take (i := 19) (oi := ⟨_, _, _, _, _, _⟩) rfl (by kernel_rfl) (by kernel_rfl) (by kernel_rfl) (fun _ _ _ h => h) (Or.inl ⟨by rfl, ?a71⟩) (by assumption) ?b71
            case a71 => (intro w hSw; (try dsimp only at hSw); go_simp; try with_reducible rfl)
            try simp only [Act.put, List.setIfInBounds_toArray, List.set_cons_zero, List.set_cons_succ]
            refine' wpAnyH_take (i := 20) (oi := ⟨_, _, _, _, _, _⟩) rfl (by kernel_rfl) (by kernel_rfl) (by kernel_rfl) (fun _ _ _ h => h) (Or.inl ⟨by rfl, ?a72⟩) (by assumption) ?b72
            case a72 => (intro w hSw; (try dsimp only at hSw); go_simp; try with_reducible rfl)
            try simp only [Act.put, List.setIfInBounds_toArray, List.set_cons_zero, List.set_cons_succ]
            refine' wpAnyH_take (i := 21) (oi := ⟨_, _, _, _, _, _⟩) rfl (by kernel_rfl) (by kernel_rfl) (by kernel_rfl) (fun _ _ _ h => h) (Or.inl ⟨by rfl, ?a73⟩) (by assumption) ?b73
            case a73 => (intro w hSw; (try dsimp only at hSw); go_simp; try with_reducible rfl)
            try simp only [Act.put, List.setIfInBounds_toArray, List.set_cons_zero, List.set_cons_succ]
            refine' wpAnyH_take (i := 22) (oi := ⟨_, _, _, _, _, _⟩) rfl (by kernel_rfl) (by kernel_rfl) (by kernel_rfl) (fun _ _ _ h => h) (Or.inl ⟨by rfl, ?a74⟩) (by assumption) ?b74
            case a74 => (intro w hSw; (try dsimp only at hSw); go_simp; try with_reducible rfl)
            try simp only [Act.put, List.setIfInBounds_toArray, List.set_cons_zero, List.set_cons_succ]
            refine wpAnyH_ready (rs := [11, 25]) (by kernel_rfl) (by simp) ?_
            refine AllReadyH.cons (o := ⟨_, _, _, _, _, _⟩) rfl (fun K hK => ?_) (AllReadyH.cons (o := ⟨_, _, _, _, _, _⟩) rfl (fun K hK => ?_) AllReadyH.nil)
            ·go_simp
             refine hK.out _ _ (HK.out _ (Later.new _ (Later.drew L0))) (fun hHeldN => ?_)
             clear hK K hHeld
             have hHeld := hHeldN
             clear hHeldN
             try simp only [Act.put, List.setIfInBounds_toArray, List.set_cons_zero, List.set_cons_succ]
             refine wpAnyH_ready (rs := [17, 25]) (by kernel_rfl) (by simp) ?_
             refine AllReadyH.cons (o := ⟨_, _, _, _, _, _⟩) rfl (fun K hK => ?_) (AllReadyH.cons (o := ⟨_, _, _, _, _, _⟩) rfl (fun K hK => ?_) AllReadyH.nil)
             ·refine step_append_lies _ (by rfl) _ _ _ (by rfl) wz.heap.size 3 i0 (.int .i64 0) 1 8 elIntN.und hi0 hz0 hz1 hz2 rfl (by omega) (.slice (some ⟨wz.heap.size, 0, none⟩) 0 0) 0 [] (by rfl) (own_mono (own_empty _ _) (Later.below (Later.drew L0)).size) ⟨g1, 0, none⟩ l1 m1 (ints .i64 s1) (by rfl) (by rw [ints_length, Hr1.out.1, Nat.mul_one]) (rd_news (Hr1.out.below (Later.below (Later.new _ (Later.drew L0))))) (ints_cells .i64 s1) hp1 (by unfold maxLen; omega) (by omega) (Later.below (Later.new _ (Later.drew L0))).size _ rfl ?_
              intro gA capA w5 hown5 hgrow5 hat5 hlt5
              simp only [Nat.zero_add, List.nil_append] at hown5 hlt5 ⊢
              have s5 : wz.heap.size + 1 ≤ w5.heap.size := by have h9 := hgrow5.size; (try simp at h9); omega
              have e5 : wz.heap.size = gA ∨ gA = wz.heap.size + 1 := by simpa [Value.ownBlock] using hat5
              have L5 : Later wz w5 := Later.grown (Later.new _ (Later.drew L0)) hgrow5 (fun k hk => by simp [Value.ownBlock] at hk; omega)
              refine hK.out _ _ (HK.out _ L5) (fun hHeldN => ?_)
              clear hK K hHeld
              have hHeld := hHeldN
              clear hHeldN
              try simp only [Act.put, List.setIfInBounds_toArray, List.set_cons_zero, List.set_cons_succ]
              refine wpAnyH_ready (rs := [23, 25]) (by kernel_rfl) (by simp) ?_
              refine AllReadyH.cons (o := ⟨_, _, _, _, _, _⟩) rfl (fun K hK => ?_) (AllReadyH.cons (o := ⟨_, _, _, _, _, _⟩) rfl (fun K hK => ?_) AllReadyH.nil)
              ·refine step_append_lies _ (by rfl) _ _ _ (by rfl) wz.heap.size 3 i0 (.int .i64 0) 1 8 elIntN.und hi0 hz0 hz1 hz2 rfl (by omega) (.slice (some ⟨gA, 0, none⟩) l1 capA) l1 (ints .i64 s1) (by rfl) hown5 ⟨g2, 0, none⟩ l2 m2 (ints .i64 s2) (by rfl) (by rw [ints_length, Hr2.out.1, Nat.mul_one]) (rd_news (Hr2.out.below (Later.below L5))) (ints_cells .i64 s2) hp2 (by unfold maxLen; omega) (by omega) (Later.below L5).size _ rfl ?_
               intro gB capB w6 hown6 hgrow6 hat6 hlt6
               have s6 : w5.heap.size ≤ w6.heap.size := by have h9 := hgrow6.size; (try simp at h9); omega
               have e6 : gA = gB ∨ gB = w5.heap.size := by simpa [Value.ownBlock] using hat6
               have L6 : Later wz w6 := Later.grown L5 hgrow6 (fun k hk => (hown5.lt k hk).1)
               refine hK.out _ _ (HK.out _ L6) (fun hHeldN => ?_)
               clear hK K hHeld
               have hHeld := hHeldN
               clear hHeldN
               try simp only [Act.put, List.setIfInBounds_toArray, List.set_cons_zero, List.set_cons_succ]
               refine' wpAnyH_take (i := 24) (oi := ⟨_, _, _, _, _, _⟩) rfl (by kernel_rfl) (by kernel_rfl) (by kernel_rfl) (fun _ _ _ h => h) (Or.inl ⟨by rfl, ?a75⟩) (by assumption) ?b75
               case a75 => (intro w hSw; (try dsimp only at hSw); go_simp; try with_reducible rfl)
               try simp only [Act.put, List.setIfInBounds_toArray, List.set_cons_zero, List.set_cons_succ]
               refine wpAnyH_ready (rs := [25]) (by kernel_rfl) (by simp) ?_
               refine AllReadyH.cons (o := ⟨_, _, _, _, _, _⟩) rfl (fun K hK => ?_) AllReadyH.nil
               go_simp
               refine hK.out _ _ (HK.out _ (Later.new _ L6)) (fun hHeldN => ?_)
               clear hK K hHeld
               have hHeld := hHeldN
               clear hHeldN
               try simp only [Act.put, List.setIfInBounds_toArray, List.set_cons_zero, List.set_cons_succ]
               refine wpAnyH_done (by kernel_rfl) ?_ _
               change wpList _ _ _ _ _ _
               have hB2 : (w6.alloc (.cells #[.int .i64 ws', .slice (some ⟨gB, 0, none⟩) (l1 + l2) capB] 171)).heap[w6.heap.size]? = some (.cells #[.int .i64 ws', .slice (some ⟨gB, 0, none⟩) (l1 + l2) capB] 171) := heap_alloc_new _ _
               go_wp2
               go_meet
               rw [sw2]
               refine ⟨w6.heap.size, gB, capB, rfl, L6.bel.size, (hown6.lt gB rfl).1, by omega, cell_of_row _ _ 0 _ _ (0, 0) hB2, cell_of_row _ _ 1 _ _ (0, 0) hB2, ?_, (Later.new _ L6).bel⟩
               rw [ints_append]
               exact hown6.alloc _
              ·go_simp
               refine hK.out _ _ (HK.out _ (Later.new _ L5)) (fun hHeldN => ?_)
               clear hK K hHeld
               have hHeld := hHeldN
               clear hHeldN
               try simp only [Act.put, List.setIfInBounds_toArray, List.set_cons_zero, List.set_cons_succ]
               refine wpAnyH_ready (rs := [23]) (by kernel_rfl) (by simp) ?_
               refine AllReadyH.cons (o := ⟨_, _, _, _, _, _⟩) rfl (fun K hK => ?_) AllReadyH.nil
               refine step_append_lies _ (by rfl) _ _ _ (by rfl) wz.heap.size 3 i0 (.int .i64 0) 1 8 elIntN.und hi0 hz0 hz1 hz2 rfl (by omega) (.slice (some ⟨gA, 0, none⟩) l1 capA) l1 (ints .i64 s1) (by rfl) (hown5.alloc _) ⟨g2, 0, none⟩ l2 m2 (ints .i64 s2) (by rfl) (by rw [ints_length, Hr2.out.1, Nat.mul_one]) (rd_news (Hr2.out.below (Later.below (Later.new _ L5)))) (ints_cells .i64 s2) hp2 (by unfold maxLen; omega) (by omega) (Later.below (Later.new _ L5)).size _ rfl ?_
               intro gB capB w6 hown6 hgrow6 hat6 hlt6
               have s6 : w5.heap.size ≤ w6.heap.size := by have h9 := hgrow6.size; (try simp at h9); omega
               have e6 : gA = gB ∨ gB = w5.heap.size + 1 := by simpa [Value.ownBlock] using hat6
               have L6 : Later wz w6 := Later.grown (Later.new _ L5) hgrow6 (fun k hk => (hown5.lt k hk).1)
               have hB : w6.heap[w5.heap.size]? = some (.cells #[.int .i64 0, .slice none 0 0] 171) := (hgrow6.block _ (by simp) (by simp [Value.ownBlock]; omega)).trans (heap_alloc_new w5 (.cells #[.int .i64 0, .slice none 0 0] 171))
               refine hK.out _ _ (HK.out _ L6) (fun hHeldN => ?_)
               clear hK K hHeld
               have hHeld := hHeldN
               clear hHeldN
               try simp only [Act.put, List.setIfInBounds_toArray, List.set_cons_zero, List.set_cons_succ]
               refine' wpAnyH_take (i := 24) (oi := ⟨_, _, _, _, _, _⟩) rfl (by kernel_rfl) (by kernel_rfl) (by kernel_rfl) (fun _ _ _ h => h) (Or.inl ⟨by rfl, ?a76⟩) (by assumption) ?b76
               case a76 => (intro w hSw; (try dsimp only at hSw); go_simp; try with_reducible rfl)
               try simp only [Act.put, List.setIfInBounds_toArray, List.set_cons_zero, List.set_cons_succ]
               refine wpAnyH_done (by kernel_rfl) ?_ _
               change wpList _ _ _ _ _ _
               have c0 := cell_of_row _ (w5.heap.size) 0 _ _ _ hB
               have c1 := cell_of_row _ (w5.heap.size) 1 _ _ _ hB
               have f0 := frozen_of_row _ (w5.heap.size) 0 _ _ hB
               have f1 := frozen_of_row _ (w5.heap.size) 1 _ _ hB
               have hB1 : (w6.setCell ⟨w5.heap.size, 0, none⟩ (.int .i64 ws')).heap[w5.heap.size]? = some (.cells #[.int .i64 ws', .slice none 0 0] 171) := heap_setCell_same _ _ _ _ _ _ hB
               have hB2 : ((w6.setCell ⟨w5.heap.size, 0, none⟩ (.int .i64 ws')).setCell ⟨w5.heap.size, 1, none⟩ (.slice (some ⟨gB, 0, none⟩) (l1 + l2) capB)).heap[w5.heap.size]? = some (.cells #[.int .i64 ws', .slice (some ⟨gB, 0, none⟩) (l1 + l2) capB] 171) := heap_setCell_same _ _ _ _ _ _ hB1
               have hne : gB ≠ w5.heap.size := by omega
               go_wp2
               go_meet
               rw [sw2]
               refine ⟨w5.heap.size, gB, capB, rfl, by omega, (hown6.lt gB rfl).1, fun e => hne e.symm, cell_of_row _ _ 0 _ _ (0, 0) hB2, cell_of_row _ _ 1 _ _ (0, 0) hB2, ?_, (L6.bel.setCell (p := ⟨w5.heap.size, 0, none⟩) (L5.bel.size) _).setCell (p := ⟨w5.heap.size, 1, none⟩) (L5.bel.size) _⟩
               rw [ints_append]
               exact own_fr hown6 (((Fr.refl w6 [some (w5.heap.size)]).set ⟨w5.heap.size, 0, none⟩ _ (.inl (by simp))).set ⟨w5.heap.size, 1, none⟩ _ (.inl (by simp))) (fun o ho k hk e => by simp at ho; subst ho; simp [Value.ownBlock] at hk e; omega)
             ·go_simp
              refine hK.out _ _ (HK.out _ (Later.new _ (Later.new _ (Later.drew L0)))) (fun hHeldN => ?_)
              clear hK K hHeld
              have hHeld := hHeldN
              clear hHeldN
              try simp only [Act.put, List.setIfInBounds_toArray, List.set_cons_zero, List.set_cons_succ]
              refine wpAnyH_ready (rs := [17]) (by kernel_rfl) (by simp) ?_
              refine AllReadyH.cons (o := ⟨_, _, _, _, _, _⟩) rfl (fun K hK => ?_) AllReadyH.nil
              refine step_append_lies _ (by rfl) _ _ _ (by rfl) wz.heap.size 3 i0 (.int .i64 0) 1 8 elIntN.und hi0 hz0 hz1 hz2 rfl (by omega) (.slice (some ⟨wz.heap.size, 0, none⟩) 0 0) 0 [] (by rfl) ((own_mono (own_empty _ _) (Later.below (Later.drew L0)).size).alloc _) ⟨g1, 0, none⟩ l1 m1 (ints .i64 s1) (by rfl) (by rw [ints_length, Hr1.out.1, Nat.mul_one]) (rd_news (Hr1.out.below (Later.below (Later.new _ (Later.new _ (Later.drew L0)))))) (ints_cells .i64 s1) hp1 (by unfold maxLen; omega) (by omega) (Later.below (Later.new _ (Later.new _ (Later.drew L0)))).size _ rfl ?_
              intro gA capA w5 hown5 hgrow5 hat5 hlt5
              simp only [Nat.zero_add, List.nil_append] at hown5 hlt5 ⊢
              have s5 : wz.heap.size + 2 ≤ w5.heap.size := by have h9 := hgrow5.size; (try simp at h9); omega
              have e5 : wz.heap.size = gA ∨ gA = wz.heap.size + 2 := by simpa [Value.ownBlock] using hat5
              have L5 : Later wz w5 := Later.grown (Later.new _ (Later.new _ (Later.drew L0))) hgrow5 (fun k hk => by simp [Value.ownBlock] at hk; omega)
              have hB : w5.heap[wz.heap.size + 1]? = some (.cells #[.int .i64 0, .slice none 0 0] 171) := by
               rw [← show (wz.drew.alloc (.cells #[] 3)).heap.size = wz.heap.size + 1 from by simp]
               exact (hgrow5.block _ (by simp) (by simp [Value.ownBlock])).trans (heap_alloc_new (wz.drew.alloc (.cells #[] 3)) (.cells #[.int .i64 0, .slice none 0 0] 171))
              refine hK.out _ _ (HK.out _ L5) (fun hHeldN => ?_)
              clear hK K hHeld
              have hHeld := hHeldN
              clear hHeldN
              try simp only [Act.put, List.setIfInBounds_toArray, List.set_cons_zero, List.set_cons_succ]
              refine wpAnyH_ready (rs := [23]) (by kernel_rfl) (by simp) ?_
              refine AllReadyH.cons (o := ⟨_, _, _, _, _, _⟩) rfl (fun K hK => ?_) AllReadyH.nil
              refine step_append_lies _ (by rfl) _ _ _ (by rfl) wz.heap.size 3 i0 (.int .i64 0) 1 8 elIntN.und hi0 hz0 hz1 hz2 rfl (by omega) (.slice (some ⟨gA, 0, none⟩) l1 capA) l1 (ints .i64 s1) (by rfl) hown5 ⟨g2, 0, none⟩ l2 m2 (ints .i64 s2) (by rfl) (by rw [ints_length, Hr2.out.1, Nat.mul_one]) (rd_news (Hr2.out.below (Later.below L5))) (ints_cells .i64 s2) hp2 (by unfold maxLen; omega) (by omega) (Later.below L5).size _ rfl ?_
              intro gB capB w6 hown6 hgrow6 hat6 hlt6
              have s6 : w5.heap.size ≤ w6.heap.size := by have h9 := hgrow6.size; (try simp at h9); omega
              have e6 : gA = gB ∨ gB = w5.heap.size := by simpa [Value.ownBlock] using hat6
              have L6 : Later wz w6 := Later.grown L5 hgrow6 (fun k hk => (hown5.lt k hk).1)
              have hB : w6.heap[wz.heap.size + 1]? = some (.cells #[.int .i64 0, .slice none 0 0] 171) := (hgrow6.block _ (by omega) (by simp [Value.ownBlock]; omega)).trans hB
              refine hK.out _ _ (HK.out _ L6) (fun hHeldN => ?_)
              clear hK K hHeld
              have hHeld := hHeldN
              clear hHeldN
              try simp only [Act.put, List.setIfInBounds_toArray, List.set_cons_zero, List.set_cons_succ]
              refine' wpAnyH_take (i := 24) (oi := ⟨_, _, _, _, _, _⟩) rfl (by kernel_rfl) (by kernel_rfl) (by kernel_rfl) (fun _ _ _ h => h) (Or.inl ⟨by rfl, ?a77⟩) (by assumption) ?b77
              case a77 => (intro w hSw; (try dsimp only at hSw); go_simp; try with_reducible rfl)
              try simp only [Act.put, List.setIfInBounds_toArray, List.set_cons_zero, List.set_cons_succ]
              refine wpAnyH_done (by kernel_rfl) ?_ _
              change wpList _ _ _ _ _ _
              have c0 := cell_of_row _ (wz.heap.size + 1) 0 _ _ _ hB
              have c1 := cell_of_row _ (wz.heap.size + 1) 1 _ _ _ hB
              have f0 := frozen_of_row _ (wz.heap.size + 1) 0 _ _ hB
              have f1 := frozen_of_row _ (wz.heap.size + 1) 1 _ _ hB
              have hB1 : (w6.setCell ⟨wz.heap.size + 1, 0, none⟩ (.int .i64 ws')).heap[wz.heap.size + 1]? = some (.cells #[.int .i64 ws', .slice none 0 0] 171) := heap_setCell_same _ _ _ _ _ _ hB
              have hB2 : ((w6.setCell ⟨wz.heap.size + 1, 0, none⟩ (.int .i64 ws')).setCell ⟨wz.heap.size + 1, 1, none⟩ (.slice (some ⟨gB, 0, none⟩) (l1 + l2) capB)).heap[wz.heap.size + 1]? = some (.cells #[.int .i64 ws', .slice (some ⟨gB, 0, none⟩) (l1 + l2) capB] 171) := heap_setCell_same _ _ _ _ _ _ hB1
              have hne : gB ≠ wz.heap.size + 1 := by omega
              go_wp2
              go_meet
              rw [sw2]
              refine ⟨wz.heap.size + 1, gB, capB, rfl, by omega, (hown6.lt gB rfl).1, fun e => hne e.symm, cell_of_row _ _ 0 _ _ (0, 0) hB2, cell_of_row _ _ 1 _ _ (0, 0) hB2, ?_, (L6.bel.setCell (p := ⟨wz.heap.size + 1, 0, none⟩) (Nat.le_succ _) _).setCell (p := ⟨wz.heap.size + 1, 1, none⟩) (Nat.le_succ _) _⟩
              rw [ints_append]
              exact own_fr hown6 (((Fr.refl w6 [some (wz.heap.size + 1)]).set ⟨wz.heap.size + 1, 0, none⟩ _ (.inl (by simp))).set ⟨wz.heap.size + 1, 1, none⟩ _ (.inl (by simp))) (fun o ho k hk e => by simp at ho; subst ho; simp [Value.ownBlock] at hk e; omega)
            ·go_simp
             refine hK.out _ _ (HK.out _ (Later.new _ (Later.drew L0))) (fun hHeldN => ?_)
             clear hK K hHeld
             have hHeld := hHeldN
             clear hHeldN
             try simp only [Act.put, List.setIfInBounds_toArray, List.set_cons_zero, List.set_cons_succ]
             refine wpAnyH_ready (rs := [11]) (by kernel_rfl) (by simp) ?_
             refine AllReadyH.cons (o := ⟨_, _, _, _, _, _⟩) rfl (fun K hK => ?_) AllReadyH.nil
             go_simp
             refine hK.out _ _ (HK.out _ (Later.new _ (Later.new _ (Later.drew L0)))) (fun hHeldN => ?_)
             clear hK K hHeld
             have hHeld := hHeldN
             clear hHeldN
             try simp only [Act.put, List.setIfInBounds_toArray, List.set_cons_zero, List.set_cons_succ]
             refine wpAnyH_ready (rs := [17]) (by kernel_rfl) (by simp) ?_
             refine AllReadyH.cons (o := ⟨_, _, _, _, _, _⟩) rfl (fun K hK => ?_) AllReadyH.nil
             refine step_append_lies _ (by rfl) _ _ _ (by rfl) wz.heap.size 3 i0 (.int .i64 0) 1 8 elIntN.und hi0 hz0 hz1 hz2 rfl (by omega) (.slice (some ⟨wz.heap.size + 1, 0, none⟩) 0 0) 0 [] (by rfl) (by have h := own_mono (base' := wz.heap.size) (own_empty (wz.drew.alloc (.cells #[.int .i64 0, .slice none 0 0] 171)) 3) (Later.below (Later.new _ (Later.drew L0))).size; rwa [show (wz.drew.alloc (.cells #[.int .i64 0, .slice none 0 0] 171)).heap.size = wz.heap.size + 1 from by simp] at h) ⟨g1, 0, none⟩ l1 m1 (ints .i64 s1) (by rfl) (by rw [ints_length, Hr1.out.1, Nat.mul_one]) (rd_news (Hr1.out.below (Later.below (Later.new _ (Later.new _ (Later.drew L0)))))) (ints_cells .i64 s1) hp1 (by unfold maxLen; omega) (by omega) (Later.below (Later.new _ (Later.new _ (Later.drew L0)))).size _ rfl ?_
             intro gA capA w5 hown5 hgrow5 hat5 hlt5
             simp only [Nat.zero_add, List.nil_append] at hown5 hlt5 ⊢
             have s5 : wz.heap.size + 2 ≤ w5.heap.size := by have h9 := hgrow5.size; (try simp at h9); omega
             have e5 : wz.heap.size + 1 = gA ∨ gA = wz.heap.size + 2 := by simpa [Value.ownBlock] using hat5
             have L5 : Later wz w5 := Later.grown (Later.new _ (Later.new _ (Later.drew L0))) hgrow5 (fun k hk => by simp [Value.ownBlock] at hk; omega)
             have hB : w5.heap[wz.heap.size]? = some (.cells #[.int .i64 0, .slice none 0 0] 171) := (hgrow5.block _ (by simp; omega) (by simp [Value.ownBlock])).trans ((Below.heap_alloc _ _ _ (by simp)).trans (heap_alloc_new wz.drew (.cells #[.int .i64 0, .slice none 0 0] 171)))
             refine hK.out _ _ (HK.out _ L5) (fun hHeldN => ?_)
             clear hK K hHeld
             have hHeld := hHeldN
             clear hHeldN
             try simp only [Act.put, List.setIfInBounds_toArray, List.set_cons_zero, List.set_cons_succ]
             refine wpAnyH_ready (rs := [23]) (by kernel_rfl) (by simp) ?_
             refine AllReadyH.cons (o := ⟨_, _, _, _, _, _⟩) rfl (fun K hK => ?_) AllReadyH.nil
             refine step_append_lies _ (by rfl) _ _ _ (by rfl) wz.heap.size 3 i0 (.int .i64 0) 1 8 elIntN.und hi0 hz0 hz1 hz2 rfl (by omega) (.slice (some ⟨gA, 0, none⟩) l1 capA) l1 (ints .i64 s1) (by rfl) hown5 ⟨g2, 0, none⟩ l2 m2 (ints .i64 s2) (by rfl) (by rw [ints_length, Hr2.out.1, Nat.mul_one]) (rd_news (Hr2.out.below (Later.below L5))) (ints_cells .i64 s2) hp2 (by unfold maxLen; omega) (by omega) (Later.below L5).size _ rfl ?_
             intro gB capB w6 hown6 hgrow6 hat6 hlt6
             have s6 : w5.heap.size ≤ w6.heap.size := by have h9 := hgrow6.size; (try simp at h9); omega
             have e6 : gA = gB ∨ gB = w5.heap.size := by simpa [Value.ownBlock] using hat6
             have L6 : Later wz w6 := Later.grown L5 hgrow6 (fun k hk => (hown5.lt k hk).1)
             have hB : w6.heap[wz.heap.size]? = some (.cells #[.int .i64 0, .slice none 0 0] 171) := (hgrow6.block _ (by omega) (by simp [Value.ownBlock]; omega)).trans hB
             refine hK.out _ _ (HK.out _ L6) (fun hHeldN => ?_)
             clear hK K hHeld
             have hHeld := hHeldN
             clear hHeldN
             try simp only [Act.put, List.setIfInBounds_toArray, List.set_cons_zero, List.set_cons_succ]
             refine' wpAnyH_take (i := 24) (oi := ⟨_, _, _, _, _, _⟩) rfl (by kernel_rfl) (by kernel_rfl) (by kernel_rfl) (fun _ _ _ h => h) (Or.inl ⟨by rfl, ?a78⟩) (by assumption) ?b78
             case a78 => (intro w hSw; (try dsimp only at hSw); go_simp; try with_reducible rfl)
             try simp only [Act.put, List.setIfInBounds_toArray, List.set_cons_zero, List.set_cons_succ]
             refine wpAnyH_done (by kernel_rfl) ?_ _
             change wpList _ _ _ _ _ _
             have c0 := cell_of_row _ (wz.heap.size) 0 _ _ _ hB
             have c1 := cell_of_row _ (wz.heap.size) 1 _ _ _ hB
             have f0 := frozen_of_row _ (wz.heap.size) 0 _ _ hB
             have f1 := frozen_of_row _ (wz.heap.size) 1 _ _ hB
             have hB1 : (w6.setCell ⟨wz.heap.size, 0, none⟩ (.int .i64 ws')).heap[wz.heap.size]? = some (.cells #[.int .i64 ws', .slice none 0 0] 171) := heap_setCell_same _ _ _ _ _ _ hB
             have hB2 : ((w6.setCell ⟨wz.heap.size, 0, none⟩ (.int .i64 ws')).setCell ⟨wz.heap.size, 1, none⟩ (.slice (some ⟨gB, 0, none⟩) (l1 + l2) capB)).heap[wz.heap.size]? = some (.cells #[.int .i64 ws', .slice (some ⟨gB, 0, none⟩) (l1 + l2) capB] 171) := heap_setCell_same _ _ _ _ _ _ hB1
             have hne : gB ≠ wz.heap.size := by omega
             go_wp2
             go_meet
             rw [sw2]
             refine ⟨wz.heap.size, gB, capB, rfl, by omega, (hown6.lt gB rfl).1, fun e => hne e.symm, cell_of_row _ _ 0 _ _ (0, 0) hB2, cell_of_row _ _ 1 _ _ (0, 0) hB2, ?_, (L6.bel.setCell (p := ⟨wz.heap.size, 0, none⟩) (Nat.le_refl _) _).setCell (p := ⟨wz.heap.size, 1, none⟩) (Nat.le_refl _) _⟩
             rw [ints_append]
             exact own_fr hown6 (((Fr.refl w6 [some (wz.heap.size)]).set ⟨wz.heap.size, 0, none⟩ _ (.inl (by simp))).set ⟨wz.heap.size, 1, none⟩ _ (.inl (by simp))) (fun o ho k hk e => by simp at ho; subst ho; simp [Value.ownBlock] at hk e; omega)
           case rest =>
            obtain ⟨ab, g, cap, rfl, hab, hgz, hne, ca0, ca1, Hg, Hw⟩ := hcut
            have HSx := Lib.hid (HSz.out.later Hw.out)
            have hbz := HSz.out.big
            have Hat2 := Lib.hid HSx.out.g
            have Hne := Lib.hid hne
            have hnd := Lib.hid (HI.out.nd)
            obtain ⟨T, hT⟩ : ∃ T : HT, T = .node (L.getD p default) (L.getD q default) := ⟨_, rfl⟩
            have hTs : T.syms = (L.getD p default).syms ++ (L.getD q default).syms := by rw [hT]; rfl
            have hTl : T.syms.length = l1 + l2 := by rw [hTs, List.length_append, ← Hl1e.out, ← Hl2e.out]
            have hTi : s1 ++ s2 = symI T := by rw [Hs1.out, Hs2.out, hT]; exact sym_two _ _
            have hTn : T.syms.Nodup := by rw [hTs]; exact HI.out.nd2 hp hq1 hq2
            have hTk : ∀ s ∈ T.syms, s < k := fun s hs => by
             rw [hTs] at hs
             rw [← hlen.out]
             exact HI.out.ltTwo hp hq1 hs
            have HT := Lib.hid hT
            have HTs := Lib.hid hTs
            have HTl := Lib.hid hTl
            have HTn := Lib.hid hTn
            have HTk := Lib.hid hTk
            rw [hTi, ← hTl] at Hg
            rw [← hTl] at ca1
            have hTw : ws' = T.wt := by rw [hws', hT]; rfl
            rw [hTw] at ca0
            clear hT hTs hTi hTn hTk Hr1 Hr2 y0 y1 z0 z1 hTl Hs1 Hs2 Hl1e Hl2e sw L0 hws' hTw
            obtain ⟨g', cap', e9, hgo1, hgo2, hgo3, hgcell, _⟩ := own_form Hg.out (syms_pos T)
            cases e9
            have Hgc : Hid (∀ j (h : j < T.syms.length), wc.cell? ⟨g, j, none⟩ = some (.int .i64 ((T.syms[j] : Nat) : Int))) := fun j hj => by
             have h9 := hgcell j _ (ints_get (by rw [symI_length]; exact hj))
             rwa [rd_symI hj] at h9
            have hTc : T.syms.length ≤ 200000 := by have := HTl.out; omega
            have hgrd : Rd wc .i64 (some ⟨g, 0, none⟩) T.syms.length (symI T) := by
             obtain ⟨_, _, e8, _, h8⟩ := own_rd Hg.out
             cases e8
             exact h8
            have Hgrd := Lib.hid hgrd
            have hgw : g ≠ w.heap.size := by omega
            have haw : ab ≠ w.heap.size := by omega
            clear hgcell hgrd
            obtain ⟨w5, hw5⟩ : ∃ W, W = wc := ⟨_, rfl⟩
            subst hw5
            go_wp2
            go_loopw [11] (fun i wy => ∃ (i' : Nat) (out' : List Int), i' ≤ T.syms.length ∧ i = .int .i64 i' ∧ Hid (RefSt w wy k (.slice (some ⟨gl, 0, none⟩) L.length c) L cs out') ∧ Hid (Raised out out' T.syms i') ∧ Hid (Fr w5 wy [some w.heap.size])) (fun i _ => T.syms.length - (intOf i).toNat)
            case atStart => exact ⟨0, out, by omega, rfl, HSx.out, Raised.zero _ _, Fr.refl _ _⟩
            case round =>
             obtain ⟨i', out', hi, rfl, HSy, HR5, HF⟩ := hrel
             have hoy := HSy.out.outLen
             have cb0 := HF.out.cell ca0 (by simpa using Ne.symm haw)
             have cb1 := HF.out.cell ca1 (by simpa using Ne.symm haw)
             by_cases hlt5 : i' < T.syms.length
             ·obtain ⟨sN, hsN⟩ : ∃ s, s = T.syms[i'] := ⟨_, rfl⟩
              have z := HF.out.cell (Hgc.out i' hlt5) (by simpa using Ne.symm hgw)
              have hsk : sN < k := HTk.out sN (by rw [hsN]; exact List.getElem_mem _)
              obtain ⟨hr0, hRn⟩ := HR5.out.next HTn.out hlt5 (by rw [← hsN, HSx.out.outLen]; exact hsk)
              rw [← hsN] at z hr0 hRn
              have oc := HSy.out.o.cellAt sN (by omega)
              rw [ints_get (by rw [hoy]; exact hsk)] at oc
              have of' := HSy.out.o.frozenAt sN
              have hbn := HI.out.bnd sN (by rw [hlen.out]; exact hsk)
              rw [← hr0, hlen.out] at hbn
              have HRn := Lib.hid hRn
              clear hr0 hRn hsN
              go_wp2
              go_roundw
              case rel => exact ⟨i' + 1, out'.set sN (rd out' sN + 1), by omega, by go_num, HSy.out.set sN _, HRn.out, HF.out.set _ _ (.inl (by simp))⟩
              case measure => simp [intOf]; omega
             ·obtain rfl : i' = T.syms.length := by omega
              obtain ⟨w6, hw6⟩ : ∃ W, W = wr := ⟨_, rfl⟩
              subst hw6
              obtain ⟨gl', c', e7, hgl1, hgl2, hgl3, hat6⟩ := HSy.out.g.at' (by omega)
              cases e7
              have Hat6 := Lib.hid hat6
              have hbig6 := HSy.out.big
              have hsz6 := HF.out.size
              have Hgr6 := Lib.hid (Hgrd.out.frS HF.out (fun b o e => by cases e; simpa using hgw))
              clear hat6
              go_wp2
              go_loopw [12, 13] (fun rv i wv => ∃ (j : Nat) (cs' : List Value), j ≤ L.length ∧ i = .int .i64 j ∧ Hid (GRow wv w6.heap.size (w.heap.size + 1) rv (restTo L p q j) cs') ∧ Hid (Below w6.heap.size w6 wv)) (fun _ i _ => L.length - (intOf i).toNat)
              case atStart => exact ⟨0, [], by omega, rfl, GRow.nil _ _ _, Below.refl _ _⟩
              case round =>
               obtain ⟨j, cs', hj, rfl, HG, HB⟩ := hrel
               have hrl := restTo_len L p q j
               have hsz7 := HB.out.size
               by_cases hlt6 : j < L.length
               ·obtain ⟨x0, gs, cc, x1, hx1, hx2, hx3, hx4⟩ := Hat6.out j hlt6
                have hgs := rd_block_lt hx4 (syms_pos _)
                have Hx4 := Lib.hid (hx4.below HB.out)
                have x0 := kept_cell HB.out x0
                have x1 := kept_cell HB.out x1
                clear hx4
                by_cases hjp : j = p
                ·have hrt : restTo L p q (j + 1) = restTo L p q j := by
                  show (if j = p ∨ j = q then _ else _) = _
                  rw [if_pos (.inl hjp)]
                 have Hrt := Lib.hid hrt
                 have d1 : ((j : Int) == (p : Int)) = true := by simp [hjp]
                 clear hrt
                 go_wp2
                 go_roundw
                 case rel => exact ⟨j + 1, cs', by omega, by go_num, by rw [Hrt.out]; exact HG.out, HB.out⟩
                 case measure => simp [intOf]; omega
                ·have d1 : ((j : Int) == (p : Int)) = false := by simp; omega
                 have d2 : ((j : Int) != (p : Int)) = true := by simp; omega
                 have d3 : decide ((j : Int) = (p : Int)) = false := by simp; omega
                 by_cases hjq : j = q
                 ·have hrt : restTo L p q (j + 1) = restTo L p q j := by
                   show (if j = p ∨ j = q then _ else _) = _
                   rw [if_pos (.inr hjq)]
                  have Hrt := Lib.hid hrt
                  have e1 : ((j : Int) == (q : Int)) = true := by simp [hjq]
                  clear hrt
                  go_wp2
                  go_roundw
                  case rel => exact ⟨j + 1, cs', by omega, by go_num, by rw [Hrt.out]; exact HG.out, HB.out⟩
                  case measure => simp [intOf]; omega
                 ·have hrt : restTo L p q (j + 1) = restTo L p q j ++ [L.getD j default] := by
                   show (if j = p ∨ j = q then _ else _) = _
                   rw [if_neg (by omega)]
                  have Hrt := Lib.hid hrt
                  have e1 : ((j : Int) == (q : Int)) = false := by simp; omega
                  have e2 : ((j : Int) != (q : Int)) = true := by simp; omega
                  have e3 : decide ((j : Int) = (q : Int)) = false := by simp; omega
                  obtain ⟨A3, p3, rfl⟩ := own_slice HG.out.own
                  clear hrt
                  go_wp2_with (at_builtin; refine wpList_app3 rfl _ _ rfl elGrp HG.out.own rfl rfl rfl rfl rfl (by omega) hsz7 ?_; intro g7 cap7 w7 hown7 hfr7 hat7 hlt7)
                  rw [← getD_at hlt6] at hown7
                  go_roundw
                  case rel => exact ⟨j + 1, _, by omega, by go_num, by rw [Hrt.out]; exact HG.out.push (L.getD j default) hx2 hx1 Hx4.out (fun e => by have := (HG.out.own.lt _ e).1; omega) hfr7 hown7 hat7, HB.out.trans (hfr7.below hsz7 (fun o ho k e => by simp at ho; subst ho; exact (HG.out.own.lt _ e).1))⟩
                  case measure => simp [intOf]; omega
               ·obtain rfl : j = L.length := by omega
                have hrf := restTo_fin hp hq1 hq2
                obtain ⟨A3, p3, rfl⟩ := own_slice HG.out.own
                have cc0 := kept_cell HB.out cb0
                have cc1 := kept_cell HB.out cb1
                have Hgr7 := Lib.hid (Hgr6.out.below HB.out)
                go_wp2_with (at_builtin; refine wpList_app3 rfl _ _ rfl elGrp HG.out.own rfl rfl rfl rfl rfl (by omega) hsz7 ?_; intro g8 cap8 w8 hown8 hfr8 hat8 hlt8)
                have hb8 : Below w6.heap.size w6 w8 := HB.out.trans (hfr8.below hsz7 (fun o ho k e => by simp at ho; subst ho; exact (HG.out.own.lt _ e).1))
                have hri : RInv ws (restTo L p q L.length ++ [T]) out' := by
                 rw [HT.out]
                 exact HI.out.step (by omega) hp Hp1.out Hp2.out hq1 hq2 Hq3.out Hq4.out (by rw [hoy, hlen.out]) (fun s hs => by
                  have h9 := HR5.out.2 s (by rw [HSx.out.outLen, ← hlen.out]; exact hs)
                  rw [List.take_length, HTs.out] at h9
                  exact h9)
                go_roundw
                case rel =>
                 exact ⟨_, _, out', ⟨(HG.out.push T (by omega) hgo3 Hgr7.out (fun e => by have := (HG.out.own.lt _ e).1; omega) hfr8 hown8 hat8).mono (by omega), own_below HSy.out.o hb8, below_seq HSy.out.bel (Nat.le_refl _) hb8⟩, hri⟩
                case measure => simp [rowLen]; omega
end Go.Proofs.YtdbkbeojedndbaaGreatDoor
