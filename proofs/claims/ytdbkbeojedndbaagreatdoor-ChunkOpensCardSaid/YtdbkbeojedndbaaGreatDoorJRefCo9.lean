/-
  Texts joined into one file: LzW, Inf2.
-/
import Derived.Test.YtdbkbeojedndbaaGreatDoorJRefCo8
import Derived.Test.YtdbkbeojedndbaaGreatDoorJRefCo6
import Derived.Test.YtdbkbeojedndbaaGreatDoorJRefCo3
import Derived.Test.YtdbkbeojedndbaaGreatDoorJRefCo2
import Derived.IntWalk
import Derived.RegionTactic
import Derived.Deep.Cut
import Derived.Deep.CutRange
import Derived.Deep.CutBlock
import Derived.Deep.DeepCutAuto
namespace Go.Proofs.YtdbkbeojedndbaaGreatDoor
open Go.RowKit Go.Maps

set_option maxHeartbeats 1000000 in
theorem same_calls (f : Nat) (A : Option Addr) (len cap p q : Nat) (bs : List Int) (w : World) (c0 : w.cell? ⟨f, 0, none⟩ = some (.slice A len cap)) (hR : Rd w .u8 A len bs) (hlen : len ≤ 1000000) (hpq : p < q) (hq : q < len) :
  Calls Tryz.prog 96 #[.pointer (some ⟨f, 0, none⟩), .int .i64 p, .int .i64 q] w fun e w' => e = .returned (.int .i64 (sameN bs p q)) ∧ Below w.heap.size w w' := by
 have Hl := Lib.hid hR.1
 obtain ⟨b, o, rfl, hc⟩ := hR.2 (by omega)
 have Hc := Lib.hid hc
 have C0 := Lib.hid c0
 clear hR hc c0
 go_enter Tryz.func96, Tryz.ntmps96
 go_wp2
 go_loopw [7] (fun k wr => ∃ m : Nat, m ≤ 258 ∧ k = .int .i64 m ∧ Hid (sameFrom bs p q (258 - m) m = sameN bs p q) ∧ Below w.heap.size w wr) (fun k _ => 258 - (intOf k).toNat)
 case atStart => exact ⟨0, by omega, rfl, rfl, Below.refl _ _⟩
 case round =>
  obtain ⟨m, hm, rfl, HS, hbel⟩ := hrel
  have Hbel := Lib.hid hbel
  have z0 := kept_cell hbel C0.out
  clear hbel
  have s1 : IntKind.i64.wrap ((p : Int) + m) = p + m := IntWalk.i64_in _ (by omega)
  have s2 : ((p : Int) + m).toNat = p + m := by omega
  have s3 : 0 ≤ (p : Int) + m := by omega
  have r1 : IntKind.i64.wrap ((q : Int) + m) = q + m := IntWalk.i64_in _ (by omega)
  have r2 : ((q : Int) + m).toNat = q + m := by omega
  have r3 : 0 ≤ (q : Int) + m := by omega
  by_cases h258 : m < 258
  ·have d0 : decide ((m : Int) < 258) = true := by simp; omega
   have hS := HS.out
   rw [show 258 - m = (257 - m) + 1 from by omega] at hS
   by_cases hlt : q + m < len
   ·have z1 := kept_cell Hbel.out (Hc.out (p + m) (by omega))
    have z2 := kept_cell Hbel.out (Hc.out (q + m) hlt)
    have s4 : decide ((q : Int) + m < len) = true := by simp; omega
    have s5 : (q : Int) + m < len := by omega
    have s6 : (p : Int) + m < len := by omega
    cases he : (rd bs (p + m) == rd bs (q + m))
    ·have e2 : sameFrom bs p q (257 - m + 1) m = m := by
      unfold sameFrom
      rw [if_neg (fun hh => by simp at he; exact he hh.2)]
     rw [e2] at hS
     have HS2 := Lib.hid hS
     clear hS e2
     go_wp2
     go_quiet (fail)
     go_wp2
     go_ret
     exact ⟨by rw [← HS2.out]; rfl, Hbel.out.trans ⟨rfl, rfl, rfl, Nat.le_refl _, fun _ _ => rfl⟩⟩
    ·have e2 : sameFrom bs p q (257 - m + 1) m = sameFrom bs p q (257 - m) (m + 1) := by
      conv => lhs; unfold sameFrom
      rw [if_pos ⟨by rw [Hl.out]; exact hlt, by simpa using he⟩]
     rw [e2] at hS
     have HS2 := Lib.hid hS
     clear hS e2
     go_wp2
     go_quiet (fail)
     go_wp2
     go_roundw
     case rel => exact ⟨m + 1, by omega, by go_num, by rw [show 258 - (m + 1) = 257 - m from by omega]; exact HS2.out, Hbel.out.trans ⟨rfl, rfl, rfl, Nat.le_refl _, fun _ _ => rfl⟩⟩
     case measure => simp [intOf]; omega
   ·have s4 : decide ((q : Int) + m < len) = false := by simp; omega
    have e2 : sameFrom bs p q (257 - m + 1) m = m := by
     unfold sameFrom
     rw [if_neg (fun hh => by rw [Hl.out] at hh; exact hlt hh.1)]
    rw [e2] at hS
    have HS2 := Lib.hid hS
    clear hS e2
    go_wp2
    go_quiet (fail)
    go_wp2
    go_ret
    exact ⟨by rw [← HS2.out]; rfl, Hbel.out.trans ⟨rfl, rfl, rfl, Nat.le_refl _, fun _ _ => rfl⟩⟩
  ·obtain rfl : m = 258 := by omega
   have d0 : decide (((258 : Nat) : Int) < 258) = false := by decide
   have hS := HS.out
   have e2 : sameFrom bs p q (258 - 258) 258 = 258 := rfl
   rw [e2] at hS
   have HS2 := Lib.hid hS
   clear hS e2
   go_wp2
   go_quiet (fail)
   go_wp2
   go_ret
   exact ⟨by rw [← HS2.out]; rfl, Hbel.out.trans ⟨rfl, rfl, rfl, Nat.le_refl _, fun _ _ => rfl⟩⟩
theorem FinAt.mid {w w1 : World} {B f bm : Nat} {A : Option Addr} {len cap : Nat} {bs : List Int} {i : Nat} {pv : Value} (H : FinAt w B f bm A len cap bs i pv) (hf : Fr w w1 [pv.ownBlock]) :
  w1.heap[f]? = some (.cells #[.slice A len cap, .map (some bm), pv] 124 (0, 0)) ∧ (∃ D : DataW Unit, w1.ownsMap Tryz.prog 156 (plainElem Tryz.prog 3) bm i D ∧ LastD D bs i) := by
 have hap := own_apart H.at' (by decide) H.own
 refine ⟨(hf.block f H.lt (fun o ho e => ?_)).trans H.at', ?_⟩
 ·simp at ho
  subst ho
  exact hap f e rfl
 ·obtain ⟨D, h1, h2⟩ := H.map
  exact ⟨D, map_fr h1 hf (fun o ho e => by simp at ho; subst ho; exact map_apart h1 H.own e), h2⟩
theorem FinAt.fin {w W3 W4 : World} {B f bm g pc : Nat} {A : Option Addr} {len cap : Nat} {bs : List Int} {i : Nat} {pv : Value} {D : DataW Unit} {kl : Lit} (H : FinAt w B f bm A len cap bs i pv) (hrow : W3.heap[f]? = some (.cells #[.slice A len cap, .map (some bm), .slice (some ⟨g, 0, none⟩) (i + 1) pc] 124 (0, 0)))
  (hown : W3.ownsRow B 3 1 (.slice (some ⟨g, 0, none⟩) (i + 1) pc) (i + 1) (ints .i64 (prevs bs (i + 1)))) (hD : W3.ownsMap Tryz.prog 156 (plainElem Tryz.prog 3) bm i D) (hbl : Fr w W3 [some f, some bm, pv.ownBlock]) (hB : B ≤ w.heap.size)
  (hD4 : W4.ownsMap Tryz.prog 156 (plainElem Tryz.prog 3) bm (i + 1) (D.put kl (.lit (.int .i64 (i : Int))))) (hg4 : W3.drew.grownBy W4 (some bm)) (hL : LastD (D.put kl (.lit (.int .i64 (i : Int)))) bs (i + 1)) :
  FinAt W4 B f bm A len cap bs (i + 1) (.slice (some ⟨g, 0, none⟩) (i + 1) pc) ∧ Fr w W4 [some f, some bm, pv.ownBlock] := by
 have hfr : Fr W3 W4 [some bm] := ((Fr.refl W3 [some bm]).drew).trans (Fr.ofGrown hg4) (fun o ho => .inl ho)
 have hf4 : Fr w W4 [some f, some bm, pv.ownBlock] := hbl.trans hfr (fun o ho => by simp at ho; subst ho; exact .inl (by simp))
 have hb4 := H.bel hf4 hB
 have hc0 := cell_of_row W3 f 0 _ _ (0, 0) hrow
 have hfb : f ≠ bm := map_ne (a := ⟨f, 0, none⟩) hD hc0
 refine ⟨⟨(hfr.block f (Array.getElem?_eq_some_iff.1 hrow).1 (fun o ho e => ?_)).trans hrow, own_fr hown hfr (fun o ho k hk e => ?_), ⟨_, hD4, hL⟩, H.rd.belowB hb4 H.old, H.old, H.bf, H.bm⟩, hf4⟩
 ·simp at ho
  subst ho
  cases e
  exact hfb rfl
 ·simp at ho
  subst ho
  cases e
  exact map_apart hD hown hk
set_option maxHeartbeats 2000000 in
set_option maxRecDepth 100000 in
theorem enter_calls (B f bm i : Nat) (A : Option Addr) (len cap : Nat) (bs : List Int) (pv : Value) (w : World) (H : FinAt w B f bm A len cap bs i pv) (hb : ∀ j, j < len → 0 ≤ rd bs j ∧ rd bs j ≤ 255) (hlen : len ≤ 1000000) (hi : i < len) (hcap : len ≤ cap) (hB : B ≤ w.heap.size) :
  Calls Tryz.prog 76 #[.pointer (some ⟨f, 0, none⟩), .int .i64 i] w fun e w' => ∃ pv', e = .returned (.tuple #[]) ∧ FinAt w' B f bm A len cap bs (i + 1) pv' ∧ Fr w w' [some f, some bm, pv.ownBlock] := by
 have HH := Lib.hid H
 have c2 := H.c2
 have hl : bs.length = len := H.rd.1
 obtain ⟨b, o, rfl, hc⟩ := H.rd.2 (by omega)
 have Hc := Lib.hid hc
 have Hl := Lib.hid hl
 have Hb := Lib.hid hb
 clear H hc hl hb
 go_enter Tryz.func76, Tryz.ntmps76
 go_upto_region 1 with (first | (at_builtin; refine wpList_app3 rfl _ _ rfl elIntN HH.out.own rfl rfl (by simp) rfl rfl (by omega) hB ?_; intro g pc w1 hown1 hfr1 hg1 hlt1; obtain ⟨hrow1, D, hD1, hL1⟩ := HH.out.mid hfr1; have q2 := cell_of_row w1 f 2 _ _ (0, 0) hrow1; have fz2 := frozen_of_row w1 f 2 _ _ hrow1; simp only [List.getElem?_toArray] at q2; have Hrow1 := Lib.hid hrow1; have HD1 := Lib.hid hD1; have HL1 := Lib.hid hL1; have Hown1 := Lib.hid hown1; have Hfr1 := Lib.hid hfr1; clear hrow1 hD1 hL1 hown1 hfr1) | fail)
 obtain ⟨W1, hW1⟩ : ∃ W, W = w1.setCell ⟨f, 2, none⟩ (.slice (some ⟨g, 0, none⟩) (i + 1) pc) := ⟨_, rfl⟩
 rw [← hW1]
 have hne : f ≠ g := fun e => by
  have h1 := own_apart Hrow1.out (by decide) Hown1.out
  exact h1 g rfl (by rw [e])
 have hrow2 : W1.heap[f]? = some (.cells #[.slice (some ⟨b, o, none⟩) len cap, .map (some bm), .slice (some ⟨g, 0, none⟩) (i + 1) pc] 124 (0, 0)) := by
  rw [hW1]
  exact heap_setCell_same w1 f 2 _ _ _ Hrow1.out
 have hown2 : W1.ownsRow B 3 1 (.slice (some ⟨g, 0, none⟩) (i + 1) pc) (i + 1) (ints .i64 (prevs bs i ++ [-1])) := by
  rw [hW1, ints_append]
  exact ownsRow_setCell_other (a := ⟨f, 2, none⟩) Hown1.out (by simpa [Value.ownBlock] using hne.symm) _
 have hD2 : W1.ownsMap Tryz.prog 156 (plainElem Tryz.prog 3) bm i D := by
  rw [hW1]
  refine map_fr HD1.out ((Fr.refl w1 [some f]).set _ _ (.inl (by simp))) (fun o ho e => ?_)
  simp at ho
  subst ho
  cases e
  exact map_ne HD1.out q2 rfl
 have hbl : Fr w W1 [some f, some bm, pv.ownBlock] := by
  rw [hW1]
  exact (Hfr1.out.mono (fun o ho => by simp at ho; subst ho; simp)).set ⟨f, 2, none⟩ _ (.inl (by simp))
 have hsz := hbl.size
 have Hrow2 := Lib.hid hrow2
 have Hown2 := Lib.hid hown2
 have HD2 := Lib.hid hD2
 have Hbl := Lib.hid hbl
 have Hne := Lib.hid hne
 have Hg1 := Lib.hid hg1
 have p0 := cell_of_row W1 f 0 _ _ (0, 0) hrow2
 have p1 := cell_of_row W1 f 1 _ _ (0, 0) hrow2
 have p2 := cell_of_row W1 f 2 _ _ (0, 0) hrow2
 simp only [List.getElem?_toArray, List.getElem?_cons_succ, List.getElem?_cons_zero] at p0 p1 p2
 clear hW1 hne hrow2 hown2 hD2 hbl q2 fz2 Hrow1 HD1 Hown1 Hfr1 hg1 hlt1 c2
 by_cases hs : i + 3 ≤ len
 ·have hrd := HH.out.rd.belowB (HH.out.bel Hbl.out hB) HH.out.old
  obtain ⟨_, _, e9, hc2⟩ := hrd.2 (by omega)
  cases e9
  have y0 := hc2 i (by omega)
  have y1 := hc2 (i + 1) (by omega)
  have y2 := hc2 (i + 2) (by omega)
  obtain ⟨k0, hk0⟩ : ∃ k, k = rd bs i := ⟨_, rfl⟩
  obtain ⟨k1, hk1⟩ : ∃ k, k = rd bs (i + 1) := ⟨_, rfl⟩
  obtain ⟨k2, hk2⟩ : ∃ k, k = rd bs (i + 2) := ⟨_, rfl⟩
  rw [← hk0] at y0
  rw [← hk1] at y1
  rw [← hk2] at y2
  have hat : ∀ w, (Instr.arrayAt 156 (.slice (some ⟨b, o + i, none⟩) 3 (cap - i))).run Tryz.prog w = .ok (.pointer (some ⟨b, o + i, none⟩)) w := fun w => run_arrayAt w _ _ 3 _ _ _ Tryz.underlying156 (Nat.le_refl _)
  rw [← Nat.add_assoc] at y1 y2
  clear hc2 hrd
  have Hk0 := Lib.hid hk0
  have Hk1 := Lib.hid hk1
  have Hk2 := Lib.hid hk2
  clear hk0 hk1 hk2
  have hLk := HL1.out k0 k1 k2
  have hbk0 := Hb.out i (by omega)
  have hbk1 := Hb.out (i + 1) (by omega)
  have hbk2 := Hb.out (i + 2) (by omega)
  rw [← Hk0.out] at hbk0
  rw [← Hk1.out] at hbk1
  rw [← Hk2.out] at hbk2
  obtain ⟨kl, hkl⟩ := key3_ex hbk0 hbk1 hbk2
  obtain ⟨hhas, hval⟩ := hLk kl hkl
  have hpa : prevAt bs i = lastAt bs k0 k1 k2 i := by
   unfold prevAt
   rw [if_pos (by rw [Hl.out]; exact hs), ← Hk0.out, ← Hk1.out, ← Hk2.out]
  have Hpa := Lib.hid hpa
  have hla := lastAt_rng bs k0 k1 k2 i
  obtain ⟨la, hlae⟩ : ∃ la, la = lastAt bs k0 k1 k2 i := ⟨_, rfl⟩
  rw [← hlae] at hhas hval hla Hpa
  clear hpa hLk hlae hbk0 hbk1 hbk2
  go_upto_region 3 with fail
  obtain ⟨W2, hW2⟩ : ∃ W, W = W1.alloc (.cells #[.int .u8 k0, .int .u8 k1, .int .u8 k2] 156) := ⟨_, rfl⟩
  obtain ⟨kb, hkb⟩ : ∃ k, k = W1.heap.size := ⟨_, rfl⟩
  rw [← hW2, ← hkb]
  have hn2 : Below W1.heap.size W1 W2 := by rw [hW2]; exact (Below.refl _ _).alloc (Nat.le_refl _) _
  have hkrow : W2.heap[kb]? = some (.cells #[.int .u8 k0, .int .u8 k1, .int .u8 k2] 156 (0, 0)) := by rw [hW2, hkb]; exact heap_alloc_new W1 _
  have x0 := cell_of_row W2 kb 0 _ _ (0, 0) hkrow
  have x1 := cell_of_row W2 kb 1 _ _ (0, 0) hkrow
  have x2 := cell_of_row W2 kb 2 _ _ (0, 0) hkrow
  simp only [List.getElem?_toArray, List.getElem?_cons_succ, List.getElem?_cons_zero] at x0 x1 x2
  have p0 := kept_cell hn2 p0
  have p1 := kept_cell hn2 p1
  have p2 := kept_cell hn2 p2
  have HD3 := Lib.hid (map_below HD2.out hn2)
  have Hown3 := Lib.hid (own_below Hown2.out hn2)
  have Hrow3 := Lib.hid ((hn2.block f (Array.getElem?_eq_some_iff.1 Hrow2.out).1).trans Hrow2.out)
  have Hbl3 := Lib.hid (Hbl.out.thenB hn2)
  have Hkrow := Lib.hid hkrow
  have hkB : Hid (B ≤ kb) := by rw [hkb]; exact Nat.le_trans hB hsz
  have hpl : (prevs bs i).length = i := prevs_length bs i
  have zg := Hown3.out.cellAt i (by omega)
  rw [ints_get (by rw [List.length_append, hpl]; simp)] at zg
  have fg := Hown3.out.frozenAt i
  obtain ⟨yg, hyg⟩ : ∃ y, y = rd (prevs bs i ++ [-1]) i := ⟨_, rfl⟩
  rw [← hyg] at zg
  obtain ⟨v, ps, hrun, hv⟩ := (map_below HD3.out (Below.refl _ _).drew).look_ok lawLz Tryz.underlying122 (zeroLz _) (plainElem_int Tryz.underlying3 (by decide)) hkl
  obtain ⟨c, rfl, hc, _⟩ := plainElem_int_inv Tryz.underlying3 hv
  rw [hhas] at hrun
  simp only [key3] at hrun
  have Hgk : Hid (g ≠ kb) := fun e => by
   have h1 := (Hown2.out.lt g rfl).2
   omega
  clear hW2 hkb hn2 hkrow hpl hyg y0 y1 y2 HD2 Hown2 Hrow2 Hbl hat hhas
  by_cases hla0 : 0 ≤ la
  ·have hc2 := hval hla0
   have hcl : c = la := by
    have h1 := (congrArg Prod.fst hc).symm.trans hc2
    simpa using h1
   rw [hcl, decide_eq_true hla0] at hrun
   clear hval hc hcl hc2 hv
   go_region
   go_upto_region 6 with fail
   obtain ⟨W3, hW3⟩ : ∃ W, W = (W2.setCell ⟨g, i, none⟩ (.int .i64 la)).drew := ⟨_, rfl⟩
   rw [← hW3]
   have hfr3 : Fr W2 W3 [some g] := by rw [hW3]; exact ((Fr.refl W2 [some g]).set ⟨g, i, none⟩ _ (.inl (by simp))).drew
   have hS : ∀ k, k ≠ g → ∀ o ∈ [some g], o ≠ some k := fun k hk o ho e => by simp at ho; subst ho; cases e; exact hk rfl
   have hrow4 := (hfr3.block f (Array.getElem?_eq_some_iff.1 Hrow3.out).1 (hS f Hne.out)).trans Hrow3.out
   have x0 := hfr3.cellK x0 (hS kb Hgk.out.symm)
   have x1 := hfr3.cellK x1 (hS kb Hgk.out.symm)
   have x2 := hfr3.cellK x2 (hS kb Hgk.out.symm)
   have p1 := hfr3.cellK p1 (hS f Hne.out)
   have hD4 := map_fr HD3.out hfr3 (hS bm (fun e => map_apart HD3.out Hown3.out (by rw [e]; rfl)))
   have hown4 : W3.ownsRow B 3 1 (.slice (some ⟨g, 0, none⟩) (i + 1) pc) (i + 1) (ints .i64 (prevs bs (i + 1))) := by
    rw [hW3, prevs_succ, Hpa.out]
    have h1 := own_store Hown3.out i (.int .i64 la)
    rw [← ints_set] at h1
    have e1 : (prevs bs i ++ [-1]).set i la = prevs bs i ++ [la] := by
     rw [List.set_append_right _ _ (by rw [prevs_length]; exact Nat.le_refl _), prevs_length, Nat.sub_self]
     rfl
    rw [e1] at h1
    exact ⟨h1.1, h1.2⟩
   have hbl4 : Fr w W3 [some f, some bm, pv.ownBlock] := Hbl3.out.trans hfr3 (fun o ho => by simp at ho; subst ho; rcases Hg1.out with h1 | h1; exact .inl (by simp [h1]); exact .inr (fun j e => by cases e; exact h1))
   obtain ⟨W4, hrun4, hD5, hg5⟩ := (map_below hD4 (Below.refl _ _).drew).update lawLz Tryz.underlying122 (by unfold maxLen; omega) hkl (plainElem_int Tryz.underlying3 (a := (i : Int)) (WalkArith.wf_i64 (by omega)))
   simp only [key3] at hrun4
   have HF := Lib.hid (HH.out.fin hrow4 hown4 hD4 hbl4 hB hD5 hg5 (HL1.out.put (map_isMap HD3.out) (by rw [Hl.out]; exact hs) (by rw [← Hk0.out, ← Hk1.out, ← Hk2.out]; exact hkl)))
   clear hW3 hfr3 hS hrow4 hD4 hown4 hbl4 hD5 hg5 hrun Hrow3 Hown3 HD3
   go_region
   go_wp2
   go_end0
   exact ⟨_, rfl, HF.out.1, HF.out.2⟩
  ·rw [decide_eq_false hla0] at hrun
   clear hval hc hv
   go_region
   go_upto_region 6 with fail
   obtain ⟨W3, hW3⟩ : ∃ W, W = W2.drew := ⟨_, rfl⟩
   rw [← hW3]
   have hfr3 : Fr W2 W3 [some g] := by rw [hW3]; exact (Fr.refl W2 [some g]).drew
   have hS : ∀ k, k ≠ g → ∀ o ∈ [some g], o ≠ some k := fun k hk o ho e => by simp at ho; subst ho; cases e; exact hk rfl
   have hrow4 := (hfr3.block f (Array.getElem?_eq_some_iff.1 Hrow3.out).1 (hS f Hne.out)).trans Hrow3.out
   have x0 := hfr3.cellK x0 (hS kb Hgk.out.symm)
   have x1 := hfr3.cellK x1 (hS kb Hgk.out.symm)
   have x2 := hfr3.cellK x2 (hS kb Hgk.out.symm)
   have p1 := hfr3.cellK p1 (hS f Hne.out)
   have hD4 := map_fr HD3.out hfr3 (hS bm (fun e => map_apart HD3.out Hown3.out (by rw [e]; rfl)))
   have hown4 : W3.ownsRow B 3 1 (.slice (some ⟨g, 0, none⟩) (i + 1) pc) (i + 1) (ints .i64 (prevs bs (i + 1))) := by
    rw [hW3, prevs_succ, Hpa.out, show la = -1 by omega]
    exact ⟨Hown3.out.1, Hown3.out.2⟩
   have hbl4 : Fr w W3 [some f, some bm, pv.ownBlock] := Hbl3.out.trans hfr3 (fun o ho => by simp at ho; subst ho; rcases Hg1.out with h1 | h1; exact .inl (by simp [h1]); exact .inr (fun j e => by cases e; exact h1))
   obtain ⟨W4, hrun4, hD5, hg5⟩ := (map_below hD4 (Below.refl _ _).drew).update lawLz Tryz.underlying122 (by unfold maxLen; omega) hkl (plainElem_int Tryz.underlying3 (a := (i : Int)) (WalkArith.wf_i64 (by omega)))
   simp only [key3] at hrun4
   have HF := Lib.hid (HH.out.fin hrow4 hown4 hD4 hbl4 hB hD5 hg5 (HL1.out.put (map_isMap HD3.out) (by rw [Hl.out]; exact hs) (by rw [← Hk0.out, ← Hk1.out, ← Hk2.out]; exact hkl)))
   clear hW3 hfr3 hS hrow4 hD4 hown4 hbl4 hD5 hg5 hrun Hrow3 Hown3 HD3
   go_region
   go_wp2
   go_end0
   exact ⟨rfl, ⟨_, HF.out.1⟩, HF.out.2⟩
 ·have hpa : prevAt bs i = -1 := by
   unfold prevAt
   rw [if_neg (by rw [Hl.out]; exact hs)]
  have Hpa := Lib.hid hpa
  clear hpa
  go_wp2
  refine bodyPost_ret (v := .tuple #[]) (results_none (by kernel_rfl) _ _ _) rfl ⟨_, rfl, ⟨Hrow2.out, ?_, ⟨D, HD2.out.mono (Nat.le_succ _), HL1.out.short (by rw [Hl.out]; exact hs)⟩, HH.out.rd.belowB (HH.out.bel Hbl.out hB) HH.out.old, HH.out.old, HH.out.bf, HH.out.bm⟩, Hbl.out⟩
  rw [prevs_succ, Hpa.out]
  exact Hown2.out
set_option maxHeartbeats 2000000 in
set_option maxRecDepth 100000 in
theorem find_calls (B f bm i : Nat) (A : Option Addr) (len cap : Nat) (bs : List Int) (pv : Value) (w : World) (H : FinAt w B f bm A len cap bs i pv) (hb : ∀ j, j < len → 0 ≤ rd bs j ∧ rd bs j ≤ 255) (hlen : len ≤ 1000000) (hi : i < len) (hcap : len ≤ cap) :
  Calls Tryz.prog 75 #[.pointer (some ⟨f, 0, none⟩), .int .i64 i] w fun e w' => e = .returned (.tuple #[.int .i64 (cl (bestM bs i)).1, .int .i64 (cl (bestM bs i)).2]) ∧ Below w.heap.size w w' := by
 have HH := Lib.hid H
 have p0 := H.c0
 have p1 := H.c1
 have p2 := H.c2
 have hl : bs.length = len := H.rd.1
 obtain ⟨b, o, rfl, hc⟩ := H.rd.2 (by omega)
 have Hc := Lib.hid hc
 have Hl := Lib.hid hl
 have Hb := Lib.hid hb
 clear H hc hl hb
 by_cases hs : i + 3 ≤ len
 ·have y0 := Hc.out i (by omega)
  have y1 := Hc.out (i + 1) (by omega)
  have y2 := Hc.out (i + 2) (by omega)
  have hbk0 := Hb.out i (by omega)
  have hbk1 := Hb.out (i + 1) (by omega)
  have hbk2 := Hb.out (i + 2) (by omega)
  rw [← Nat.add_assoc] at y1 y2
  obtain ⟨D, hD, hL⟩ := HH.out.map
  have HS := Lib.hid (Find.start bs i)
  obtain ⟨k0, hk0⟩ : ∃ k, k = rd bs i := ⟨_, rfl⟩
  obtain ⟨k1, hk1⟩ : ∃ k, k = rd bs (i + 1) := ⟨_, rfl⟩
  obtain ⟨k2, hk2⟩ : ∃ k, k = rd bs (i + 2) := ⟨_, rfl⟩
  rw [← hk0] at y0 hbk0 HS
  rw [← hk1] at y1 hbk1 HS
  rw [← hk2] at y2 hbk2 HS
  obtain ⟨kl, hkl⟩ := key3_ex hbk0 hbk1 hbk2
  obtain ⟨hhas, hval⟩ := hL k0 k1 k2 kl hkl
  obtain ⟨v, ps, hrun, hv⟩ := (map_below hD (Below.refl _ _).drew).look_ok lawLz Tryz.underlying122 (zeroLz _) (plainElem_int Tryz.underlying3 (by decide)) hkl
  obtain ⟨c, rfl, hc, _⟩ := plainElem_int_inv Tryz.underlying3 hv
  rw [hhas] at hrun
  simp only [key3] at hrun
  have hla := lastAt_rng bs k0 k1 k2 i
  obtain ⟨la, hlae⟩ : ∃ la, la = lastAt bs k0 k1 k2 i := ⟨_, rfl⟩
  rw [← hlae] at hhas hval hla hrun HS
  have hat : ∀ w, (Instr.arrayAt 156 (.slice (some ⟨b, o + i, none⟩) 3 (cap - i))).run Tryz.prog w = .ok (.pointer (some ⟨b, o + i, none⟩)) w := fun w => run_arrayAt w _ _ 3 _ _ _ Tryz.underlying156 (Nat.le_refl _)
  have Hbest : Hid ((cl (bestM bs i)).1 ≤ 258) := by
   have h1 := (bestTo_le bs i (min i 32768)).1
   show (cl (bestM bs i)).1 ≤ 258
   unfold cl
   split
   ·decide
   ·exact h1
  have s18 : decide ((len : Int) < (i : Int) + 3) = false := by simp; omega
  clear hk0 hk1 hk2 hlae hL hhas hbk0 hbk1 hbk2 hD
  go_enter Tryz.func75, Tryz.ntmps75
  by_cases hla0 : 0 ≤ la
  ·have hc2 := hval hla0
   have hcl : c = la := by
    have h1 := (congrArg Prod.fst hc).symm.trans hc2
    simpa using h1
   rw [hcl, decide_eq_true hla0] at hrun
   clear hval hc hcl hc2 hv
   go_wp2
   go_region
   clear hrun hat y0 y1 y2 p0 p1 p2
   go_wp2
   try rw [show i + 3 - i = 3 from by omega]
   go_loopw [6, 8, 9] (fun at' ln ds wr => ∃ (c : Nat) (a : Int) (m : Nat × Nat), at' = .int .i64 a ∧ -1 ≤ a ∧ a < i ∧ ln = .int .i64 m.1 ∧ ds = .int .i64 m.2 ∧ m.1 ≤ 258 ∧ Hid (Find bs i c a m) ∧ Below w.heap.size w wr) (fun at' _ _ _ => (intOf at' + 1).toNat)
   case atStart => exact ⟨i, la, (0, 0), rfl, hla.1, hla.2, rfl, rfl, by omega, HS.out, (Below.refl _ _).drew⟩
   case round =>
    obtain ⟨c, a, ⟨m1, m2⟩, rfl, ha1, ha2, rfl, rfl, hm, HF, hbel⟩ := hrel
    simp only at hm
    have HB := Lib.hid hbel
    have H1 := Lib.hid (HH.out.below hbel)
    clear hbel
    by_cases ha0 : 0 ≤ a
    ·obtain ⟨p, rfl⟩ : ∃ p : Nat, a = p := ⟨a.toNat, by omega⟩
     by_cases hf : i - p ≤ 32768
     ·by_cases h258 : m1 < 258
      ·obtain ⟨hpc, hp3, hnx⟩ := HF.out.next (by rw [Hl.out]; exact hs) hf
       have hsn := sameN_le bs p i
       have hpv := prevAt_rng bs p
       have HX := Lib.hid hnx
       have s1 : (i : Int) - p ≤ 32768 := by omega
       obtain ⟨n, hn⟩ : ∃ n, n = sameN bs p i := ⟨_, rfl⟩
       clear hnx
       go_wp2_with fail
       refine (same_calls f _ len cap p i bs _ H1.out.c0 H1.out.rd hlen (by omega) hi).mono ?_
       rintro e w2 ⟨rfl, hb2⟩
       have H2 := Lib.hid (H1.out.below hb2)
       have HB2 := Lib.hid (below_seq HB.out (Nat.le_refl _) hb2)
       rw [← hn] at hsn HX ⊢
       have p2 := H2.out.c2
       obtain ⟨g, pc, e3, _, _, _, hcell, _⟩ := own_form H2.out.own (by omega)
       have z := hcell p _ (ints_get (by rw [prevs_length]; omega))
       rw [rd_prevs (by omega)] at z
       rw [e3] at p2
       obtain ⟨y, hy⟩ : ∃ y, y = prevAt bs p := ⟨_, rfl⟩
       rw [← hy] at z hpv HX
       clear hb2 hcell e3 hn hy
       by_cases hgt : m1 < n
       ·rw [if_pos hgt] at HX
        have s2 : ((i : Int) - p) = ((i - p : Nat) : Int) := by omega
        go_wp2
        go_roundw
        case rel => exact ⟨p, y, (n, i - p), rfl, hpv.1, by omega, rfl, rfl, hsn, HX.out, HB2.out⟩
        case measure => simp [intOf]; omega
       ·rw [if_neg hgt] at HX
        go_wp2
        go_roundw
        case rel => exact ⟨p, y, (m1, m2), rfl, hpv.1, by omega, rfl, rfl, hm, HX.out, HB2.out⟩
        case measure => simp [intOf]; omega
      ·have e := HF.out.stop (by rw [Hl.out]; exact hs) (.inr (.inr (by show 258 ≤ m1; omega)))
       have E := Lib.hid e
       have s1 : (i : Int) - p ≤ 32768 := by omega
       have s2 : ¬ (m1 : Int) < 258 := by omega
       clear e
       go_wp2
       go_ret2
       exact ⟨by rw [← E.out]; rfl, HB.out⟩
     ·have e := HF.out.stop (by rw [Hl.out]; exact hs) (.inr (.inl (by omega)))
      have E := Lib.hid e
      have s1 : ¬ (i : Int) - p ≤ 32768 := by omega
      clear e
      go_wp2
      go_ret2
      exact ⟨by rw [← E.out]; rfl, HB.out⟩
    ·have e := HF.out.stop (by rw [Hl.out]; exact hs) (.inl (by omega))
     have E := Lib.hid e
     clear e
     go_wp2
     go_ret2
     exact ⟨by rw [← E.out]; rfl, HB.out⟩
  ·rw [decide_eq_false hla0] at hrun
   have e := HS.out.stop (by rw [Hl.out]; exact hs) (.inl (by omega))
   have E := Lib.hid e
   clear hval hc hv e
   go_wp2
   go_region
   clear hrun hat y0 y1 y2 p0 p1 p2
   go_wp2
   try rw [show i + 3 - i = 3 from by omega]
   go_loopw [6, 8, 9] (fun at' ln ds wr => at' = .int .i64 c ∧ ln = .int .i64 0 ∧ ds = .int .i64 0 ∧ Below w.heap.size w wr) (fun at' _ _ _ => 0)
   case atStart => exact ⟨rfl, rfl, rfl, (Below.refl _ _).drew⟩
   case round =>
    obtain ⟨rfl, rfl, rfl, hbel⟩ := hrel
    go_wp2
    go_ret2
    exact ⟨by rw [← E.out]; rfl, hbel⟩
 ·have e := best_short (b := bs) (i := i) (by rw [Hl.out]; exact hs)
  have E := Lib.hid e
  clear e
  go_enter Tryz.func75, Tryz.ntmps75
  go_wp2
  go_ret2
  exact ⟨by rw [E.out]; rfl, Below.refl _ _⟩
def tokCells (ts : List Tok) : List Value := ts.flatMap fun t => [.int .u8 t.1, .int .i64 t.2.1, .int .i64 t.2.2]
theorem tokCells_length (ts : List Tok) : (tokCells ts).length = ts.length * 3 := by
 induction ts with
 | nil => rfl
 | cons t ts ih => simp [tokCells] at *; omega
theorem tokCells_append (a b : List Tok) : tokCells (a ++ b) = tokCells a ++ tokCells b := by simp [tokCells]
theorem elTok : ElT Tryz.prog 91 105 (.agg #[.int .u8 0, .int .i64 0, .int .i64 0]) 3 24 := ⟨Tryz.underlying91, by kernel_rfl, rfl, by decide, by decide⟩
theorem tokCells_get {ts : List Tok} {j : Nat} (h : j < ts.length) : (tokCells ts)[j * 3]? = some (.int .u8 (tokB ts j)) ∧ (tokCells ts)[j * 3 + 1]? = some (.int .i64 (tokL ts j)) ∧ (tokCells ts)[j * 3 + 2]? = some (.int .i64 (tokD ts j)) := by
 have e : ts = ts.take j ++ (tokB ts j, tokL ts j, tokD ts j) :: ts.drop (j + 1) := by
  have h1 : ts[j] = (tokB ts j, tokL ts j, tokD ts j) := by simp [tokB, tokL, tokD, List.getD_eq_getElem?_getD, List.getElem?_eq_getElem h]
  rw [← h1, List.getElem_cons_drop, List.take_append_drop]
 have hl : (tokCells (ts.take j)).length = j * 3 := by rw [tokCells_length, List.length_take, Nat.min_eq_left (Nat.le_of_lt h)]
 have e2 : tokCells ts = tokCells (ts.take j) ++ (.int .u8 (tokB ts j) :: .int .i64 (tokL ts j) :: .int .i64 (tokD ts j) :: tokCells (ts.drop (j + 1))) := by
  conv => lhs; rw [e]
  rw [tokCells_append]
  rfl
 rw [e2, List.getElem?_append_right (by omega), List.getElem?_append_right (by omega), List.getElem?_append_right (by omega), hl, Nat.sub_self, show j * 3 + 1 - j * 3 = 1 from by omega, show j * 3 + 2 - j * 3 = 2 from by omega]
 exact ⟨rfl, rfl, rfl⟩
theorem own_toks {w : World} {base n : Nat} {e : TypeId} {v : Value} {ts : List Tok} (h : w.ownsRow base e 3 v n (tokCells ts)) : ∃ A c, v = .slice A n c ∧ Toks w A n ts := by
 have hl : ts.length = n := by have := h.1; rw [tokCells_length] at this; omega
 rcases Nat.eq_zero_or_pos n with h0 | h0
 ·obtain ⟨A, c, hv⟩ := own_slice h
  exact ⟨A, c, hv, hl, fun hp => by omega⟩
 ·obtain ⟨g, c, hv, _, _, _, hcell, _⟩ := own_form h h0
  refine ⟨_, c, hv, hl, fun _ => ⟨g, 0, rfl, fun j hj => ?_⟩⟩
  obtain ⟨k0, k1, k2⟩ := tokCells_get (ts := ts) (j := j) (by omega)
  rw [Nat.zero_add]
  exact ⟨hcell _ _ k0, hcell _ _ k1, hcell _ _ k2⟩
theorem press_lit {bs : List Int} {pre : List Tok} {fu k len : Nat} (hl : bs.length = len) (hk : k < len) (h : (bestM bs k).1 < 3) (hf : len - k ≤ fu) (hp : pressL bs = pre ++ pressFrom bs fu k) : len - (k + 1) ≤ fu - 1 ∧ pressL bs = (pre ++ [(rd bs k, 0, 0)]) ++ pressFrom bs (fu - 1) (k + 1) := by
 obtain ⟨f, rfl⟩ : ∃ f, fu = f + 1 := ⟨fu - 1, by omega⟩
 refine ⟨by omega, ?_⟩
 rw [hp, pressFrom, if_pos (by omega), if_pos h, Nat.add_sub_cancel, List.append_assoc]
 rfl
theorem press_match {bs : List Int} {pre : List Tok} {fu k len : Nat} (hl : bs.length = len) (hk : k < len) (h : ¬ (bestM bs k).1 < 3) (hf : len - k ≤ fu) (hp : pressL bs = pre ++ pressFrom bs fu k) : len - (k + (bestM bs k).1) ≤ fu - 1 ∧ pressL bs = (pre ++ [(0, ((bestM bs k).1 : Int), ((bestM bs k).2 : Int))]) ++ pressFrom bs (fu - 1) (k + (bestM bs k).1) := by
 obtain ⟨f, rfl⟩ : ∃ f, fu = f + 1 := ⟨fu - 1, by omega⟩
 refine ⟨by omega, ?_⟩
 rw [hp, pressFrom, if_pos (by omega), if_neg h, Nat.add_sub_cancel, List.append_assoc]
 rfl
theorem FinAt.outk {w w1 : World} {B f bm : Nat} {A : Option Addr} {len cap : Nat} {bs : List Int} {i : Nat} {pv : Value} (H : FinAt w B f bm A len cap bs i pv) {base n : Nat} {v : Value} {xs : List Value} (ho : w.ownsRow base 105 3 v n xs) (hf : Fr w w1 [some f, some bm, pv.ownBlock]) : w1.ownsRow base 105 3 v n xs :=
 own_fr ho hf (fun o hm => by
  simp at hm
  rcases hm with rfl | rfl | rfl
  ·exact own_apart H.at' (by decide) ho
  ·obtain ⟨_, hD, _⟩ := H.map
   exact fun j hj e => by cases e; exact map_apart hD ho hj
  ·exact own_apart2 (by decide) ho H.own)
theorem FinAt.out3 {w w1 : World} {B f bm : Nat} {A : Option Addr} {len cap : Nat} {bs : List Int} {i : Nat} {pv : Value} (H : FinAt w B f bm A len cap bs i pv) {n : Nat} {v : Value} {xs : List Value} (ho : w.ownsRow B 105 3 v n xs) (hf : Fr w w1 [v.ownBlock]) (hB : B ≤ w.heap.size) : FinAt w1 B f bm A len cap bs i pv ∧ Below B w w1 := by
 have hb : Below B w w1 := hf.below hB (fun o hm j e => by simp at hm; subst hm; exact (ho.lt j e).1)
 refine ⟨⟨(hf.block f H.lt (fun o hm e => ?_)).trans H.at', own_fr H.own hf (fun o hm => ?_), ?_, H.rd.belowB hb H.old, H.old, H.bf, H.bm⟩, hb⟩
 ·simp at hm
  subst hm
  exact own_apart H.at' (by decide) ho f e rfl
 ·simp at hm
  subst hm
  exact own_apart2 (by decide) H.own ho
 ·obtain ⟨D, h1, h2⟩ := H.map
  exact ⟨D, map_fr h1 hf (fun o hm e => by simp at hm; subst hm; exact map_apart h1 ho e), h2⟩
set_option maxHeartbeats 4000000 in
set_option maxRecDepth 100000 in
theorem LPress_calls (A : Option Addr) (len cap : Nat) (bs : List Int) (w : World) (hR : Rd w .u8 A len bs) (hb : ∀ j, j < len → 0 ≤ rd bs j ∧ rd bs j ≤ 255) (hlen : len ≤ 1000000) (hcap : len ≤ cap) :
  Calls Tryz.prog 53 #[.slice A len cap] w fun e w' => ∃ v, e = .returned v ∧ w'.ownsRow w.heap.size 105 3 v (pressL bs).length (tokCells (pressL bs)) ∧ Below w.heap.size w w' := by
 have hl : bs.length = len := hR.1
 have HR := Lib.hid hR
 have Hl := Lib.hid hl
 have Hb := Lib.hid hb
 clear hR hl hb
 have hmm := @run_makeMap Tryz.prog
 go_enter Tryz.func53, Tryz.ntmps53
 go_upto_region 2 with fail
 obtain ⟨W0, hW0⟩ : ∃ W, W = (w.alloc (.map #[] 0)).alloc (.cells #[.slice A len cap, .map (some w.heap.size), .slice none 0 0] 124) := ⟨_, rfl⟩
 obtain ⟨B, hB⟩ : ∃ B, B = w.heap.size := ⟨_, rfl⟩
 rw [← hB] at hW0
 rw [← hB, ← hW0]
 have hb0 : Below B w W0 := by
  rw [hW0, hB]
  exact below_new ((Below.refl _ _).alloc (Nat.le_refl _) _) (Nat.le_refl _) _
 have hF0 : FinAt W0 B (B + 1) B A len cap bs 0 (.slice none 0 0) := by
  have h1 := World.ownsMap_made (H := Unit) w Tryz.prog 156 (plainElem Tryz.prog 3)
  rw [← hB] at h1
  refine ⟨?_, World.ownsRow_nil _ _ _ _, ⟨_, ?_, LastD.start bs⟩, ?_, ?_, by omega, by omega⟩
  ·have h2 := heap_alloc_new (w.alloc (.map #[] 0)) (.cells #[.slice A len cap, .map (some B), .slice none 0 0] 124)
   rw [hW0, hB]
   simp at h2 ⊢
   rw [hB] at h2
   exact h2
  ·rw [hW0]
   exact map_below h1 ((Below.refl _ _).alloc (Nat.le_refl _) _)
  ·exact HR.out.below (by rw [hB] at hb0; exact hb0)
  ·intro h0 b o e
   obtain ⟨_, _, e2, hc⟩ := HR.out.2 h0
   rw [e] at e2
   cases e2
   rw [hB]
   exact World.block_lt_of_cell? _ _ (hc 0 h0)
 have hs0 : B + 2 ≤ W0.heap.size := by rw [hW0, hB]; simp
 have HF0 := Lib.hid hF0
 have Hb0 := Lib.hid hb0
 have HB := Lib.hid hB
 clear hW0 hb0 hF0 hmm hB
 go_wp2
 go_loopw [4, 5] (fun v i wr => ∃ (k fu : Nat) (pre : List Tok) (pv : Value), k ≤ len ∧ i = .int .i64 k ∧ len - k ≤ fu ∧ pre.length ≤ k ∧ Hid (wr.ownsRow B 105 3 v pre.length (tokCells pre)) ∧ Hid (pressL bs = pre ++ pressFrom bs fu k) ∧ Hid (FinAt wr B (B + 1) B A len cap bs k pv) ∧ Hid (Below B w wr)) (fun _ i _ => len - (intOf i).toNat)
 case atStart => exact ⟨0, len, [], _, by omega, rfl, by omega, by simp, World.ownsRow_nil _ _ _ _, by rw [← Hl.out]; rfl, HF0.out, Hb0.out⟩
 case round =>
  obtain ⟨k, fu, pre, pv, hk, rfl, hfu, hpre, HO, HP, HF, HBl⟩ := hrel
  have hszr := HBl.out.size
  rw [← HB.out] at hszr
  by_cases hlt : k < len
  ·go_wp2_with fail
   refine (find_calls B (B + 1) B k A len cap bs pv _ HF.out Hb.out hlen hlt hcap).mono ?_
   rintro e w1 ⟨rfl, hb1⟩
   have HF1 := Lib.hid (HF.out.below hb1)
   have HO1 := Lib.hid (own_below HO.out hb1)
   have HB1 := Lib.hid (HBl.out.trans (hb1.mono hszr))
   have hsz1 := hb1.size
   clear hb1
   by_cases h3 : (bestM bs k).1 < 3
   ·have Hnx := Lib.hid (press_lit Hl.out hlt h3 hfu HP.out)
    have hcl : cl (bestM bs k) = (0, 0) := if_pos h3
    rw [hcl]
    obtain ⟨b, o, e3, hc⟩ := HF1.out.rd.2 (by omega)
    have z := hc k hlt
    obtain ⟨y, hy⟩ : ∃ y, y = rd bs k := ⟨_, rfl⟩
    rw [← hy] at z Hnx
    subst e3
    have z2 := kept_new z (.cells #[.int .u8 0, .int .i64 0, .int .i64 0] 105)
    clear hcl hc hy h3
    go_upto_region 9 with (first | go_region | fail)
    obtain ⟨W2, hW2⟩ : ∃ W, W = (w1.alloc (.cells #[.int .u8 y, .int .i64 0, .int .i64 0] 105)).drew := ⟨_, rfl⟩
    obtain ⟨tb, htb⟩ : ∃ q, q = w1.heap.size := ⟨_, rfl⟩
    rw [← hW2, ← htb]
    have hb2 : Below w1.heap.size w1 W2 := by rw [hW2]; exact ((Below.refl _ _).alloc (Nat.le_refl _) _).drew
    have hrow : W2.heap[tb]? = some (.cells #[.int .u8 y, .int .i64 0, .int .i64 0] 105 (0, 0)) := by rw [hW2, htb]; exact heap_alloc_new w1 _
    have x0 := cell_of_row W2 tb 0 _ _ (0, 0) hrow
    have x1 := cell_of_row W2 tb 1 _ _ (0, 0) hrow
    have x2 := cell_of_row W2 tb 2 _ _ (0, 0) hrow
    simp only [List.getElem?_toArray, List.getElem?_cons_succ, List.getElem?_cons_zero] at x0 x1 x2
    have HO2 := Lib.hid (own_below HO1.out hb2)
    have HF2 := Lib.hid (HF1.out.below hb2)
    have HB2 := Lib.hid (HB1.out.trans (hb2.mono (Nat.le_trans hszr hsz1)))
    have hsz2 := hb2.size
    clear hW2 hb2 hrow htb z z2
    go_wp2_with (first | (at_builtin; refine wpList_app3 rfl _ _ rfl elTok HO2.out rfl rfl (by simp) rfl rfl (by omega) (by omega) ?_; intro g pc w3 hown3 hfr3 hg3 hlt3; have Hfin := Lib.hid (HF2.out.out3 HO2.out hfr3 (by omega)); have HO3 := Lib.hid hown3; have HB3 := Lib.hid (HB2.out.trans (Hfin.out.2)); have hsz3 := hfr3.size; clear hown3 hfr3) | fail)
    have hszB : B ≤ w3.heap.size := by omega
    go_loopw [5, 38] (fun i j wr => ∃ (c : Nat) (pv : Value), c ≤ 1 ∧ i = .int .i64 ((k + c : Nat) : Int) ∧ j = .int .i64 (c : Int) ∧ B ≤ wr.heap.size ∧ Hid (wr.ownsRow B 105 3 (.slice (some ⟨g, 0, none⟩) (pre.length + 1) pc) (pre.length + 1) (tokCells (pre ++ [(y, 0, 0)]))) ∧ Hid (FinAt wr B (B + 1) B (some ⟨b, o, none⟩) len cap bs (k + c) pv) ∧ Hid (Below B w wr)) (fun _ j _ => 1 - (intOf j).toNat)
    case atStart => exact ⟨0, pv, by omega, rfl, rfl, hszB, by rw [tokCells_append]; exact HO3.out, Hfin.out.1, HB3.out⟩
    case round =>
     obtain ⟨c, pv', hc, rfl, rfl, hszr, HO, HF2, HBr⟩ := hrel
     by_cases hlt2 : c < 1
     ·go_wp2_with fail
      refine (enter_calls B (B + 1) B (k + c) (some ⟨b, o, none⟩) len cap bs pv' _ HF2.out Hb.out hlen (by omega) hcap hszr).mono ?_
      rintro e w4 ⟨pv4, rfl, hF4, hfr4⟩
      have HO4 := Lib.hid (HF2.out.outk HO.out hfr4)
      have HB4 := Lib.hid (HBr.out.trans (HF2.out.bel hfr4 hszr))
      have HF4 := Lib.hid hF4
      have hsz4 := hfr4.size
      clear hF4 hfr4
      go_wp2
      go_roundw
      case rel => exact ⟨c + 1, pv4, by omega, by go_num, by go_num, by omega, HO4.out, HF4.out, HB4.out⟩
      case measure => simp [intOf]; omega
     ·obtain rfl : c = 1 := by omega
      go_wp2
      go_roundw
      case rel => exact ⟨k + 1, fu - 1, pre ++ [(y, 0, 0)], pv', by omega, rfl, Hnx.out.1, by rw [List.length_append]; simp; omega, by rw [List.length_append]; exact HO.out, Hnx.out.2, HF2.out, HBr.out⟩
      case measure => simp [intOf]; omega
   ·have Hnx := Lib.hid (press_match Hl.out hlt h3 hfu HP.out)
    have hcl : cl (bestM bs k) = bestM bs k := if_neg h3
    have hr := bestM_rng (b := bs) (i := k) (by omega)
    rw [Hl.out] at hr
    rw [hcl]
    obtain ⟨m1, hm1⟩ : ∃ m, m = (bestM bs k).1 := ⟨_, rfl⟩
    obtain ⟨m2, hm2⟩ : ∃ m, m = (bestM bs k).2 := ⟨_, rfl⟩
    rw [← hm1, ← hm2] at Hnx ⊢
    rw [← hm1] at h3
    have hm3 : 3 ≤ m1 := by omega
    have hm258 : m1 ≤ 258 := by omega
    have hmk : k + m1 ≤ len := by omega
    clear hcl hm1 hm2 hr h3
    go_upto_region 9 with fail
    obtain ⟨W2, hW2⟩ : ∃ W, W = (w1.alloc (.cells #[.int .u8 0, .int .i64 m1, .int .i64 m2] 105)) := ⟨_, rfl⟩
    obtain ⟨tb, htb⟩ : ∃ q, q = w1.heap.size := ⟨_, rfl⟩
    rw [← hW2, ← htb]
    have hb2 : Below w1.heap.size w1 W2 := by rw [hW2]; exact ((Below.refl _ _).alloc (Nat.le_refl _) _)
    have hrow : W2.heap[tb]? = some (.cells #[.int .u8 0, .int .i64 m1, .int .i64 m2] 105 (0, 0)) := by rw [hW2, htb]; exact heap_alloc_new w1 _
    have x0 := cell_of_row W2 tb 0 _ _ (0, 0) hrow
    have x1 := cell_of_row W2 tb 1 _ _ (0, 0) hrow
    have x2 := cell_of_row W2 tb 2 _ _ (0, 0) hrow
    simp only [List.getElem?_toArray, List.getElem?_cons_succ, List.getElem?_cons_zero] at x0 x1 x2
    have HO2 := Lib.hid (own_below HO1.out hb2)
    have HF2 := Lib.hid (HF1.out.below hb2)
    have HB2 := Lib.hid (HB1.out.trans (hb2.mono (Nat.le_trans hszr hsz1)))
    have hsz2 := hb2.size
    clear hW2 hb2 hrow htb
    go_wp2_with (first | (at_builtin; refine wpList_app3 rfl _ _ rfl elTok HO2.out rfl rfl (by simp) rfl rfl (by omega) (by omega) ?_; intro g pc w3 hown3 hfr3 hg3 hlt3; have Hfin := Lib.hid (HF2.out.out3 HO2.out hfr3 (by omega)); have HO3 := Lib.hid hown3; have HB3 := Lib.hid (HB2.out.trans (Hfin.out.2)); have hsz3 := hfr3.size; clear hown3 hfr3) | fail)
    have hszB : B ≤ w3.heap.size := by omega
    go_loopw [5, 38] (fun i j wr => ∃ (c : Nat) (pv : Value), c ≤ m1 ∧ i = .int .i64 ((k + c : Nat) : Int) ∧ j = .int .i64 (c : Int) ∧ B ≤ wr.heap.size ∧ Hid (wr.ownsRow B 105 3 (.slice (some ⟨g, 0, none⟩) (pre.length + 1) pc) (pre.length + 1) (tokCells (pre ++ [(0, (m1 : Int), (m2 : Int))]))) ∧ Hid (FinAt wr B (B + 1) B A len cap bs (k + c) pv) ∧ Hid (Below B w wr)) (fun _ j _ => m1 - (intOf j).toNat)
    case atStart => exact ⟨0, pv, by omega, rfl, rfl, hszB, by rw [tokCells_append]; exact HO3.out, Hfin.out.1, HB3.out⟩
    case round =>
     obtain ⟨c, pv', hc, rfl, rfl, hszr, HO, HF2, HBr⟩ := hrel
     by_cases hlt2 : c < m1
     ·go_wp2_with fail
      refine (enter_calls B (B + 1) B (k + c) A len cap bs pv' _ HF2.out Hb.out hlen (by omega) hcap hszr).mono ?_
      rintro e w4 ⟨pv4, rfl, hF4, hfr4⟩
      have HO4 := Lib.hid (HF2.out.outk HO.out hfr4)
      have HB4 := Lib.hid (HBr.out.trans (HF2.out.bel hfr4 hszr))
      have HF4 := Lib.hid hF4
      have hsz4 := hfr4.size
      clear hF4 hfr4
      go_wp2
      go_roundw
      case rel => exact ⟨c + 1, pv4, by omega, by go_num, by go_num, by omega, HO4.out, HF4.out, HB4.out⟩
      case measure => simp [intOf]; omega
     ·obtain rfl : m1 = c := by omega
      go_wp2
      go_roundw
      case rel => exact ⟨k + m1, fu - 1, pre ++ [(0, (m1 : Int), (m2 : Int))], pv', by omega, rfl, Hnx.out.1, by rw [List.length_append]; simp; omega, by rw [List.length_append]; exact HO.out, Hnx.out.2, HF2.out, HBr.out⟩
      case measure => simp [intOf]; omega
  ·obtain rfl : k = len := by omega
   have hp := HP.out
   rw [pressFrom_end _ _ _ (by rw [Hl.out]; exact Nat.le_refl _), List.append_nil] at hp
   have HP2 := Lib.hid hp
   clear hp
   go_wp2
   go_ret
   exact ⟨_, rfl, by rw [HP2.out, ← HB.out]; exact HO.out, by rw [← HB.out]; exact HBl.out⟩
end Go.Proofs.YtdbkbeojedndbaaGreatDoor
namespace Go.Proofs.YtdbkbeojedndbaaGreatDoor
open Go.RowKit

set_option maxHeartbeats 1000000 in set_option maxRecDepth 100000 in
theorem LRight_calls (b l d : Int) (n : Nat) (w : World) :
    Calls Tryz.prog 85 #[.agg #[.int .u8 b, .int .i64 l, .int .i64 d], .int .i64 n] w fun e w' => e = .returned (.bool (rightT b l d n)) ∧ Below w.heap.size w w' := by
  have Hb0 : Hid (Below w.heap.size w (w.alloc (.cells #[.int .u8 b, .int .i64 l, .int .i64 d] 105))) := (Below.refl _ _).alloc (Nat.le_refl _) _
  have q0 := cell_of_row (w.alloc (.cells #[.int .u8 b, .int .i64 l, .int .i64 d] 105)) w.heap.size 0 _ _ (0, 0) (heap_alloc_new w _)
  have q1 := cell_of_row (w.alloc (.cells #[.int .u8 b, .int .i64 l, .int .i64 d] 105)) w.heap.size 1 _ _ (0, 0) (heap_alloc_new w _)
  have q2 := cell_of_row (w.alloc (.cells #[.int .u8 b, .int .i64 l, .int .i64 d] 105)) w.heap.size 2 _ _ (0, 0) (heap_alloc_new w _)
  simp only [List.getElem?_toArray, List.getElem?_cons_succ, List.getElem?_cons_zero] at q0 q1 q2
  by_cases h0 : l = 0
  · subst h0
    have e : rightT b 0 d n = (d == 0) := by unfold rightT; rw [if_pos rfl]; rfl
    have He := Lib.hid e
    clear e
    go_enter Tryz.func85, Tryz.ntmps85
    go_wp2
    go_ret
    exact ⟨by rw [He.out]; rfl, Hb0.out⟩
  · by_cases h1 : b = 0
    · subst h1
      by_cases h2 : 3 ≤ l
      · skip
        by_cases h3 : l ≤ 258
        · skip
          by_cases h4 : 1 ≤ d
          · skip
            by_cases h5 : d ≤ 32768
            · skip
              have e : rightT 0 l d n = decide (d ≤ (n : Int)) := by unfold rightT; rw [if_neg h0]; simp [h2, h3, h4, h5]
              have He := Lib.hid e
              clear e
              go_enter Tryz.func85, Tryz.ntmps85
              go_wp2
              go_ret
              exact ⟨by rw [He.out]; rfl, Hb0.out⟩
            · have e : rightT 0 l d n = false := by unfold rightT; rw [if_neg h0]; simp only [decide_eq_false_iff_not]; omega
              have He := Lib.hid e
              clear e
              go_enter Tryz.func85, Tryz.ntmps85
              go_wp2
              go_ret
              exact ⟨by rw [He.out]; rfl, Hb0.out⟩
          · have e : rightT 0 l d n = false := by unfold rightT; rw [if_neg h0]; simp only [decide_eq_false_iff_not]; omega
            have He := Lib.hid e
            clear e
            go_enter Tryz.func85, Tryz.ntmps85
            go_wp2
            go_ret
            exact ⟨by rw [He.out]; rfl, Hb0.out⟩
        · have e : rightT 0 l d n = false := by unfold rightT; rw [if_neg h0]; simp only [decide_eq_false_iff_not]; omega
          have He := Lib.hid e
          clear e
          go_enter Tryz.func85, Tryz.ntmps85
          go_wp2
          go_ret
          exact ⟨by rw [He.out]; rfl, Hb0.out⟩
      · have e : rightT 0 l d n = false := by unfold rightT; rw [if_neg h0]; simp only [decide_eq_false_iff_not]; omega
        have He := Lib.hid e
        clear e
        go_enter Tryz.func85, Tryz.ntmps85
        go_wp2
        go_ret
        exact ⟨by rw [He.out]; rfl, Hb0.out⟩
    · have e : rightT b l d n = false := by unfold rightT; rw [if_neg h0]; simp only [decide_eq_false_iff_not]; omega
      have He := Lib.hid e
      clear e
      go_enter Tryz.func85, Tryz.ntmps85
      go_wp2
      go_ret
      exact ⟨by rw [He.out]; rfl, Hb0.out⟩
structure RStep (w w' : World) (v v' : Value) : Prop where
  fr : Fr w w' [v.ownBlock]
  at' : v'.ownBlock = v.ownBlock ∨ ∀ k, v'.ownBlock = some k → w.heap.size ≤ k
theorem RStep.refl (w : World) (v : Value) : RStep w w v v := ⟨Fr.refl _ _, .inl rfl⟩
theorem RStep.trans {w w1 w2 : World} {v v1 v2 : Value} (a : RStep w w1 v v1) (b : RStep w1 w2 v1 v2) : RStep w w2 v v2 := by
  refine ⟨a.fr.trans b.fr (fun o ho => ?_), ?_⟩
  · simp at ho
    subst ho
    rcases a.at' with e | e
    · exact .inl (by simp [e])
    · exact .inr e
  · rcases b.at' with e | e
    · rw [e]; exact a.at'
    · exact .inr (fun k hk => Nat.le_trans a.fr.size (e k hk))
theorem RStep.after {w w1 w2 : World} {v v1 : Value} (b : Below w.heap.size w w1) (a : RStep w1 w2 v v1) : RStep w w2 v v1 := ⟨(Fr.ofBelow b [v.ownBlock]).trans a.fr (fun _ ho => .inl ho), a.at'.imp id (fun e k hk => Nat.le_trans b.size (e k hk))⟩
set_option maxHeartbeats 1000000 in set_option maxRecDepth 100000 in
theorem LAdd_calls (B : Nat) (v : Value) (b l d : Int) (out : List Int) (w : World) (H : w.ownsRow B 5 1 v out.length (ints .u8 out)) (hr : rightT b l d out.length = true) (hlen : out.length ≤ 1000000000) (hB : B ≤ w.heap.size) :
    Calls Tryz.prog 86 #[v, .agg #[.int .u8 b, .int .i64 l, .int .i64 d]] w fun e w' => ∃ v', e = .returned v' ∧ Hid (w'.ownsRow B 5 1 v' (addT b l d out).length (ints .u8 (addT b l d out))) ∧ RStep w w' v v' := by
  obtain ⟨W0, hW0⟩ : ∃ W, W = w.alloc (.cells #[.int .u8 b, .int .i64 l, .int .i64 d] 105) := ⟨_, rfl⟩
  obtain ⟨tb, htb⟩ : ∃ t, t = w.heap.size := ⟨_, rfl⟩
  have hrow : W0.heap[tb]? = some (.cells #[.int .u8 b, .int .i64 l, .int .i64 d] 105 (0, 0)) := by rw [hW0, htb]; exact heap_alloc_new w _
  have hb0 : Below w.heap.size w W0 := by rw [hW0]; exact (Below.refl _ _).alloc (Nat.le_refl _) _
  have Hb0 := Lib.hid hb0
  have HO0 := Lib.hid (own_below H hb0)
  have Hrow := Lib.hid hrow
  have hsz0 : B ≤ W0.heap.size := Nat.le_trans hB hb0.size
  have q0 := cell_of_row W0 tb 0 _ _ (0, 0) hrow
  have q1 := cell_of_row W0 tb 1 _ _ (0, 0) hrow
  have q2 := cell_of_row W0 tb 2 _ _ (0, 0) hrow
  simp only [List.getElem?_toArray, List.getElem?_cons_succ, List.getElem?_cons_zero] at q0 q1 q2
  have HW := Lib.hid hW0
  have Htb := Lib.hid htb
  clear hrow hb0 H hB hW0 htb
  by_cases h0 : l = 0
  · subst h0
    clear hr
    go_enter Tryz.func86, Tryz.ntmps86
    go_upto_region 1 with fail
    rw [← HW.out, ← Htb.out]
    go_wp2_with (first | (at_builtin; refine wpList_app3 rfl _ _ rfl elB HO0.out rfl rfl rfl rfl rfl (by omega) hsz0 ?_; intro g cap w1 hown1 hfr hat hlt) | fail)
    have e9 : ints .u8 out ++ [.int .u8 b] = ints .u8 (out ++ [b]) := by rw [ints_append]; rfl
    rw [e9] at hown1
    have Hown := Lib.hid hown1
    have Hst : Hid (RStep w w1 v (.slice (some ⟨g, 0, none⟩) (out.length + 1) cap)) := RStep.after Hb0.out ⟨hfr, by
      rcases hat with h | h
      · exact .inl (by rw [h]; rfl)
      · exact .inr (fun k hk => by have e8 : g = k := by simpa [Value.ownBlock] using hk
                                   omega)⟩
    clear hown1 hfr hat e9
    go_ret
    exact ⟨_, rfl, by rw [show addT b 0 d out = out ++ [b] from rfl, List.length_append]; exact Hown.out, Hst.out⟩
  · have hr2 : b = 0 ∧ 3 ≤ l ∧ l ≤ 258 ∧ 1 ≤ d ∧ d ≤ 32768 ∧ d ≤ out.length := by
      unfold rightT at hr
      rw [if_neg h0] at hr
      exact of_decide_eq_true hr
    obtain ⟨rfl, hl1, hl2, hd1, hd2, hd3⟩ := hr2
    obtain ⟨L, rfl⟩ : ∃ L : Nat, l = L := ⟨l.toNat, by omega⟩
    obtain ⟨D, rfl⟩ : ∃ D : Nat, d = D := ⟨d.toNat, by omega⟩
    have hadd : addT 0 L D out = copyT D L out := by unfold addT; rw [if_neg h0, Int.toNat_natCast, Int.toNat_natCast]
    have Hadd := Lib.hid hadd
    have hL : L ≤ 258 := by omega
    have hD1 : 1 ≤ D := by omega
    have hD2 : D ≤ out.length := by omega
    clear hr hadd hl1 hl2 hd1 hd2 hd3
    go_enter Tryz.func86, Tryz.ntmps86
    go_upto_region 1 with fail
    rw [← HW.out, ← Htb.out]
    go_wp2
    go_loopw [0, 15] (fun bv i wr => ∃ (k : Nat), k ≤ L ∧ i = .int .i64 k ∧ Hid (wr.ownsRow B 5 1 bv (out.length + k) (ints .u8 (copyT D k out))) ∧ Hid (RStep W0 wr v bv)) (fun _ i _ => L - (intOf i).toNat)
    case atStart => exact ⟨0, by omega, rfl, HO0.out, RStep.refl _ _⟩
    case round =>
      obtain ⟨k, hk, rfl, HO2, HS2⟩ := hrel
      obtain ⟨W1, hW1⟩ : ∃ W, W = wr := ⟨_, rfl⟩
      subst hW1
      have hrow1 : W1.heap[tb]? = _ := (HS2.out.fr.block tb (Array.getElem?_eq_some_iff.1 Hrow.out).1 (fun o ho e => by
        simp at ho
        subst ho
        exact own_apart Hrow.out (by decide) HO0.out tb e rfl)).trans Hrow.out
      have y1 := cell_of_row W1 tb 1 _ _ (0, 0) hrow1
      have y2 := cell_of_row W1 tb 2 _ _ (0, 0) hrow1
      simp only [List.getElem?_toArray, List.getElem?_cons_succ, List.getElem?_cons_zero] at y1 y2
      clear hrow1
      by_cases hlt : k < L
      · obtain ⟨n, hn⟩ : ∃ n, n = out.length + k := ⟨_, rfl⟩
        obtain ⟨j, hj⟩ : ∃ j, j = n - D := ⟨_, rfl⟩
        have hjn : (n : Int) - (D : Int) = (j : Int) := by omega
        have hj2 : j < n := by omega
        have hn2 : n ≤ 1000000258 := by omega
        have hsucc := copyT_succ D k out
        rw [copyT_length, ← hn, ← hj] at hsucc
        have hlc := copyT_length D k out
        rw [← hn] at hlc
        rw [← hn] at HO2
        obtain ⟨g, c, rfl, _, _, hcc, hcell, _⟩ := own_form HO2.out (by omega)
        have z := hcell j (.int .u8 (rd (copyT D k out) j)) (by rw [ints_get (by omega)])
        obtain ⟨x, hx⟩ : ∃ x, x = rd (copyT D k out) j := ⟨_, rfl⟩
        rw [← hx] at z hsucc
        have Hsucc := Lib.hid hsucc
        have Hn := Lib.hid hn
        have hsz2 := Nat.le_trans hsz0 HS2.out.fr.size
        clear hsucc hx hlc hj hcell hn
        go_wp2_with (first | (at_builtin; refine wpList_app3 rfl _ _ rfl elB HO2.out rfl rfl rfl rfl rfl (by omega) hsz2 ?_; intro g3 cap3 w3 hown3 hfr3 hat3 hlt3) | fail)
        have e9 : ints .u8 (copyT D k out) ++ [.int .u8 x] = ints .u8 (copyT D (k + 1) out) := by rw [Hsucc.out, ints_append]; rfl
        rw [e9] at hown3
        have Hown := Lib.hid hown3
        have Hst : Hid (RStep W0 w3 v (.slice (some ⟨g3, 0, none⟩) (n + 1) cap3)) := HS2.out.trans ⟨hfr3, by
          rcases hat3 with h | h
          · exact .inl (by rw [h]; rfl)
          · exact .inr (fun k hk => by have e8 : g3 = k := by simpa [Value.ownBlock] using hk
                                       omega)⟩
        clear hown3 hfr3 hat3 e9
        go_roundw
        case rel => exact ⟨k + 1, by omega, by go_num, by have := Hn.out; rw [show out.length + (k + 1) = n + 1 by omega]; exact Hown.out, Hst.out⟩
        case measure => simp [intOf]; omega
      · obtain rfl : k = L := by omega
        go_wp2
        go_ret
        exact ⟨_, rfl, by rw [Hadd.out, copyT_length]; exact HO2.out, RStep.after Hb0.out HS2.out⟩
end Go.Proofs.YtdbkbeojedndbaaGreatDoor
