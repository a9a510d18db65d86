/-
  Texts joined into one file: Inf3, Inf4.
-/
import Derived.Test.YtdbkbeojedndbaaGreatDoorJRefCo9
import Derived.Test.YtdbkbeojedndbaaGreatDoorJRefCo6
namespace Go.Proofs.YtdbkbeojedndbaaGreatDoor
open Go.RowKit

theorem addT_rng {b l d : Int} {o : List Int} (h : rightT b l d o.length = true) : (addT b l d o).length = o.length + (max l 1).toNat := by
 unfold addT
 split
 ·rename_i h0
  subst h0
  rw [List.length_append]
  rfl
 ·rename_i h0
  unfold rightT at h
  rw [if_neg h0] at h
  have h9 := of_decide_eq_true h
  rw [copyT_length]
  omega
theorem OSt.grow {w w1 : World} {B h r : Nat} {A : Option Addr} {len cap : Nat} {bs : List Int} {most : Int} {q : Nat} {v v' : Value} {out out' : List Int} {err : Int} (H : OSt w B h r A len cap bs most q v out err) (hs : RStep w w1 v v') (ho : w1.ownsRow B 5 1 v' out'.length (ints .u8 out')) : OSt (w1.setCell ⟨h, 2, none⟩ v') B h r A len cap bs most q v' out' err ∧ OStep w (w1.setCell ⟨h, 2, none⟩ v') h r v v' := by
 have hat : w1.heap[h]? = some (.cells #[.pointer (some ⟨r, 0, none⟩), .int .i64 most, v, .int .i64 err] 62 (0, 0)) := (hs.fr.block h H.lt (fun o ho e => by simp at ho; subst ho; exact H.ah h e rfl)).trans H.at'
 have hf : Fr w1 (w1.setCell ⟨h, 2, none⟩ v') [some h] := (Fr.refl w1 _).set _ _ (.inl (by simp))
 have hF : Fr w (w1.setCell ⟨h, 2, none⟩ v') [some h, some r, v.ownBlock] := (hs.fr.mono (fun o ho => by simp at ho; simp [ho])).trans hf (fun o ho => .inl (by simp at ho; simp [ho]))
 refine ⟨⟨heap_setCell_same w1 h 2 _ _ _ hat, ?_, ?_, ?_, ?_, H.q8⟩, hF, hs.at'⟩
 ·exact (H.rdr.fr hs.fr (fun o ho e => by simp at ho; subst ho; exact H.ar r e rfl)).fr hf (fun o ho => by simp at ho; subst ho; simpa using H.hr)
 ·exact (H.bytes.frW hs.fr (fun b o e s hs2 => by simp at hs2; subst hs2; exact (H.apart b o e).2.2.1)).frW hf (fun b o e s hs2 => by simp at hs2; subst hs2; simpa using Ne.symm (H.apart b o e).2.1)
 ·exact own_fr ho hf (fun o ho2 => by simp at ho2; subst ho2; exact own_apart hat (by decide) ho)
 ·intro b o e
  refine ⟨(H.apart b o e).1, (H.apart b o e).2.1, ?_, Nat.lt_of_lt_of_le (H.apart b o e).2.2.2 hF.size⟩
  rcases hs.at' with e2 | e2
  ·rw [e2]; exact (H.apart b o e).2.2.1
  ·exact fun e3 => by have h1 := e2 b e3; have h2 := (H.apart b o e).2.2.2; omega
def MEnd (B h r : Nat) (A : Option Addr) (len cap : Nat) (bs : List Int) (most : Int) (v : Value) (w : World) (X : Res) (e : Ending) (w' : World) : Prop :=
 (∃ q' o' v', X = .ok (q', o') ∧ e = .returned (.bool true) ∧ OSt w' B h r A len cap bs most q' v' o' 0 ∧ OStep w w' h r v v') ∨ (∃ c q' o' v', X = .error c ∧ c ≠ 0 ∧ e = .returned (.bool false) ∧ OSt w' B h r A len cap bs most q' v' o' c ∧ OStep w w' h r v v')
theorem MEnd.ok {B h r : Nat} {A : Option Addr} {len cap : Nat} {bs : List Int} {most : Int} {v v' : Value} {w w' : World} {X : Res} {q' : Nat} {o' : List Int} (hX : X = .ok (q', o')) (hO : OSt w' B h r A len cap bs most q' v' o' 0) (hS : OStep w w' h r v v') : MEnd B h r A len cap bs most v w X (.returned (.bool true)) w' := Or.inl ⟨q', o', v', hX, rfl, hO, hS⟩
theorem MEnd.err {B h r : Nat} {A : Option Addr} {len cap : Nat} {bs : List Int} {most : Int} {v v' : Value} {w w' : World} {X : Res} {q' : Nat} {o' : List Int} {c : Int} (hX : X = .error c) (hc : c ≠ 0) (hO : OSt w' B h r A len cap bs most q' v' o' c) (hS : OStep w w' h r v v') : MEnd B h r A len cap bs most v w X (.returned (.bool false)) w' := Or.inr ⟨c, q', o', v', hX, hc, rfl, hO, hS⟩
set_option maxHeartbeats 1000000 in set_option maxRecDepth 100000 in
theorem add_calls (B h r : Nat) (A : Option Addr) (len cap : Nat) (bs : List Int) (most : Int) (q : Nat) (v : Value) (b l d : Int) (out : List Int) (w : World) (H : OSt w B h r A len cap bs most q v out 0) (hlen : out.length ≤ 100000000) (hl : -1000000 ≤ l ∧ l ≤ 1000000) (hB : B ≤ w.heap.size) :
  Calls Tryz.prog 61 #[.pointer (some ⟨h, 0, none⟩), .agg #[.int .u8 b, .int .i64 l, .int .i64 d]] w fun e w' => MEnd B h r A len cap bs most v w (addR most b l d q out) e w' := by
 obtain ⟨W0, hW0⟩ : ∃ W, W = w.alloc (.cells #[.int .u8 b, .int .i64 l, .int .i64 d] 105) := ⟨_, rfl⟩
 obtain ⟨tb, htb⟩ : ∃ t, t = w.heap.size := ⟨_, rfl⟩
 have hrow : W0.heap[tb]? = some (.cells #[.int .u8 b, .int .i64 l, .int .i64 d] 105 (0, 0)) := by rw [hW0, htb]; exact heap_alloc_new w _
 have hb0 : Below w.heap.size w W0 := by rw [hW0]; exact (Below.refl _ _).alloc (Nat.le_refl _) _
 have Hb0 := Lib.hid hb0
 have HH0 := Lib.hid (H.below hb0)
 have Hrow := Lib.hid hrow
 have hsz0 := hb0.size
 have hb0s := Lib.hid hb0.size
 have q0 := cell_of_row W0 tb 0 _ _ (0, 0) hrow
 have q1 := cell_of_row W0 tb 1 _ _ (0, 0) hrow
 have q2 := cell_of_row W0 tb 2 _ _ (0, 0) hrow
 simp only [List.getElem?_toArray, List.getElem?_cons_succ, List.getElem?_cons_zero] at q0 q1 q2
 have HW := Lib.hid hW0
 have Htb := Lib.hid htb
 obtain ⟨A0, c0, rfl⟩ := own_slice H.own
 obtain ⟨n, hn⟩ : ∃ n, n = out.length := ⟨_, rfl⟩
 have c2 := HH0.out.c2
 rw [← hn] at c2
 obtain ⟨rt, hrt⟩ : ∃ x, x = rightT b l d n := ⟨_, rfl⟩
 have Hrt : Hid (rightT b l d n = rt) := hrt.symm
 have Hn := Lib.hid hn
 have kq0 := Later.cell q0
 have kq1 := Later.cell q1
 have kq2 := Later.cell q2
 have kc2 := Later.cell c2
 have L0 : Later W0 W0.drew := (Later.refl W0).drew
 clear hrow hb0 H hW0 htb hrt hn
 go_enter Tryz.func61, Tryz.ntmps61
 go_upto_region 1 with fail
 rw [← HW.out, ← Htb.out]
 refine wp_region_noPanic ?_
 refine wp_region_held_drew (S := fun W => Later W0 W) (by kernel_rfl) (L0) (fun hHeld => ?_)
 refine' wpAnyH_take (i := 0) (oi := ⟨_, _, _, _, _, _⟩) rfl (by kernel_rfl) (by kernel_rfl) (by kernel_rfl) (fun _ _ _ h => h) (Or.inl ⟨by rfl, ?a0⟩) (by assumption) ?b0
 case a0 => (intro w hSw; (try dsimp only at hSw); go_simp; try with_reducible rfl)
 try simp only [Act.put, List.setIfInBounds_toArray, List.set_cons_zero, List.set_cons_succ]
 refine' wpAnyH_take (i := 1) (oi := ⟨_, _, _, _, _, _⟩) rfl (by kernel_rfl) (by kernel_rfl) (by kernel_rfl) (fun _ _ _ h => h) (Or.inl ⟨by rfl, ?a1⟩) (by assumption) ?b1
 case a1 => (intro w hSw; (try dsimp only at hSw); go_simp; try with_reducible rfl)
 try simp only [Act.put, List.setIfInBounds_toArray, List.set_cons_zero, List.set_cons_succ]
 refine' wpAnyH_take (i := 2) (oi := ⟨_, _, _, _, _, _⟩) rfl (by kernel_rfl) (by kernel_rfl) (by kernel_rfl) (fun _ _ _ h => h) (Or.inl ⟨by rfl, ?a2⟩) (by assumption) ?b2
 case a2 => (intro w hSw; (try dsimp only at hSw); go_simp; try with_reducible rfl)
 try simp only [Act.put, List.setIfInBounds_toArray, List.set_cons_zero, List.set_cons_succ]
 refine' wpAnyH_take (i := 3) (oi := ⟨_, _, _, _, _, _⟩) rfl (by kernel_rfl) (by kernel_rfl) (by kernel_rfl) (fun _ _ _ h => h) (Or.inl ⟨by rfl, ?a3⟩) (by assumption) ?b3
 case a3 => (intro w hSw; (try dsimp only at hSw); go_simp; try with_reducible rfl)
 try simp only [Act.put, List.setIfInBounds_toArray, List.set_cons_zero, List.set_cons_succ]
 refine' wpAnyH_take (i := 4) (oi := ⟨_, _, _, _, _, _⟩) rfl (by kernel_rfl) (by kernel_rfl) (by kernel_rfl) (fun _ _ _ h => h) (Or.inl ⟨by rfl, ?a4⟩) (by assumption) ?b4
 case a4 => (intro w hSw; (try dsimp only at hSw); go_simp; try with_reducible rfl)
 try simp only [Act.put, List.setIfInBounds_toArray, List.set_cons_zero, List.set_cons_succ]
 refine' wpAnyH_take (i := 5) (oi := ⟨_, _, _, _, _, _⟩) rfl (by kernel_rfl) (by kernel_rfl) (by kernel_rfl) (fun _ _ _ h => h) (Or.inl ⟨by rfl, ?a5⟩) (by assumption) ?b5
 case a5 => (intro w hSw; (try dsimp only at hSw); go_simp; try with_reducible rfl)
 try simp only [Act.put, List.setIfInBounds_toArray, List.set_cons_zero, List.set_cons_succ]
 refine wpAnyH_ready (rs := [6]) (by kernel_rfl) (by simp) ?_
 refine AllReadyH.cons (o := ⟨_, _, _, _, _, _⟩) rfl (fun K hK => ?_) AllReadyH.nil
 go_simp
 go_at_call 85
 refine (LRight_calls b l d n _).mono ?_
 rintro e w1 ⟨rfl, hb1⟩
 rw [Hrt.out]
 have L1 : Later W0 w1 := Later.step hHeld hb1
 clear hb1
 refine hK.out _ _ (L1) (fun hHeldN => ?_)
 clear hK K hHeld
 have hHeld := hHeldN
 clear hHeldN
 try simp only [Act.put, List.setIfInBounds_toArray, List.set_cons_zero, List.set_cons_succ]
 refine' wpAnyH_take (i := 7) (oi := ⟨_, _, _, _, _, _⟩) rfl (by kernel_rfl) (by kernel_rfl) (by kernel_rfl) (fun _ _ _ h => h) (Or.inl ⟨by rfl, ?a6⟩) (by assumption) ?b6
 case a6 => (intro w hSw; (try dsimp only at hSw); go_simp; try with_reducible rfl)
 try simp only [Act.put, List.setIfInBounds_toArray, List.set_cons_zero, List.set_cons_succ]
 refine' wpAnyH_take (i := 8) (oi := ⟨_, _, _, _, _, _⟩) rfl (by kernel_rfl) (by kernel_rfl) (by kernel_rfl) (fun _ _ _ h => h) (Or.inl ⟨by rfl, ?a7⟩) (by assumption) ?b7
 case a7 => (intro w hSw; (try dsimp only at hSw); go_simp; try with_reducible rfl)
 try simp only [Act.put, List.setIfInBounds_toArray, List.set_cons_zero, List.set_cons_succ]
 refine wpAnyH_done (by kernel_rfl) ?_ _
 refine NoPanic.normal ?_
 have HH1 := Lib.hid (HH0.out.below L1.bel)
 have hsz1 : W0.heap.size ≤ w1.heap.size := L1.bel.size
 have S1 : Hid (OStep w w1 h r (.slice A0 out.length c0) (.slice A0 out.length c0)) := OStep.ofBelow (Hb0.out.trans (L1.bel.mono hb0s.out))
 have x1 := kq1 w1 L1
 have x2 := kc2 w1 L1
 have xm := HH1.out.c1
 have ht0 := kq0 w1 L1
 have ht2 := kq2 w1 L1
 clear kq0 kq1 kq2 kc2 L0 L1 q0 q1 q2 c2 hHeld
 cases hrt : rt
 ·rw [hrt] at Hrt
  have he : addS most b l d out = .error 3 := by unfold addS; rw [← Hn.out, Hrt.out]; rfl
  have He := Lib.hid he
  clear he x1 x2 xm ht0 ht2
  go_wp2_with fail
  refine (Ofail_calls B h r A len cap bs most q _ out 0 3 _ HH1.out).mono ?_
  rintro e w2 ⟨rfl, hO2, hs2⟩
  have HO2 := Lib.hid hO2
  have Hs2 := Lib.hid hs2
  clear hO2 hs2
  go_wp2_with fail
  go_ret
  exact MEnd.err (addR_err He.out) (by decide) HO2.out (S1.out.trans Hs2.out)
 ·rw [hrt] at Hrt
  obtain ⟨mx, hmx⟩ : ∃ x : Nat, (if l < 1 then 1 else l) = (x : Int) := ⟨(if l < 1 then 1 else l).toNat, by split <;> omega⟩
  have hmx2 : mx ≤ 1000000 := by split at hmx <;> omega
  have hmx3 : max l 1 = (mx : Int) := by rw [← hmx]; split <;> omega
  have hn9 : n ≤ 100000000 := by rw [Hn.out]; exact hlen
  have Hmx := Lib.hid hmx3
  have Hmy := Lib.hid hmx
  clear hrt hmx hmx3
  go_upto_region 3 with fail
  go_region
  rw [Hmy.out]
  by_cases hg : most < (n : Int) + (mx : Int)
  ·have he : addS most b l d out = .error 4 := by
    unfold addS
    rw [← Hn.out, Hrt.out, Hmx.out, if_neg (by decide), if_pos hg]
   have He := Lib.hid he
   have HH2 := Lib.hid (HH1.out.below ((Below.refl _ _).drew (w := w1)))
   have S2 := Lib.hid (S1.out.drew)
   clear he x1 x2 xm ht0 ht2
   go_wp2_with fail
   refine (Ofail_calls B h r A len cap bs most q _ out 0 4 _ HH2.out).mono ?_
   rintro e w2 ⟨rfl, hO2, hs2⟩
   have HO2 := Lib.hid hO2
   have Hs2 := Lib.hid hs2
   clear hO2 hs2
   go_wp2_with fail
   go_ret
   exact MEnd.err (addR_err He.out) (by decide) HO2.out (S2.out.trans Hs2.out)
  ·have he : addS most b l d out = .ok (addT b l d out) := by
    unfold addS
    rw [← Hn.out, Hrt.out, Hmx.out, if_neg (by decide), if_neg hg]
   have He := Lib.hid he
   have HH2 := Lib.hid (HH1.out.below ((Below.refl _ _).drew (w := w1)))
   have S2 := Lib.hid (S1.out.drew)
   have ht1 := x1
   have kc2 : ∀ W, Fr w1.drew W [(Value.slice A0 out.length c0).ownBlock] → W.cell? ⟨h, 2, none⟩ = some (.slice A0 n c0) := fun W f => f.kept x2 (fun o ho e => by simp at ho; subst ho; exact HH1.out.ah h e rfl)
   have hta : ∀ o ∈ [(Value.slice A0 out.length c0).ownBlock], o ≠ some tb := fun o ho e => by simp at ho; subst ho; exact own_apart Hrow.out (by decide) HH0.out.own tb e rfl
   have kq0 : ∀ W, Fr w1.drew W [(Value.slice A0 out.length c0).ownBlock] → W.cell? ⟨tb, 0, none⟩ = some (.int .u8 b) := fun W f => f.kept ht0 hta
   have kq1 : ∀ W, Fr w1.drew W [(Value.slice A0 out.length c0).ownBlock] → W.cell? ⟨tb, 1, none⟩ = some (.int .i64 l) := fun W f => f.kept ht1 hta
   have kq2 : ∀ W, Fr w1.drew W [(Value.slice A0 out.length c0).ownBlock] → W.cell? ⟨tb, 2, none⟩ = some (.int .i64 d) := fun W f => f.kept ht2 hta
   obtain ⟨W2, hW2⟩ : ∃ W, W = w1.drew := ⟨_, rfl⟩
   have hszB : B ≤ W2.heap.size := by rw [hW2]; exact Nat.le_trans hB (Nat.le_trans hsz0 hsz1)
   have HszB := Lib.hid hszB
   rw [← hW2] at HH2 S2 kc2 kq0 kq1 kq2 ⊢
   clear he x1 x2 xm ht0 ht2 ht1 hta hW2
   go_upto_region 5 with fail
   refine wp_region_last (n := 9) (on := ⟨_, _, _, _, _, _⟩) (S := fun W => Fr W2 W [(Value.slice A0 out.length c0).ownBlock]) (by kernel_rfl) rfl (by kernel_rfl) ((Fr.refl W2 _).drew) (fun hHeld => ?_)
   refine' wpAnyH_take (i := 0) (oi := ⟨_, _, _, _, _, _⟩) rfl (by kernel_rfl) (by kernel_rfl) (by kernel_rfl) (fun _ _ _ h => h) (Or.inl ⟨by rfl, ?a8⟩) (by assumption) ?b8
   case a8 => (intro w hSw; (try dsimp only at hSw); go_simp; try with_reducible rfl)
   try simp only [Act.put, List.setIfInBounds_toArray, List.set_cons_zero, List.set_cons_succ]
   refine' wpAnyH_take (i := 1) (oi := ⟨_, _, _, _, _, _⟩) rfl (by kernel_rfl) (by kernel_rfl) (by kernel_rfl) (fun _ _ _ h => h) (Or.inl ⟨by rfl, ?a9⟩) (by assumption) ?b9
   case a9 => (intro w hSw; (try dsimp only at hSw); go_simp; try with_reducible rfl)
   try simp only [Act.put, List.setIfInBounds_toArray, List.set_cons_zero, List.set_cons_succ]
   refine' wpAnyH_take (i := 2) (oi := ⟨_, _, _, _, _, _⟩) rfl (by kernel_rfl) (by kernel_rfl) (by kernel_rfl) (fun _ _ _ h => h) (Or.inl ⟨by rfl, ?a10⟩) (by assumption) ?b10
   case a10 => (intro w hSw; (try dsimp only at hSw); go_simp; try with_reducible rfl)
   try simp only [Act.put, List.setIfInBounds_toArray, List.set_cons_zero, List.set_cons_succ]
   refine' wpAnyH_take (i := 3) (oi := ⟨_, _, _, _, _, _⟩) rfl (by kernel_rfl) (by kernel_rfl) (by kernel_rfl) (fun _ _ _ h => h) (Or.inl ⟨by rfl, ?a11⟩) (by assumption) ?b11
   case a11 => (intro w hSw; (try dsimp only at hSw); go_simp; try with_reducible rfl)
   try simp only [Act.put, List.setIfInBounds_toArray, List.set_cons_zero, List.set_cons_succ]
   refine' wpAnyH_take (i := 4) (oi := ⟨_, _, _, _, _, _⟩) rfl (by kernel_rfl) (by kernel_rfl) (by kernel_rfl) (fun _ _ _ h => h) (Or.inl ⟨by rfl, ?a12⟩) (by assumption) ?b12
   case a12 => (intro w hSw; (try dsimp only at hSw); go_simp; try with_reducible rfl)
   try simp only [Act.put, List.setIfInBounds_toArray, List.set_cons_zero, List.set_cons_succ]
   refine' wpAnyH_take (i := 5) (oi := ⟨_, _, _, _, _, _⟩) rfl (by kernel_rfl) (by kernel_rfl) (by kernel_rfl) (fun _ _ _ h => h) (Or.inl ⟨by rfl, ?a13⟩) (by assumption) ?b13
   case a13 => (intro w hSw; (try dsimp only at hSw); go_simp; try with_reducible rfl)
   try simp only [Act.put, List.setIfInBounds_toArray, List.set_cons_zero, List.set_cons_succ]
   refine wpAnyH_ready (rs := [6]) (by kernel_rfl) (by simp) ?_
   refine AllReadyH.cons (o := ⟨_, _, _, _, _, _⟩) rfl (fun K hK => ?_) AllReadyH.nil
   go_simp
   go_at_call 86
   rw [Hn.out]
   refine (LAdd_calls B (.slice A0 out.length c0) b l d out _ (own_below HH2.out.own ((Below.refl _ _).drew)) (by rw [← Hn.out]; exact Hrt.out) (by omega) HszB.out).mono ?_
   rintro e w3 ⟨v3, rfl, Ho3, hs3⟩
   obtain ⟨A3, c3, rfl⟩ := own_slice Ho3.out
   obtain ⟨v3, hv3⟩ : ∃ v3, v3 = Value.slice A3 (addT b l d out).length c3 := ⟨_, rfl⟩
   have Hv3 := Lib.hid hv3
   rw [← hv3] at Ho3 hs3
   have hs4 : RStep W2 w3 (.slice A0 out.length c0) v3 := ⟨(Fr.refl W2 [(Value.slice A0 out.length c0).ownBlock]).drew.trans hs3.fr (fun o ho => .inl ho), hs3.at'⟩
   have F3 := hs4.fr
   have Hs4 := Lib.hid hs4
   have HG := Lib.hid (HH2.out.grow hs4 Ho3.out)
   clear hs3 hs4 hv3
   obtain ⟨n3, hn3⟩ : ∃ n3, n3 = (addT b l d out).length := ⟨_, rfl⟩
   rw [← hn3]
   have Hn3 := Lib.hid hn3
   clear hn3
   refine hK.out _ _ (F3) (fun hHeldN => ?_)
   clear hK K hHeld
   have hHeld := hHeldN
   clear hHeldN
   try simp only [Act.put, List.setIfInBounds_toArray, List.set_cons_zero, List.set_cons_succ]
   refine' wpAnyH_take (i := 7) (oi := ⟨_, _, _, _, _, _⟩) rfl (by kernel_rfl) (by kernel_rfl) (by kernel_rfl) (fun _ _ _ h => h) (Or.inl ⟨by rfl, ?a14⟩) (by assumption) ?b14
   case a14 => (intro w hSw; (try dsimp only at hSw); go_simp; try with_reducible rfl)
   try simp only [Act.put, List.setIfInBounds_toArray, List.set_cons_zero, List.set_cons_succ]
   refine' wpAnyH_take (i := 8) (oi := ⟨_, _, _, _, _, _⟩) rfl (by kernel_rfl) (by kernel_rfl) (by kernel_rfl) (fun _ _ _ h => h) (Or.inl ⟨by rfl, ?a15⟩) (by assumption) ?b15
   case a15 => (intro w hSw; (try dsimp only at hSw); go_simp; try with_reducible rfl)
   try simp only [Act.put, List.setIfInBounds_toArray, List.set_cons_zero, List.set_cons_succ]
   refine wpAnyH_done (by kernel_rfl) ?_ _
   change wpList _ _ _ _ _ _
   have f2 := frozen_of_row w3 h 2 _ _ ((Hs4.out.fr.block h HH2.out.lt (fun o ho e => by simp at ho; subst ho; exact HH2.out.ah h e rfl)).trans HH2.out.at')
   have y2 : ∃ u, w3.cell? ⟨h, 2, none⟩ = some u := ⟨_, (cell_of_row w3 h 2 _ _ (0, 0) ((Hs4.out.fr.block h HH2.out.lt (fun o ho e => by simp at ho; subst ho; exact HH2.out.ah h e rfl)).trans HH2.out.at')).trans rfl⟩
   obtain ⟨u, y2⟩ := y2
   clear kc2 kq0 kq1 kq2
   go_wp2
   go_ret
   have hG := HG.out
   rw [Hv3.out, ← Hn3.out] at hG
   exact MEnd.ok (addR_ok He.out) hG.1 (S2.out.trans hG.2)
end Go.Proofs.YtdbkbeojedndbaaGreatDoor
namespace Go.Proofs.YtdbkbeojedndbaaGreatDoor
open Go.RowKit

def SEnd (B h r : Nat) (A : Option Addr) (len cap : Nat) (bs : List Int) (most : Int) (v : Value) (out : List Int) (w : World) (X : Except Int (Nat × Nat)) (e : Ending) (w' : World) : Prop :=
 ((∃ s q', X = .ok (s, q') ∧ e = .returned (.tuple #[.int .i64 s, .bool true]) ∧ OSt w' B h r A len cap bs most q' v out 0) ∨ (∃ c q', X = .error c ∧ c ≠ 0 ∧ e = .returned (.tuple #[.int .i64 0, .bool false]) ∧ OSt w' B h r A len cap bs most q' v out c)) ∧ OStep w w' h r v v
theorem SEnd.ok {B h r : Nat} {A : Option Addr} {len cap : Nat} {bs : List Int} {most : Int} {v : Value} {out : List Int} {w w' : World} {X : Except Int (Nat × Nat)} {s q' : Nat} (hX : X = .ok (s, q')) (hO : OSt w' B h r A len cap bs most q' v out 0) (hS : OStep w w' h r v v) : SEnd B h r A len cap bs most v out w X (.returned (.tuple #[.int .i64 s, .bool true])) w' := ⟨Or.inl ⟨s, q', hX, rfl, hO⟩, hS⟩
theorem SEnd.err {B h r : Nat} {A : Option Addr} {len cap : Nat} {bs : List Int} {most : Int} {v : Value} {out : List Int} {w w' : World} {X : Except Int (Nat × Nat)} {q' : Nat} {c : Int} (hX : X = .error c) (hc : c ≠ 0) (hO : OSt w' B h r A len cap bs most q' v out c) (hS : OStep w w' h r v v) : SEnd B h r A len cap bs most v out w X (.returned (.tuple #[.int .i64 0, .bool false])) w' := ⟨Or.inr ⟨c, q', hX, hc, rfl, hO⟩, hS⟩
theorem symN_ok {xs bs : List Int} {T q s : Nat} (h : Hit xs bs q (T - q) s) : symN xs bs T q = .ok (s, q + (rd xs s).toNat) := by unfold symN; rw [nextS_hit h]
theorem symN_no {xs bs : List Int} {T q : Nat} (h : ∀ s, ¬ Hit xs bs q (T - q) s) : symN xs bs T q = .error (if T - q < 15 then 2 else 3) := by unfold symN; rw [nextS_none h]
theorem symN_hit {xs bs : List Int} {T q s q' : Nat} (h : symN xs bs T q = .ok (s, q')) : Hit xs bs q (T - q) s ∧ q' = q + (rd xs s).toNat := by
 unfold symN at h
 cases hn : nextS xs bs q (T - q) with
 | none => rw [hn] at h; cases h
 | some t =>
  rw [hn] at h
  cases h
  have hf := List.find?_some (show (List.range xs.length).find? (fun s => decide (Hit xs bs q (T - q) s)) = some s from hn)
  exact ⟨of_decide_eq_true hf, rfl⟩
theorem coder_ne {w : World} {B h r : Nat} {A : Option Addr} {len cap : Nat} {bs : List Int} {most : Int} {q : Nat} {v : Value} {out : List Int} {err : Int} (H : OSt w B h r A len cap bs most q v out err) {base hc : Nat} {xs : List Int} (hC : Coder w base hc xs) : hc ≠ r := fun e => by
 obtain ⟨m, u, h1, h2, h3, h4, h5⟩ := hC
 have h9 := H.rdr
 unfold RdrAt at h9
 rw [← e, h3] at h9
 simp at h9
set_option maxHeartbeats 1000000 in set_option maxRecDepth 100000 in
theorem symbol_calls (B h r : Nat) (A : Option Addr) (len cap : Nat) (bs : List Int) (most : Int) (q : Nat) (v : Value) (out : List Int) (base hc : Nat) (xs : List Int) (w : World) (H : OSt w B h r A len cap bs most q v out 0) (hC : Coder w base hc xs) (hxs : xs.length ≤ 1000000) (hb : ∀ j, j < len → 0 ≤ rd bs j ∧ rd bs j ≤ 255) (hlen : len ≤ 1000000) :
  Calls Tryz.prog 60 #[.pointer (some ⟨h, 0, none⟩), .pointer (some ⟨hc, 0, none⟩)] w fun e w' => SEnd B h r A len cap bs most v out w (symN xs bs (8 * len) q) e w' := by
 have HH := Lib.hid H
 have HC := Lib.hid hC
 have Hb := Lib.hid hb
 have c0 := H.c0
 have hq8 := H.q8
 clear H hC hb
 go_enter Tryz.func60, Tryz.ntmps60
 go_wp2_with fail
 refine (Left_calls r A len cap q _ HH.out.rdr (by omega) hq8).mono ?_
 rintro e w1 ⟨rfl, hb1⟩
 have HH1 := Lib.hid (HH.out.below hb1)
 have HC1 := Lib.hid (HC.out.below hb1)
 have S1 : Hid (OStep w w1 h r v v) := OStep.ofBelow hb1
 obtain ⟨l, hl⟩ : ∃ l : Nat, l = 8 * len - q := ⟨_, rfl⟩
 rw [show (8 * (len : Int) - (q : Int)) = (l : Int) by omega]
 have Hl := Lib.hid hl
 have hl9 : l ≤ 8000000 := by omega
 have y0 := HH1.out.c0
 clear hb1 hl c0
 go_wp2_with fail
 refine (Next_hit hc r base A len cap q xs bs _ HC1.out hxs HH1.out.rdr HH1.out.bytes Hb.out (fun b o e => (HH1.out.apart b o e).1) hlen hq8 (coder_ne HH1.out HC1.out)).mono ?_
 rintro e w2 ⟨hx, hg⟩
 have Hg := Lib.hid hg
 clear hg y0
 rcases hx with ⟨s, hs, rfl, hR2⟩ | ⟨hno, rfl, q2, hq2, hR2⟩
 ·have hk := hs.2.2.2.1
  have HH2 := Lib.hid (HH1.out.read Hg.out hR2 (by omega))
  have Hs := Lib.hid hs
  clear hs hR2 hk
  go_wp2_with fail
  refine bodyPost_ret (v := .tuple #[.int .i64 s, .bool true]) (by simp [results, Tryz.results60, go_sem]) rfl ?_
  exact SEnd.ok (symN_ok Hs.out) HH2.out (S1.out.trans (OStep.ofRead Hg.out))
 ·have HH2 := Lib.hid (HH1.out.read Hg.out hR2 hq2)
  have S2 := Lib.hid (S1.out.trans (OStep.ofRead Hg.out))
  have Hno := Lib.hid (symN_no hno)
  clear hno hR2
  by_cases hlt : l < 15
  ·go_wp2_with fail
   refine (Ofail_calls B h r A len cap bs most q2 v out 0 2 _ HH2.out).mono ?_
   rintro e w3 ⟨rfl, hO3, hs3⟩
   have HO3 := Lib.hid hO3
   have S3 := Lib.hid (S2.out.trans hs3)
   clear hO3 hs3
   go_wp2_with fail
   refine bodyPost_ret (v := .tuple #[.int .i64 0, .bool false]) (by simp [results, Tryz.results60, go_sem]) rfl ?_
   exact SEnd.err (c := 2) (by rw [Hno.out, ← Hl.out, if_pos hlt]) (by decide) HO3.out S3.out
  ·go_wp2_with fail
   refine (Ofail_calls B h r A len cap bs most q2 v out 0 3 _ HH2.out).mono ?_
   rintro e w3 ⟨rfl, hO3, hs3⟩
   have HO3 := Lib.hid hO3
   have S3 := Lib.hid (S2.out.trans hs3)
   clear hO3 hs3
   go_wp2_with fail
   refine bodyPost_ret (v := .tuple #[.int .i64 0, .bool false]) (by simp [results, Tryz.results60, go_sem]) rfl ?_
   exact SEnd.err (c := 3) (by rw [Hno.out, ← Hl.out, if_neg hlt]) (by decide) HO3.out S3.out
theorem OStep.keepB {w w1 : World} {B h r : Nat} {v v1 : Value} (a : OStep w w1 h r v v1) {n : Nat} {xs : List Value} (ho : w.ownsRow B 5 1 v n xs) (hh : B ≤ h) (hr : B ≤ r) (hw : B ≤ w.heap.size) : Below B w w1 := a.fr.below hw (fun o hm j e => by
 simp at hm
 rcases hm with rfl | rfl | rfl
 ·cases e; exact hh
 ·cases e; exact hr
 ·exact (ho.lt _ e).1)
theorem lens_rng : ∀ k : Nat, k < 29 → 3 ≤ rowL lens k ∧ rowL lens k ≤ 258 ∧ 0 ≤ rowB lens k ∧ rowB lens k ≤ 5 := by decide
theorem dists_rng : ∀ k : Nat, k < 30 → 1 ≤ rowL dists k ∧ rowL dists k ≤ 24577 ∧ 0 ≤ rowB dists k ∧ rowB dists k ≤ 13 := by decide
theorem numAt_small (bs : List Int) (q n m : Nat) (h : n ≤ m) : numAt bs q n < 2 ^ m := Nat.lt_of_lt_of_le (numAt_lt bs q n) (Nat.pow_le_pow_right (by omega) h)
theorem tabs_lo {w w1 : World} {B : Nat} (h : Tabs w) (hb : Below B w w1) (hg : 1 < B ∧ 2 < B) : Tabs w1 :=
 ⟨fun j hj => ⟨(hb.cell hg.1).trans (h.1 j hj).1, (hb.cell hg.1).trans (h.1 j hj).2⟩, fun j hj => ⟨(hb.cell hg.2).trans (h.2 j hj).1, (hb.cell hg.2).trans (h.2 j hj).2⟩⟩
set_option maxHeartbeats 1000000 in set_option maxRecDepth 100000 in
theorem match_calls (B h r : Nat) (A : Option Addr) (len cap : Nat) (bs : List Int) (most : Int) (s q : Nat) (v : Value) (out : List Int) (base : Nat) (cv : Value) (ys : List Int) (w : World) (H : OSt w B h r A len cap bs most q v out 0)
  (hC : (rightB ys = false ∧ cv = .pointer none) ∨ (rightB ys = true ∧ ∃ hc, cv = .pointer (some ⟨hc, 0, none⟩) ∧ Coder w base hc ys)) (hys : ys.length ≤ 1000000) (hb : ∀ j, j < len → 0 ≤ rd bs j ∧ rd bs j ≤ 255) (hlen : len ≤ 1000000) (hs : s ≤ 1000000) (ho : out.length ≤ 100000000)
  (hT : Tabs w) (hg : 1 < B ∧ 2 < B) (hBh : B ≤ h) (hBr : B ≤ r) (hB : B ≤ w.heap.size) :
  Calls Tryz.prog 62 #[.pointer (some ⟨h, 0, none⟩), .int .i64 s, cv] w fun e w' => MEnd B h r A len cap bs most v w (matchS bs (8 * len) most ys s q out) e w' := by
 have HH := Lib.hid H
 have HC := Lib.hid hC
 have Hb := Lib.hid hb
 have HT := Lib.hid hT
 have Hg := Lib.hid hg
 clear H hC hb hT hg
 go_enter Tryz.func62, Tryz.ntmps62
 go_wp2_with fail
 refine (LengthOf_calls s _ (by omega) (by omega) HT.out.1).mono ?_
 rintro e w1 ⟨rfl, hb1⟩
 have HH1 := Lib.hid (HH.out.below hb1)
 have S1 : Hid (OStep w w1 h r v v) := OStep.ofBelow hb1
 clear hb1
 by_cases hsr : 257 ≤ s ∧ s ≤ 285
 ·obtain ⟨k, hks⟩ : ∃ k, k = s - 257 := ⟨_, rfl⟩
  have hk : k < 29 := by omega
  have hlr := lens_rng k hk
  rw [show lenOfE (s : Int) = .returned (.tuple #[.int .i64 (rowL lens k), .int .i64 (rowB lens k), .bool true]) by
   unfold lenOfE
   rw [if_pos (by omega), show ((s : Int) - 257).toNat = k by omega]]
  obtain ⟨rl, hrl⟩ : ∃ x : Nat, rowL lens k = x := ⟨(rowL lens k).toNat, by omega⟩
  obtain ⟨nb, hnb⟩ : ∃ x : Nat, rowB lens k = x := ⟨(rowB lens k).toNat, by omega⟩
  rw [hrl, hnb] at hlr ⊢
  have hm0 : matchS bs (8 * len) most ys s q out = matchL bs (8 * len) most ys rl nb q out := by
   unfold matchS
   rw [if_neg (show ¬ (s ≤ 256 ∨ 286 ≤ s) by omega), ← hks, hrl, hnb, Int.toNat_natCast]
  have Hm0 := Lib.hid hm0
  clear hm0 hrl hnb hks
  go_wp2_with fail
  refine (num_calls B h r A len cap bs most q nb v out 0 _ HH1.out Hb.out hlen (by omega)).mono ?_
  rintro e w2 ⟨Hx, hs2⟩
  have S2 := Lib.hid (S1.out.trans hs2)
  clear hs2
  rcases Hx.out with ⟨hok, rfl, hO2⟩ | ⟨hno, rfl, hO2⟩
  ·have HO2 := Lib.hid hO2
   have y3 := hO2.c3
   have hx := numAt_small bs q nb 5 (by omega)
   have Hm1 := Lib.hid (Hm0.out.trans (matchL_ok hok))
   obtain ⟨x, hxe⟩ : ∃ x, x = numAt bs q nb := ⟨_, rfl⟩
   rw [← hxe] at hx ⊢
   rw [← hxe] at Hm1
   obtain ⟨q1, hq1⟩ : ∃ q1, q1 = q + nb := ⟨_, rfl⟩
   rw [← hq1] at HO2 Hm1 hok
   obtain ⟨L, hL⟩ : ∃ L, L = rl + x := ⟨_, rfl⟩
   have hL9 : (rl : Int) + (x : Int) = (L : Int) := by omega
   have hL2 : L ≤ 300 := by omega
   have HLe := Lib.hid hL9
   rw [hL9] at Hm1
   have hcx := HC.out
   clear hO2 Hx hxe hq1 hL
   rcases hcx with ⟨hry, rfl⟩ | ⟨hry, hcd, rfl, hC⟩
   ·have Hry := Lib.hid hry
    clear hry
    go_wp2_with fail
    refine (Ofail_calls B h r A len cap bs most q1 v out 0 3 _ HO2.out).mono ?_
    rintro e w3 ⟨rfl, hO3, hs3⟩
    have HO3 := Lib.hid hO3
    have S3 := Lib.hid (S2.out.trans hs3)
    clear hO3 hs3
    go_wp2_with fail
    go_ret
    exact MEnd.err (c := 3) (Hm1.out.trans (distS_nil Hry.out)) (by decide) HO3.out S3.out
   ·have Hry := Lib.hid hry
    have HCd : Hid (Coder w2 base hcd ys) := S2.out.coder HH.out hC
    clear hry hC
    go_wp2_with fail
    refine (symbol_calls B h r A len cap bs most q1 v out base hcd ys _ HO2.out HCd.out hys Hb.out hlen).mono ?_
    rintro e w3 ⟨hx, hs3⟩
    have S3 := Lib.hid (S2.out.trans hs3)
    clear hs3 y3
    rcases hx with ⟨d, q2, hX, rfl, hO3⟩ | ⟨c, q2, hX, hc0, rfl, hO3⟩
    ·have HX := Lib.hid hX
     have HO3 := Lib.hid hO3
     have HT3 := Lib.hid (tabs_lo HT.out (S3.out.keepB HH.out.own hBh hBr hB) Hg.out)
     have hdl : d < ys.length := (symN_hit hX).1.1
     clear hX hO3
     have hdl2 : d ≤ 1000000 := by omega
     clear hdl
     go_wp2_with fail
     refine (DistanceOf_calls d _ (by omega) (by omega) HT3.out.2).mono ?_
     rintro e w4 ⟨rfl, hb4⟩
     have HO4 := Lib.hid (HO3.out.below hb4)
     have S4 := Lib.hid (S3.out.below hb4)
     clear hb4
     by_cases hd : d < 30
     ·have hdr := dists_rng d hd
      rw [show distOfE (d : Int) = .returned (.tuple #[.int .i64 (rowL dists d), .int .i64 (rowB dists d), .bool true]) by
       unfold distOfE
       rw [if_pos (by omega), Int.toNat_natCast]]
      obtain ⟨rl2, hrl2⟩ : ∃ x : Nat, rowL dists d = x := ⟨(rowL dists d).toNat, by omega⟩
      obtain ⟨nb2, hnb2⟩ : ∃ x : Nat, rowB dists d = x := ⟨(rowB dists d).toNat, by omega⟩
      have hm2 := distS_ok (bs := bs) (T := 8 * len) (most := most) (L := (L : Int)) (q := q1) (o := out) Hry.out HX.out hd
      rw [hrl2, hnb2, Int.toNat_natCast] at hm2
      rw [hrl2, hnb2] at hdr ⊢
      have Hm2 := Lib.hid (Hm1.out.trans hm2)
      clear hm2 hrl2 hnb2
      go_wp2_with fail
      refine (num_calls B h r A len cap bs most q2 nb2 v out 0 _ HO4.out Hb.out hlen (by omega)).mono ?_
      rintro e w5 ⟨Hx, hs5⟩
      have S5 := Lib.hid (S4.out.trans hs5)
      clear hs5
      rcases Hx.out with ⟨hok2, rfl, hO5⟩ | ⟨hno2, rfl, hO5⟩
      ·have HO5 := Lib.hid hO5
       have y3 := hO5.c3
       have hx := numAt_small bs q2 nb2 13 (by omega)
       have Hm3 := Lib.hid (Hm2.out.trans (distL_ok hok2))
       obtain ⟨y, hye⟩ : ∃ y, y = numAt bs q2 nb2 := ⟨_, rfl⟩
       rw [← hye] at hx ⊢
       rw [← hye] at Hm3
       obtain ⟨q3, hq3⟩ : ∃ q3, q3 = q2 + nb2 := ⟨_, rfl⟩
       rw [← hq3] at HO5 Hm3 hok2
       obtain ⟨D, hD⟩ : ∃ D, D = rl2 + y := ⟨_, rfl⟩
       have hD9 : (rl2 : Int) + (y : Int) = (D : Int) := by omega
       have hD2 : D ≤ 100000 := by omega
       rw [hD9] at Hm3
       have hsz5 := S5.out.fr.size
       have HB5 := Lib.hid (Nat.le_trans hB hsz5)
       clear hO5 Hx hye hq3 hD
       go_wp2_with fail
       refine (add_calls B h r A len cap bs most q3 v 0 L D out _ HO5.out ho (by omega) HB5.out).mono ?_
       rintro e w6 hE
       rcases hE with ⟨q', o', v', hX6, rfl, hO6, hS6⟩ | ⟨c6, q', o', v', hX6, hc6, rfl, hO6, hS6⟩
       ·have HX6 := Lib.hid hX6
        have HO6 := Lib.hid hO6
        have S6 := Lib.hid (S5.out.trans hS6)
        clear hX6 hO6 hS6
        go_wp2_with fail
        go_ret
        exact MEnd.ok (Hm3.out.trans HX6.out) HO6.out S6.out
       ·have HX6 := Lib.hid hX6
        have HO6 := Lib.hid hO6
        have Hc6 := Lib.hid hc6
        have S6 := Lib.hid (S5.out.trans hS6)
        clear hX6 hO6 hS6 hc6
        go_wp2_with fail
        go_ret
        exact MEnd.err (Hm3.out.trans HX6.out) Hc6.out HO6.out S6.out
      ·have HO5 := Lib.hid hO5
       have y3 := hO5.c3
       rw [errOf_zero] at y3
       clear hO5 Hx
       go_wp2_with fail
       go_ret
       exact MEnd.err (c := 2) (Hm2.out.trans (distL_no hno2)) (by decide) HO5.out S5.out
     ·rw [show distOfE (d : Int) = .returned (.tuple #[.int .i64 0, .int .i64 0, .bool false]) by
       unfold distOfE
       rw [if_neg (by omega)]]
      go_wp2_with fail
      refine (Ofail_calls B h r A len cap bs most q2 v out 0 3 _ HO4.out).mono ?_
      rintro e w5 ⟨rfl, hO5, hs5⟩
      have HO5 := Lib.hid hO5
      have S5 := Lib.hid (S4.out.trans hs5)
      clear hO5 hs5
      go_wp2_with fail
      go_ret
      exact MEnd.err (c := 3) (Hm1.out.trans (distS_far Hry.out HX.out (by omega))) (by decide) HO5.out S5.out
    ·have HX := Lib.hid hX
     have HO3 := Lib.hid hO3
     have Hc0 := Lib.hid hc0
     clear hX hO3 hc0
     go_wp2_with fail
     go_ret
     exact MEnd.err (Hm1.out.trans (distS_err Hry.out HX.out)) Hc0.out HO3.out S3.out
  ·have HO2 := Lib.hid hO2
   have y3 := hO2.c3
   rw [errOf_zero] at y3
   clear hO2 Hx
   go_wp2_with fail
   go_ret
   refine MEnd.err (c := 2) ?_ (by decide) HO2.out S2.out
   rw [Hm0.out, matchL_no hno]
 ·have hm0 : matchS bs (8 * len) most ys s q out = .error 3 := by
   unfold matchS
   rw [if_pos (by omega)]
  have Hm0 := Lib.hid hm0
  rw [show lenOfE (s : Int) = .returned (.tuple #[.int .i64 0, .int .i64 0, .bool false]) by
   unfold lenOfE
   rw [if_neg (by omega)]]
  clear hm0
  go_wp2_with fail
  refine (Ofail_calls B h r A len cap bs most q v out 0 3 _ HH1.out).mono ?_
  rintro e w2 ⟨rfl, hO2, hs2⟩
  have HO2 := Lib.hid hO2
  have S2 := Lib.hid (S1.out.trans hs2)
  clear hO2 hs2
  go_wp2_with fail
  go_ret
  exact MEnd.err Hm0.out (by decide) HO2.out S2.out
end Go.Proofs.YtdbkbeojedndbaaGreatDoor
