/-
  Texts joined into one file: Inf8, InfT, HuffS, StepA.
-/
import Derived.Test.YtdbkbeojedndbaaGreatDoorJRefCo19
import Derived.Test.YtdbkbeojedndbaaGreatDoorJRefCo2
import Derived.Test.YtdbkbeojedndbaaGreatDoorJRefCo1
import Derived.IntWalk
import Derived.BigQuiet
import Derived.Test.YtdbkbeojedndbaaGreatDoorJRefCo5
namespace Go.Proofs.YtdbkbeojedndbaaGreatDoor
open Go.RowKit

def leftOf (len h r : Nat) (w : World) : Nat := match w.cell? ⟨h, 3, none⟩ with
 | some (.int _ x) => if x = 0 then 1 + restOf len r w else 0
 | _ => 0
theorem OSt.left {w : World} {B h r : Nat} {A : Option Addr} {len cap : Nat} {bs : List Int} {most : Int} {q : Nat} {v : Value} {out : List Int} {err : Int} (H : OSt w B h r A len cap bs most q v out err) : leftOf len h r w = if err = 0 then 1 + (8 * len - q) else 0 := by
 unfold leftOf
 rw [H.c3, ← H.rest]
def OLoop (B h r : Nat) (A : Option Addr) (len cap : Nat) (bs : List Int) (most : Int) (v0 : Value) (W0 : World) (last : Value) (w : World) : Prop :=
 (∃ q f v o, last = .int .i64 0 ∧ q ≤ 8 * len ∧ 8 * len - q < f ∧ o.length ≤ 100000000 ∧ OSt w B h r A len cap bs most q v o 0 ∧ OStep W0 w h r v0 v ∧ iter (openStep bs (8 * len) most) (8 * len + 1) (0, []) = iter (openStep bs (8 * len) most) f (q, o)) ∨
 (∃ q v o, last = .int .i64 1 ∧ OSt w B h r A len cap bs most q v o 0 ∧ OStep W0 w h r v0 v ∧ iter (openStep bs (8 * len) most) (8 * len + 1) (0, []) = some (.ok (q, o))) ∨
 (∃ l c q v o, last = .int .i64 l ∧ c ≠ 0 ∧ OSt w B h r A len cap bs most q v o c ∧ OStep W0 w h r v0 v ∧ iter (openStep bs (8 * len) most) (8 * len + 1) (0, []) = some (.error c))
theorem step_short {bs : List Int} {T : Nat} {most : Int} {q : Nat} {o : List Int} (h : T < q + 3) : openStep bs T most (q, o) = .inr (.error 2) := by unfold openStep; rw [if_pos h]
theorem step_err {bs : List Int} {T : Nat} {most : Int} {q : Nat} {o : List Int} {c : Int} (h : q + 3 ≤ T) (hb : blockS bs T most (numAt bs (q + 1) 2) (q + 3) o = .error c) : openStep bs T most (q, o) = .inr (.error c) := by
 unfold openStep
 rw [if_neg (by show ¬ T < q + 3; omega)]
 simp only [hb]
theorem step_next {bs : List Int} {T : Nat} {most : Int} {q q' : Nat} {o o' : List Int} (h : q + 3 ≤ T) (hl : numAt bs q 1 = 0) (hb : blockS bs T most (numAt bs (q + 1) 2) (q + 3) o = .ok (q', o')) : openStep bs T most (q, o) = .inl (q', o') := by
 unfold openStep
 rw [if_neg (by show ¬ T < q + 3; omega)]
 simp only [hb, if_pos hl]
theorem step_last {bs : List Int} {T : Nat} {most : Int} {q q' : Nat} {o o' : List Int} (h : q + 3 ≤ T) (hl : numAt bs q 1 ≠ 0) (hb : blockS bs T most (numAt bs (q + 1) 2) (q + 3) o = .ok (q', o')) : openStep bs T most (q, o) = .inr (.ok (q', o')) := by
 unfold openStep
 rw [if_neg (by show ¬ T < q + 3; omega)]
 simp only [hb, if_neg hl]
set_option maxHeartbeats 1000000 in set_option maxRecDepth 100000 in
theorem Open_calls (A : Option Addr) (len cap : Nat) (bs : List Int) (most : Int) (w : World) (hR : Rd w .u8 A len bs) (hA : A = none → len = 0 ∧ cap = 0) (hb : ∀ j, j < len → 0 ≤ rd bs j ∧ rd bs j ≤ 255) (hlen : len ≤ 1000000) (hm : -9223372036854775808 ≤ most ∧ most ≤ 100000000) (hT : Tabs w) (hO : OrdAt w) :
  Calls Tryz.prog 15 #[.slice A len cap, .int .i64 most] w fun e w' =>
   Hid ((∃ q o v, openS bs most = .ok (q, o) ∧ e = .returned (.tuple #[v, .int .i64 ((q + 7) / 8 : Nat), .int .i64 0]) ∧ w'.ownsRow w.heap.size 5 1 v o.length (ints .u8 o)) ∨ (∃ c, openS bs most = .error c ∧ c ≠ 0 ∧ e = .returned (.tuple #[.slice none 0 0, .int .i64 0, .int .i64 c]))) ∧ Below w.heap.size w w' := by
 have HR := Lib.hid hR
 have HA := Lib.hid hA
 have Hb := Lib.hid hb
 have HT := Lib.hid hT
 have HO := Lib.hid hO
 have Hl := Lib.hid hR.1
 have hto : 1 < w.heap.size ∧ 2 < w.heap.size ∧ 0 < w.heap.size := ⟨World.block_lt_of_cell? _ _ (hT.1 0 (by decide)).1, World.block_lt_of_cell? _ _ (hT.2 0 (by decide)).1, World.block_lt_of_cell? _ _ (hO 0 (by decide))⟩
 have Hto := Lib.hid hto
 clear hR hA hb hT hO hto
 go_enter Tryz.func15, Tryz.ntmps15
 go_wp2_with fail
 refine (BNew_calls A len cap bs _ HR.out HA.out hlen).mono ?_
 rintro e w1 ⟨r, Bq, c, rfl, hwr, hRd, hown, hb1⟩
 have HB1 := Lib.hid hb1
 have HRd := Lib.hid hRd
 have Hown := Lib.hid hown
 have Hwr := Lib.hid hwr
 clear hRd hown hb1 hwr
 go_upto_region 2 with fail
 obtain ⟨eb, heb⟩ : ∃ x, x = w1.heap.size := ⟨_, rfl⟩
 obtain ⟨h, hh⟩ : ∃ x, x = w1.heap.size + 1 := ⟨_, rfl⟩
 obtain ⟨W1, hW1⟩ : ∃ W, W = (w1.alloc (.cells #[] 5)).alloc (.cells #[.pointer (some ⟨r, 0, none⟩), .int .i64 most, .slice (some ⟨w1.heap.size, 0, none⟩) 0 0, .int .i64 0] 62) := ⟨_, rfl⟩
 rw [← hW1, ← hh]
 have hsz1 : W1.heap.size = h + 1 := by rw [hW1, hh]; simp
 have hr2 : (W1.alloc (.cells #[.nilFunc, .nilFunc, .nilFunc, .nilFunc] 63)).heap[h + 1]? = some (.cells #[.nilFunc, .nilFunc, .nilFunc, .nilFunc] 63 (0, 0)) := by rw [← hsz1]; exact heap_alloc_new W1 _
 have q0 := cell_of_row _ (h + 1) 0 _ _ (0, 0) hr2
 have q1 := cell_of_row _ (h + 1) 1 _ _ (0, 0) hr2
 have q2 := cell_of_row _ (h + 1) 2 _ _ (0, 0) hr2
 have q3 := cell_of_row _ (h + 1) 3 _ _ (0, 0) hr2
 simp only [List.getElem?_toArray, List.getElem?_cons_succ, List.getElem?_cons_zero] at q0 q1 q2 q3
 have f0 := frozen_of_row _ (h + 1) 0 _ _ hr2
 have f1 := frozen_of_row _ (h + 1) 1 _ _ hr2
 have f2 := frozen_of_row _ (h + 1) 2 _ _ hr2
 have f3 := frozen_of_row _ (h + 1) 3 _ _ hr2
 have Hr2 := Lib.hid hr2
 have HW1 := Lib.hid hW1
 have Hh := Lib.hid hh
 have Heb := Lib.hid heb
 clear hr2 hW1 hh heb
 have hst : ∀ (f : Fn) (a : Addr) (w : World), (store a (.func f #[.pointer (some ⟨h, 0, none⟩)] #[])).run Tryz.prog w = stored Tryz.prog w a (.func f #[.pointer (some ⟨h, 0, none⟩)] #[]) .plain := fun f a w => run_store _ w a _ _ rfl
 go_upto_region 3 with fail
 obtain ⟨W2, hW2⟩ : ∃ W, W = W1.alloc (.cells #[.func (.func 26) #[.pointer (some ⟨h, 0, none⟩)] #[], .func (.func 27) #[.pointer (some ⟨h, 0, none⟩)] #[], .func (.func 28) #[.pointer (some ⟨h, 0, none⟩)] #[], .func (.func 29) #[.pointer (some ⟨h, 0, none⟩)] #[]] 63) := ⟨_, rfl⟩
 obtain ⟨fa, hfa⟩ : ∃ x, x = h + 1 := ⟨_, rfl⟩
 rw [← hW2, ← hfa]
 have hrf : W2.heap[fa]? = some (.cells #[.func (.func 26) #[.pointer (some ⟨h, 0, none⟩)] #[], .func (.func 27) #[.pointer (some ⟨h, 0, none⟩)] #[], .func (.func 28) #[.pointer (some ⟨h, 0, none⟩)] #[], .func (.func 29) #[.pointer (some ⟨h, 0, none⟩)] #[]] 63 (0, 0)) := by rw [hW2, hfa, ← hsz1]; exact heap_alloc_new W1 _
 have hb01 : Below w1.heap.size w1 (w1.alloc (.cells #[] 5)) := (Below.refl _ _).alloc (Nat.le_refl _) _
 have hb12 : Below w1.heap.size w1 W1 := by rw [HW1.out]; exact hb01.alloc (by simp) _
 have hb13 : Below w1.heap.size w1 W2 := by rw [hW2]; exact hb12.alloc (by rw [hsz1, Hh.out]; omega) _
 have hW12 : Below W1.heap.size W1 W2 := by rw [hW2]; exact (Below.refl _ _).alloc (Nat.le_refl _) _
 have hah : W1.heap[h]? = some (.cells #[.pointer (some ⟨r, 0, none⟩), .int .i64 most, .slice (some ⟨eb, 0, none⟩) 0 0, .int .i64 0] 62 (0, 0)) := by
  rw [HW1.out, Hh.out, Heb.out]
  have h9 := heap_alloc_new (w1.alloc (.cells #[] 5)) (.cells #[.pointer (some ⟨r, 0, none⟩), .int .i64 most, .slice (some ⟨w1.heap.size, 0, none⟩) 0 0, .int .i64 0] 62)
  simp only [World.size_alloc] at h9
  exact h9
 have hoe : W2.ownsRow w.heap.size 5 1 (.slice (some ⟨eb, 0, none⟩) 0 0) 0 (ints .u8 []) := by
  have h9 := own_empty w1 5
  have hbE : Below (w1.alloc (.cells #[] 5)).heap.size (w1.alloc (.cells #[] 5)) W2 := by
   rw [hW2]
   refine Below.alloc ?_ (by rw [hsz1, Hh.out]; simp) _
   rw [HW1.out]
   exact (Below.refl _ _).alloc (Nat.le_refl _) _
  rw [Heb.out]
  exact own_mono (own_below h9 hbE) HB1.out.size
 have hrb : Hid (Rd W2 .u8 Bq len bs) := by
  obtain ⟨_, _, e1, _, hrr⟩ := own_rd Hown.out
  cases e1
  exact hrr.below hb13
 have hcap : len ≤ c := by
  obtain ⟨_, _, e1, hc9, _⟩ := own_rd Hown.out
  cases e1
  exact hc9
 have hcap2 : c ≤ 9223372036854775807 := own_cap Hown.out _ _ _ rfl
 have HBq : Hid ((Bq = none ∧ len = 0 ∧ c = 0) ∨ ∃ g, Bq = some ⟨g, 0, none⟩) := by
  rcases Hown.out.2 with ⟨h9, h8⟩ | ⟨g, cc, cur, h9, _⟩
  ·simp at h9
   exact Or.inl h9
  ·simp at h9
   exact Or.inr ⟨g, h9.1⟩
 have HS0 : Hid (OSt W2 w.heap.size h r Bq len c bs most 0 (.slice (some ⟨eb, 0, none⟩) 0 0) [] 0) :=
  ⟨(hW12.block h (by rw [hsz1]; omega)).trans hah, HRd.out.keep hb13, hrb.out, hoe, fun b o e => by
   subst e
   have hlt := (Hown.out.lt b rfl).2
   have hne : b ≠ r := fun e2 => own_apart HRd.out (by decide) Hown.out b rfl (by rw [e2])
   have h1 := Hh.out
   have h2 := Heb.out
   refine ⟨hne, by omega, ?_, Nat.lt_of_lt_of_le hlt hb13.size⟩
   simp [Value.ownBlock]
   omega, Nat.zero_le _⟩
 have Hrf := Lib.hid hrf
 have HB2 := Lib.hid (below_seq HB1.out (Nat.le_refl _) hb13)
 have hBh : w.heap.size ≤ h := by have h1 := Hh.out; have h2 := HB1.out.size; omega
 have hB2 := HB2.out.size
 have HW2 := Lib.hid hW2
 have Hfa : Hid (fa ≠ h ∧ fa ≠ r ∧ fa ≠ eb) := Lib.hid (show _ by
  have h1 := Hh.out
  have h2 := Heb.out
  have h3 := HRd.out.lt
  omega)
 clear hW2 hfa hrf hb01 hb12 hb13 hW12 hah hoe hrb q0 q1 q2 q3 f0 f1 f2 f3 hst hsz1
 have Htl := Lib.hid (⟨Hto.out.1, Hto.out.2.1⟩ : 1 < w.heap.size ∧ 2 < w.heap.size)
 clear Hr2 HW1 HW2 Hh Heb
 obtain ⟨v0, hv0⟩ : ∃ v0 : Value, v0 = .slice (some ⟨eb, 0, none⟩) 0 0 := ⟨_, rfl⟩
 have Hv0 : Hid (v0.ownBlock = some eb) := Lib.hid (show _ by rw [hv0]; rfl)
 rw [← hv0] at HS0
 clear hv0
 go_wp2
 go_loopw [9] (fun last wr => OLoop w.heap.size h r Bq len c bs most v0 W2 last wr) (fun _ wr => leftOf len h r wr)
 case atStart => exact Or.inl ⟨0, 8 * len + 1, v0, [], rfl, Nat.zero_le _, by omega, by simp, HS0.out, OStep.refl _ _ _ _, rfl⟩
 case round =>
  rcases hrel with ⟨q, f, v, o, rfl, hq, hf, ho, hO, hS, hI⟩ | ⟨q, v, o, rfl, hO, hS, hI⟩ | ⟨l, cc, q, v, o, rfl, hc0, hO, hS, hI⟩
  ·have HQ := Lib.hid hO
   have HSt := Lib.hid hS
   have HI := Lib.hid hI
   have y3 := hO.c3
   have hlf := hO.left
   rw [if_pos rfl] at hlf
   have Hlf := Lib.hid hlf
   obtain ⟨f, rfl⟩ : ∃ f1, f = f1 + 1 := ⟨f - 1, by omega⟩
   clear hO hS hI hlf
   go_wp2_with fail
   refine (num_calls w.heap.size h r Bq len c bs most q 1 v o 0 _ HQ.out Hb.out hlen (by omega)).mono ?_
   rintro e w3 ⟨Hx, hs3⟩
   have HS3 := Lib.hid (HSt.out.trans hs3)
   clear hs3 y3
   rcases Hx.out with ⟨hok, rfl, hO3⟩ | ⟨hno, rfl, hO3⟩
   ·have HO3 := Lib.hid hO3
    have hx := numAt_small bs q 1 1 (Nat.le_refl _)
    obtain ⟨x, hxe⟩ : ∃ x, x = numAt bs q 1 := ⟨_, rfl⟩
    rw [← hxe] at hx ⊢
    have Hxe := Lib.hid hxe
    have hx2 : x < 2 := hx
    clear hO3 Hx hxe hx
    go_wp2_with fail
    refine (num_calls w.heap.size h r Bq len c bs most (q + 1) 2 v o 0 _ HO3.out Hb.out hlen (by omega)).mono ?_
    rintro e w4 ⟨Hx, hs4⟩
    have HS4 := Lib.hid (HS3.out.trans hs4)
    clear hs4
    rcases Hx.out with ⟨hok4, rfl, hO4⟩ | ⟨hno4, rfl, hO4⟩
    ·have HO4 := Lib.hid hO4
     have hkk := numAt_small bs (q + 1) 2 2 (Nat.le_refl _)
     obtain ⟨kd, hke⟩ : ∃ x, x = numAt bs (q + 1) 2 := ⟨_, rfl⟩
     rw [← hke] at hkk ⊢
     have Hke := Lib.hid hke
     have hk4 : kd < 4 := hkk
     have y3 := hO4.c3
     have hrow4 := (HS4.out.fr.block fa (Array.getElem?_eq_some_iff.1 Hrf.out).1 (fun o2 ho2 e => by
      simp at ho2
      have h9 := Hfa.out
      rcases ho2 with rfl | rfl | rfl
      ·cases e; exact h9.1 rfl
      ·cases e; exact h9.2.1 rfl
      ·rw [Hv0.out] at e; cases e; exact h9.2.2 rfl)).trans Hrf.out
     have z0 := cell_of_row w4 fa 0 _ _ (0, 0) hrow4
     have z1 := cell_of_row w4 fa 1 _ _ (0, 0) hrow4
     have z2 := cell_of_row w4 fa 2 _ _ (0, 0) hrow4
     have z3 := cell_of_row w4 fa 3 _ _ (0, 0) hrow4
     simp only [List.getElem?_toArray, List.getElem?_cons_succ, List.getElem?_cons_zero] at z0 z1 z2 z3
     have hsz4 := HS4.out.fr.size
     have hB4 := Nat.le_trans hB2 hsz4
     have HBB := Lib.hid (HS4.out.keepB HS0.out.own hBh Hwr.out hB2)
     have HT4 := Lib.hid (tabs_lo (HT.out.below HB2.out) HBB.out Htl.out)
     have HOr4 : Hid (OrdAt w4) := fun j hj => (HBB.out.cell Hto.out.2.2).trans (kept_cell HB2.out (HO.out j hj))
     obtain ⟨q3, hq3⟩ : ∃ q3, q3 = q + 3 := ⟨_, rfl⟩
     have e12 : q + 1 + 2 = q3 := by omega
     rw [e12] at HO4 hok4
     have Hq3 := Lib.hid hq3
     clear hO4 Hx hke hkk hrow4 hsz4 hq3 e12 hok
     rcases (show kd = 0 ∨ kd = 1 ∨ kd = 2 ∨ kd = 3 by omega) with rfl | rfl | rfl | rfl
     ·have hbe : blockS bs (8 * len) most (numAt bs (q + 1) 2) (q + 3) o = storedS bs (8 * len) most q3 o := by rw [← Hke.out, ← Hq3.out]; rfl
      have HBe := Lib.hid hbe
      clear hbe
      go_wp2_with fail
      refine (stored_calls w.heap.size h r Bq len c bs most q3 v o _ HO4.out Hb.out hlen ho HBq.out hcap hcap2 hB4).mono ?_
      rintro e w5 hE
      rcases hE with ⟨q5, o5, v5, hX5, rfl, hO5, hS5⟩ | ⟨c5, q5, o5, v5, hX5, hc5, rfl, hO5, hS5⟩
      ·have hbl := block_len (HBe.out.trans hX5)
       have HX5 := Lib.hid (HBe.out.trans hX5)
       have HO5 := Lib.hid hO5
       have HS5 := Lib.hid (HS4.out.trans hS5)
       have ho5 : o5.length ≤ 100000000 := by
        rcases hbl.2 with h9 | h9
        ·omega
        ·rw [h9]; exact ho
       have hq5 := hbl.1
       have hq58 := hO5.q8
       have hm5 : leftOf len h r w5 < leftOf len h r wr := by rw [hO5.left, Hlf.out, if_pos rfl]; have := Hq3.out; omega
       have Hm5 := Lib.hid hm5
       clear hX5 hO5 hS5 hbl hm5 z0 z1 z2 z3 y3
       rcases (show x = 0 ∨ x = 1 by omega) with rfl | rfl
       ·have HR5 : Hid (iter (openStep bs (8 * len) most) (8 * len + 1) (0, []) = iter (openStep bs (8 * len) most) f (q5, o5)) := HI.out.trans (iter_inl (step_next (by have := Hq3.out; omega) Hxe.out.symm HX5.out) f)
        go_wp2
        go_roundw
        case rel => exact Or.inl ⟨q5, f, v5, o5, rfl, hq58, by omega, ho5, HO5.out, HS5.out, HR5.out⟩
        case measure => exact Hm5.out
       ·have HR5 : Hid (iter (openStep bs (8 * len) most) (8 * len + 1) (0, []) = some (.ok (q5, o5))) := HI.out.trans (iter_inr (step_last (by have := Hq3.out; omega) (by rw [← Hxe.out]; decide) HX5.out) f)
        go_wp2
        go_roundw
        case rel => exact Or.inr (Or.inl ⟨q5, v5, o5, rfl, HO5.out, HS5.out, HR5.out⟩)
        case measure => exact Hm5.out
      ·have HX5 := Lib.hid (HBe.out.trans hX5)
       have HO5 := Lib.hid hO5
       have HS5 := Lib.hid (HS4.out.trans hS5)
       have Hc5 := Lib.hid hc5
       have HR5 : Hid (iter (openStep bs (8 * len) most) (8 * len + 1) (0, []) = some (.error c5)) := HI.out.trans (iter_inr (step_err (by have := Hq3.out; omega) HX5.out) f)
       have hm5 : leftOf len h r w5 < leftOf len h r wr := by rw [hO5.left, Hlf.out, if_neg hc5]; omega
       have Hm5 := Lib.hid hm5
       clear hX5 hO5 hS5 hc5 hm5 z0 z1 z2 z3 y3
       go_wp2
       go_roundw
       case rel => exact Or.inr (Or.inr ⟨_, c5, _, _, _, rfl, Hc5.out, HO5.out, HS5.out, HR5.out⟩)
       case measure => exact Hm5.out
     ·have hbe : blockS bs (8 * len) most (numAt bs (q + 1) 2) (q + 3) o = codedS bs (8 * len) most fixA fixB q3 o := by rw [← Hke.out, ← Hq3.out]; rfl
      have HBe := Lib.hid hbe
      clear hbe
      go_wp2_with fail
      refine (fixed_calls w.heap.size h r Bq len c bs most q3 v o _ HO4.out Hb.out hlen hm.2 ho HT4.out Htl.out hBh Hwr.out hB4).mono ?_
      rintro e w5 hE
      rcases hE with ⟨q5, o5, v5, hX5, rfl, hO5, hS5⟩ | ⟨c5, q5, o5, v5, hX5, hc5, rfl, hO5, hS5⟩
      ·have hbl := block_len (HBe.out.trans hX5)
       have HX5 := Lib.hid (HBe.out.trans hX5)
       have HO5 := Lib.hid hO5
       have HS5 := Lib.hid (HS4.out.trans hS5)
       have ho5 : o5.length ≤ 100000000 := by
        rcases hbl.2 with h9 | h9
        ·omega
        ·rw [h9]; exact ho
       have hq5 := hbl.1
       have hq58 := hO5.q8
       have hm5 : leftOf len h r w5 < leftOf len h r wr := by rw [hO5.left, Hlf.out, if_pos rfl]; have := Hq3.out; omega
       have Hm5 := Lib.hid hm5
       clear hX5 hO5 hS5 hbl hm5 z0 z1 z2 z3 y3
       rcases (show x = 0 ∨ x = 1 by omega) with rfl | rfl
       ·have HR5 : Hid (iter (openStep bs (8 * len) most) (8 * len + 1) (0, []) = iter (openStep bs (8 * len) most) f (q5, o5)) := HI.out.trans (iter_inl (step_next (by have := Hq3.out; omega) Hxe.out.symm HX5.out) f)
        go_wp2
        go_roundw
        case rel => exact Or.inl ⟨q5, f, v5, o5, rfl, hq58, by omega, ho5, HO5.out, HS5.out, HR5.out⟩
        case measure => exact Hm5.out
       ·have HR5 : Hid (iter (openStep bs (8 * len) most) (8 * len + 1) (0, []) = some (.ok (q5, o5))) := HI.out.trans (iter_inr (step_last (by have := Hq3.out; omega) (by rw [← Hxe.out]; decide) HX5.out) f)
        go_wp2
        go_roundw
        case rel => exact Or.inr (Or.inl ⟨q5, v5, o5, rfl, HO5.out, HS5.out, HR5.out⟩)
        case measure => exact Hm5.out
      ·have HX5 := Lib.hid (HBe.out.trans hX5)
       have HO5 := Lib.hid hO5
       have HS5 := Lib.hid (HS4.out.trans hS5)
       have Hc5 := Lib.hid hc5
       have HR5 : Hid (iter (openStep bs (8 * len) most) (8 * len + 1) (0, []) = some (.error c5)) := HI.out.trans (iter_inr (step_err (by have := Hq3.out; omega) HX5.out) f)
       have hm5 : leftOf len h r w5 < leftOf len h r wr := by rw [hO5.left, Hlf.out, if_neg hc5]; omega
       have Hm5 := Lib.hid hm5
       clear hX5 hO5 hS5 hc5 hm5 z0 z1 z2 z3 y3
       go_wp2
       go_roundw
       case rel => exact Or.inr (Or.inr ⟨_, c5, _, _, _, rfl, Hc5.out, HO5.out, HS5.out, HR5.out⟩)
       case measure => exact Hm5.out
     ·have hbe : blockS bs (8 * len) most (numAt bs (q + 1) 2) (q + 3) o = dynamicS bs (8 * len) most q3 o := by rw [← Hke.out, ← Hq3.out]; rfl
      have HBe := Lib.hid hbe
      clear hbe
      go_wp2_with fail
      refine (dynamic_calls w.heap.size h r Bq len c bs most q3 v o _ HO4.out Hb.out hlen hm.2 ho HT4.out HOr4.out Htl.out Hto.out.2.2 hBh Hwr.out hB4).mono ?_
      rintro e w5 hE
      rcases hE with ⟨q5, o5, v5, hX5, rfl, hO5, hS5⟩ | ⟨c5, q5, o5, v5, hX5, hc5, rfl, hO5, hS5⟩
      ·have hbl := block_len (HBe.out.trans hX5)
       have HX5 := Lib.hid (HBe.out.trans hX5)
       have HO5 := Lib.hid hO5
       have HS5 := Lib.hid (HS4.out.trans hS5)
       have ho5 : o5.length ≤ 100000000 := by
        rcases hbl.2 with h9 | h9
        ·omega
        ·rw [h9]; exact ho
       have hq5 := hbl.1
       have hq58 := hO5.q8
       have hm5 : leftOf len h r w5 < leftOf len h r wr := by rw [hO5.left, Hlf.out, if_pos rfl]; have := Hq3.out; omega
       have Hm5 := Lib.hid hm5
       clear hX5 hO5 hS5 hbl hm5 z0 z1 z2 z3 y3
       rcases (show x = 0 ∨ x = 1 by omega) with rfl | rfl
       ·have HR5 : Hid (iter (openStep bs (8 * len) most) (8 * len + 1) (0, []) = iter (openStep bs (8 * len) most) f (q5, o5)) := HI.out.trans (iter_inl (step_next (by have := Hq3.out; omega) Hxe.out.symm HX5.out) f)
        go_wp2
        go_roundw
        case rel => exact Or.inl ⟨q5, f, v5, o5, rfl, hq58, by omega, ho5, HO5.out, HS5.out, HR5.out⟩
        case measure => exact Hm5.out
       ·have HR5 : Hid (iter (openStep bs (8 * len) most) (8 * len + 1) (0, []) = some (.ok (q5, o5))) := HI.out.trans (iter_inr (step_last (by have := Hq3.out; omega) (by rw [← Hxe.out]; decide) HX5.out) f)
        go_wp2
        go_roundw
        case rel => exact Or.inr (Or.inl ⟨q5, v5, o5, rfl, HO5.out, HS5.out, HR5.out⟩)
        case measure => exact Hm5.out
      ·have HX5 := Lib.hid (HBe.out.trans hX5)
       have HO5 := Lib.hid hO5
       have HS5 := Lib.hid (HS4.out.trans hS5)
       have Hc5 := Lib.hid hc5
       have HR5 : Hid (iter (openStep bs (8 * len) most) (8 * len + 1) (0, []) = some (.error c5)) := HI.out.trans (iter_inr (step_err (by have := Hq3.out; omega) HX5.out) f)
       have hm5 : leftOf len h r w5 < leftOf len h r wr := by rw [hO5.left, Hlf.out, if_neg hc5]; omega
       have Hm5 := Lib.hid hm5
       clear hX5 hO5 hS5 hc5 hm5 z0 z1 z2 z3 y3
       go_wp2
       go_roundw
       case rel => exact Or.inr (Or.inr ⟨_, c5, _, _, _, rfl, Hc5.out, HO5.out, HS5.out, HR5.out⟩)
       case measure => exact Hm5.out
     ·have hbe : blockS bs (8 * len) most (numAt bs (q + 1) 2) (q + 3) o = .error 3 := by rw [← Hke.out, ← Hq3.out]; rfl
      have HBe := Lib.hid hbe
      clear hbe
      go_wp2_with fail
      refine (none_calls w.heap.size h r Bq len c bs most q3 v o _ HO4.out).mono ?_
      rintro e w5 hE
      rcases hE with ⟨q5, o5, v5, hX5, rfl, hO5, hS5⟩ | ⟨c5, q5, o5, v5, hX5, hc5, rfl, hO5, hS5⟩
      ·have hbl := block_len (HBe.out.trans hX5)
       have HX5 := Lib.hid (HBe.out.trans hX5)
       have HO5 := Lib.hid hO5
       have HS5 := Lib.hid (HS4.out.trans hS5)
       have ho5 : o5.length ≤ 100000000 := by
        rcases hbl.2 with h9 | h9
        ·omega
        ·rw [h9]; exact ho
       have hq5 := hbl.1
       have hq58 := hO5.q8
       have hm5 : leftOf len h r w5 < leftOf len h r wr := by rw [hO5.left, Hlf.out, if_pos rfl]; have := Hq3.out; omega
       have Hm5 := Lib.hid hm5
       clear hX5 hO5 hS5 hbl hm5 z0 z1 z2 z3 y3
       rcases (show x = 0 ∨ x = 1 by omega) with rfl | rfl
       ·have HR5 : Hid (iter (openStep bs (8 * len) most) (8 * len + 1) (0, []) = iter (openStep bs (8 * len) most) f (q5, o5)) := HI.out.trans (iter_inl (step_next (by have := Hq3.out; omega) Hxe.out.symm HX5.out) f)
        go_wp2
        go_roundw
        case rel => exact Or.inl ⟨q5, f, v5, o5, rfl, hq58, by omega, ho5, HO5.out, HS5.out, HR5.out⟩
        case measure => exact Hm5.out
       ·have HR5 : Hid (iter (openStep bs (8 * len) most) (8 * len + 1) (0, []) = some (.ok (q5, o5))) := HI.out.trans (iter_inr (step_last (by have := Hq3.out; omega) (by rw [← Hxe.out]; decide) HX5.out) f)
        go_wp2
        go_roundw
        case rel => exact Or.inr (Or.inl ⟨q5, v5, o5, rfl, HO5.out, HS5.out, HR5.out⟩)
        case measure => exact Hm5.out
      ·have HX5 := Lib.hid (HBe.out.trans hX5)
       have HO5 := Lib.hid hO5
       have HS5 := Lib.hid (HS4.out.trans hS5)
       have Hc5 := Lib.hid hc5
       have HR5 : Hid (iter (openStep bs (8 * len) most) (8 * len + 1) (0, []) = some (.error c5)) := HI.out.trans (iter_inr (step_err (by have := Hq3.out; omega) HX5.out) f)
       have hm5 : leftOf len h r w5 < leftOf len h r wr := by rw [hO5.left, Hlf.out, if_neg hc5]; omega
       have Hm5 := Lib.hid hm5
       clear hX5 hO5 hS5 hc5 hm5 z0 z1 z2 z3 y3
       go_wp2
       go_roundw
       case rel => exact Or.inr (Or.inr ⟨_, c5, _, _, _, rfl, Hc5.out, HO5.out, HS5.out, HR5.out⟩)
       case measure => exact Hm5.out
    ·have HO4 : Hid (OSt w4 w.heap.size h r Bq len c bs most (q + 1) v o 2) := hO4
     have y3 := HO4.out.c3
     have HR4 : Hid (iter (openStep bs (8 * len) most) (8 * len + 1) (0, []) = some (.error 2)) := HI.out.trans (iter_inr (step_short (by omega)) f)
     clear hO4 Hx
     go_wp2
     go_roundw
     case rel => exact Or.inr (Or.inr ⟨_, 2, _, _, _, rfl, by decide, HO4.out, HS4.out, HR4.out⟩)
     case measure =>
      rw [HO4.out.left, Hlf.out]
      simp
      try omega
   ·have HO3 := Lib.hid hO3
    clear hO3 Hx
    go_wp2_with fail
    refine (num_calls w.heap.size h r Bq len c bs most q 2 v o _ _ HO3.out Hb.out hlen (by omega)).mono ?_
    rintro e w4 ⟨Hx, hs4⟩
    have HS4 := Lib.hid (HS3.out.trans hs4)
    clear hs4
    rcases Hx.out with ⟨hok4, _, _⟩ | ⟨_, rfl, hO4⟩
    ·omega
    ·have HO4 : Hid (OSt w4 w.heap.size h r Bq len c bs most q v o 2) := hO4
     have y3 := HO4.out.c3
     have HR4 : Hid (iter (openStep bs (8 * len) most) (8 * len + 1) (0, []) = some (.error 2)) := HI.out.trans (iter_inr (step_short (by omega)) f)
     clear hO4 Hx
     go_wp2
     go_roundw
     case rel => exact Or.inr (Or.inr ⟨_, 2, _, _, _, rfl, by decide, HO4.out, HS4.out, HR4.out⟩)
     case measure =>
      rw [HO4.out.left, Hlf.out]
      simp
      try omega
  ·have HQ := Lib.hid hO
   have HSt := Lib.hid hS
   have HI : Hid (openS bs most = .ok (q, o)) := Lib.hid (show _ by unfold openS; rw [Hl.out, hI]; rfl)
   have y3 := hO.c3
   have y2 := hO.c2
   have y0 := hO.c0
   have yr := hO.rdr.c1
   obtain ⟨Av, cv, rfl⟩ := own_slice hO.own
   obtain ⟨ol, hol⟩ : ∃ x, x = o.length := ⟨_, rfl⟩
   rw [← hol] at y2
   have hq8 := hO.q8
   have Hol := Lib.hid hol
   clear hO hS hI hol
   have k2 := Later.cell y2
   have k0 := Later.cell y0
   have kr := Later.cell yr
   have L0 : Later wr wr.drew := (Later.refl wr).drew
   have hq9 : q ≤ 8000000 := by omega
   go_upto_region 11 with fail
   refine wp_region_noPanic ?_
   refine wp_region_held_drew (S := fun W => Later wr W) (by kernel_rfl) (L0) (fun hHeld => ?_)
   refine' wpAnyH_take (i := 0) (oi := ⟨_, _, _, _, _, _⟩) rfl (by kernel_rfl) (by kernel_rfl) (by kernel_rfl) (fun _ _ _ h => h) (Or.inl ⟨by rfl, ?a0⟩) (by assumption) ?b0
   case a0 => (intro w hSw; (try dsimp only at hSw); go_simp; try with_reducible rfl)
   try simp only [Act.put, List.setIfInBounds_toArray, List.set_cons_zero, List.set_cons_succ]
   refine' wpAnyH_take (i := 1) (oi := ⟨_, _, _, _, _, _⟩) rfl (by kernel_rfl) (by kernel_rfl) (by kernel_rfl) (fun _ _ _ h => h) (Or.inl ⟨by rfl, ?a1⟩) (by assumption) ?b1
   case a1 => (intro w hSw; (try dsimp only at hSw); go_simp; try with_reducible rfl)
   try simp only [Act.put, List.setIfInBounds_toArray, List.set_cons_zero, List.set_cons_succ]
   refine' wpAnyH_take (i := 2) (oi := ⟨_, _, _, _, _, _⟩) rfl (by kernel_rfl) (by kernel_rfl) (by kernel_rfl) (fun _ _ _ h => h) (Or.inl ⟨by rfl, ?a2⟩) (by assumption) ?b2
   case a2 => (intro w hSw; (try dsimp only at hSw); go_simp; try with_reducible rfl)
   try simp only [Act.put, List.setIfInBounds_toArray, List.set_cons_zero, List.set_cons_succ]
   refine' wpAnyH_take (i := 3) (oi := ⟨_, _, _, _, _, _⟩) rfl (by kernel_rfl) (by kernel_rfl) (by kernel_rfl) (fun _ _ _ h => h) (Or.inl ⟨by rfl, ?a3⟩) (by assumption) ?b3
   case a3 => (intro w hSw; (try dsimp only at hSw); go_simp; try with_reducible rfl)
   try simp only [Act.put, List.setIfInBounds_toArray, List.set_cons_zero, List.set_cons_succ]
   refine' wpAnyH_take (i := 4) (oi := ⟨_, _, _, _, _, _⟩) rfl (by kernel_rfl) (by kernel_rfl) (by kernel_rfl) (fun _ _ _ h => h) (Or.inl ⟨by rfl, ?a4⟩) (by assumption) ?b4
   case a4 => (intro w hSw; (try dsimp only at hSw); go_simp; try with_reducible rfl)
   try simp only [Act.put, List.setIfInBounds_toArray, List.set_cons_zero, List.set_cons_succ]
   refine' wpAnyH_take (i := 5) (oi := ⟨_, _, _, _, _, _⟩) rfl (by kernel_rfl) (by kernel_rfl) (by kernel_rfl) (fun _ _ _ h => h) (Or.inl ⟨by rfl, ?a5⟩) (by assumption) ?b5
   case a5 => (intro w hSw; (try dsimp only at hSw); go_simp; try with_reducible rfl)
   try simp only [Act.put, List.setIfInBounds_toArray, List.set_cons_zero, List.set_cons_succ]
   refine' wpAnyH_take (i := 6) (oi := ⟨_, _, _, _, _, _⟩) rfl (by kernel_rfl) (by kernel_rfl) (by kernel_rfl) (fun _ _ _ h => h) (Or.inl ⟨by rfl, ?a6⟩) (by assumption) ?b6
   case a6 => (intro w hSw; (try dsimp only at hSw); go_simp; try with_reducible rfl)
   try simp only [Act.put, List.setIfInBounds_toArray, List.set_cons_zero, List.set_cons_succ]
   refine' wpAnyH_take (i := 7) (oi := ⟨_, _, _, _, _, _⟩) rfl (by kernel_rfl) (by kernel_rfl) (by kernel_rfl) (fun _ _ _ h => h) (Or.inl ⟨by rfl, ?a7⟩) (by assumption) ?b7
   case a7 => (intro w hSw; (try dsimp only at hSw); go_simp; try with_reducible rfl)
   try simp only [Act.put, List.setIfInBounds_toArray, List.set_cons_zero, List.set_cons_succ]
   refine wpAnyH_ready (rs := [8]) (by kernel_rfl) (by simp) ?_
   refine AllReadyH.cons (o := ⟨_, _, _, _, _, _⟩) rfl (fun K hK => ?_) AllReadyH.nil
   go_simp
   go_at_call 31
   refine (At_calls r Bq len c q _ (HQ.out.rdr.keep (Later.bel hHeld))).mono ?_
   rintro e w9 ⟨rfl, rfl⟩
   refine hK.out _ _ hHeld (fun hHeldN => ?_)
   clear hK K hHeld
   have hHeld := hHeldN
   clear hHeldN
   try simp only [Act.put, List.setIfInBounds_toArray, List.set_cons_zero, List.set_cons_succ]
   refine' wpAnyH_take (i := 9) (oi := ⟨_, _, _, _, _, _⟩) rfl (by kernel_rfl) (by kernel_rfl) (by kernel_rfl) (fun _ _ _ h => h) (Or.inl ⟨by rfl, ?a8⟩) (by assumption) ?b8
   case a8 => (intro w hSw; (try dsimp only at hSw); go_simp; try with_reducible rfl)
   try simp only [Act.put, List.setIfInBounds_toArray, List.set_cons_zero, List.set_cons_succ]
   refine' wpAnyH_take (i := 10) (oi := ⟨_, _, _, _, _, _⟩) rfl (by kernel_rfl) (by kernel_rfl) (by kernel_rfl) (fun _ _ _ h => h) (Or.inl ⟨by rfl, ?a9⟩) (by assumption) ?b9
   case a9 => (intro w hSw; (try dsimp only at hSw); go_simp; try with_reducible rfl)
   try simp only [Act.put, List.setIfInBounds_toArray, List.set_cons_zero, List.set_cons_succ]
   refine' wpAnyH_take (i := 11) (oi := ⟨_, _, _, _, _, _⟩) rfl (by kernel_rfl) (by kernel_rfl) (by kernel_rfl) (fun _ _ _ h => h) (Or.inl ⟨by rfl, ?a10⟩) (by assumption) ?b10
   case a10 => (intro w hSw; (try dsimp only at hSw); go_simp; try with_reducible rfl)
   try simp only [Act.put, List.setIfInBounds_toArray, List.set_cons_zero, List.set_cons_succ]
   refine' wpAnyH_take (i := 12) (oi := ⟨_, _, _, _, _, _⟩) rfl (by kernel_rfl) (by kernel_rfl) (by kernel_rfl) (fun _ _ _ h => h) (Or.inl ⟨by rfl, ?a11⟩) (by assumption) ?b11
   case a11 => (intro w hSw; (try dsimp only at hSw); go_simp; try with_reducible rfl)
   try simp only [Act.put, List.setIfInBounds_toArray, List.set_cons_zero, List.set_cons_succ]
   refine' wpAnyH_take (i := 13) (oi := ⟨_, _, _, _, _, _⟩) rfl (by kernel_rfl) (by kernel_rfl) (by kernel_rfl) (fun _ _ _ h => h) (Or.inl ⟨by rfl, ?a12⟩) (by assumption) ?b12
   case a12 => (intro w hSw; (try dsimp only at hSw); go_simp; try with_reducible rfl)
   try simp only [Act.put, List.setIfInBounds_toArray, List.set_cons_zero, List.set_cons_succ]
   refine wpAnyH_done (by kernel_rfl) ?_ _
   refine NoPanic.normal ?_
   go_wp2
   have hwq : IntKind.i64.wrap ((IntKind.i64.wrap ((q : Int) + 7)).tdiv 8) = ((q : Int) + 7) / 8 := by
    rw [IntWalk.i64_in ((q : Int) + 7) (by omega), Int.tdiv_eq_ediv_of_nonneg (show 0 ≤ (q : Int) + 7 by omega), IntWalk.i64_in (((q : Int) + 7) / 8) (by omega)]
   refine bodyPost_ret (v := .tuple #[.slice Av ol cv, .int .i64 (((q : Int) + 7) / 8), .int .i64 0]) (by simp [results, Tryz.results15, go_sem, hwq]) rfl ?_
   refine ⟨Lib.hid (Or.inl ⟨q, o, .slice Av ol cv, HI.out, by rw [show (((q + 7) / 8 : Nat) : Int) = ((q : Int) + 7) / 8 by omega], ?_⟩), ?_⟩
   ·have h9 := own_below HQ.out.own (Later.bel hHeld)
    rw [← Hol.out] at h9 ⊢
    exact h9
   ·exact HB2.out.trans ((HSt.out.keepB HS0.out.own hBh Hwr.out hB2).trans ((Later.bel hHeld).mono (Nat.le_trans hB2 HSt.out.fr.size)))
  ·have HQ := Lib.hid hO
   have HSt := Lib.hid hS
   have HI : Hid (openS bs most = .error cc) := Lib.hid (show _ by unfold openS; rw [Hl.out, hI]; rfl)
   have y3 := hO.c3
   have Hc0 := Lib.hid hc0
   clear hO hS hI
   by_cases hl0 : l = 0
   ·subst hl0
    go_upto_region 10 with fail
    go_region
    go_wp2
    refine bodyPost_ret (v := .tuple #[.slice none 0 0, .int .i64 0, .int .i64 cc]) (by simp [results, Tryz.results15, go_sem]) rfl ?_
    refine ⟨Lib.hid (Or.inr ⟨cc, HI.out, Hc0.out, rfl⟩), ?_⟩
    exact HB2.out.trans ((HSt.out.keepB HS0.out.own hBh Hwr.out hB2).trans ((Below.refl _ _).drew))
   ·go_upto_region 10 with fail
    go_region
    go_wp2
    refine bodyPost_ret (v := .tuple #[.slice none 0 0, .int .i64 0, .int .i64 cc]) (by simp [results, Tryz.results15, go_sem]) rfl ?_
    refine ⟨Lib.hid (Or.inr ⟨cc, HI.out, Hc0.out, rfl⟩), ?_⟩
    exact HB2.out.trans ((HSt.out.keepB HS0.out.own hBh Hwr.out hB2).trans ((Below.refl _ _).drew))
end Go.Proofs.YtdbkbeojedndbaaGreatDoor
namespace Go.Proofs.YtdbkbeojedndbaaGreatDoor
open Go.RowKit

theorem iter_det {σ ρ : Type} {step : σ → σ ⊕ ρ} {n m : Nat} {s : σ} {r r' : ρ} (h : iter step n s = some r) (h' : iter step m s = some r') : r = r' := by
 have h1 := iter_mono h (n + m) (by omega)
 rw [iter_mono h' (n + m) (by omega)] at h1
 cases h1
 rfl
theorem code_total {bs : List Int} {T : Nat} {most : Int} {xs ys : List Int} (p : Nat × List Int) : ∃ r, iter (codeStep bs T most xs ys) (T + 1) p = some r := by
 refine iter_total (fun s => T - s.1) (fun s s' h => ?_) _ _ (by omega)
 obtain ⟨q, o⟩ := s
 obtain ⟨q2, o2⟩ := s'
 have h1 := (codeStep_inl h).1
 show T - q2 < T - q
 cases hs : symN xs bs T q with
 | error e => rw [code_err hs] at h; cases h
 | ok p =>
  have h2 := (symN_hit (show symN xs bs T q = .ok (p.1, p.2) from hs)).1
  have h3 := h2.2.1
  have h4 := h2.2.2.2.1
  omega
theorem coded_of {bs : List Int} {T : Nat} {most : Int} {xs ys : List Int} {q n : Nat} {o : List Int} {r : Res} (hx : rightB xs = true) (hy : rightB ys = true ∨ ys.any (fun y => y != 0) = false) (h : iter (codeStep bs T most xs ys) n (q, o) = some r) : codedS bs T most xs ys q o = r := by
 unfold codedS
 rw [if_neg (by rw [hx]; decide), if_neg (fun h9 => by rcases hy with h8 | h8 <;> simp [h8] at h9)]
 obtain ⟨r2, h2⟩ := code_total (bs := bs) (T := T) (most := most) (xs := xs) (ys := ys) (q, o)
 rw [h2, iter_det h h2]
 rfl
theorem addS_of {m b l d : Int} {o : List Int} (hr : rightT b l d o.length = true) : addS m b l d o = if m < o.length + max l 1 then .error 4 else .ok (addT b l d o) := by
 unfold addS
 rw [hr, if_neg (by decide)]
theorem addS_is {most b l d : Int} {o o' : List Int} (h : addS most b l d o = .ok o') : rightT b l d o.length = true ∧ o' = addT b l d o := by
 cases hr : rightT b l d o.length with
 | false => unfold addS at h; rw [hr, if_pos rfl] at h; cases h
 | true =>
  rw [addS_of hr] at h
  split at h
  ·cases h
  ·cases h; exact ⟨rfl, rfl⟩
theorem addR_less {most m b l d : Int} {q q' : Nat} {o o' : List Int} (h : addR most b l d q o = .ok (q', o')) : (addR m b l d q o = .ok (q', o') ∧ (o'.length : Int) ≤ m) ∨ addR m b l d q o = .error 4 := by
 have hq := (addR_len h).2
 cases ha : addS most b l d o with
 | error e => rw [addR_err ha] at h; cases h
 | ok o2 =>
  rw [addR_ok ha] at h
  cases h
  obtain ⟨hr, rfl⟩ := addS_is ha
  have h9 := addS_of (m := m) hr
  by_cases hm : m < o.length + max l 1
  ·rw [if_pos hm] at h9
   exact Or.inr (addR_err h9)
  ·rw [if_neg hm] at h9
   exact Or.inl ⟨addR_ok h9, addS_len h9⟩
theorem distL_less {bs : List Int} {T : Nat} {most m L least : Int} {nb q q' : Nat} {o o' : List Int} (h : distL bs T most L least nb q o = .ok (q', o')) : (distL bs T m L least nb q o = .ok (q', o') ∧ (o'.length : Int) ≤ m) ∨ distL bs T m L least nb q o = .error 4 := by
 rcases Nat.lt_or_ge T (q + nb) with g | g
 ·rw [distL_no g] at h; cases h
 ·rw [distL_ok g] at h ⊢
  exact addR_less h
theorem distS_less {bs : List Int} {T : Nat} {most m L : Int} {ys : List Int} {q q' : Nat} {o o' : List Int} (h : distS bs T most ys L q o = .ok (q', o')) : (distS bs T m ys L q o = .ok (q', o') ∧ (o'.length : Int) ≤ m) ∨ distS bs T m ys L q o = .error 4 := by
 cases hy : rightB ys with
 | false => rw [distS_nil hy] at h; cases h
 | true =>
  cases hs : symN ys bs T q with
  | error e => rw [distS_err hy hs] at h; cases h
  | ok p =>
   obtain ⟨d, q2⟩ := p
   rcases Nat.lt_or_ge d 30 with g | g
   ·rw [distS_ok hy hs g] at h ⊢
    exact distL_less h
   ·rw [distS_far hy hs g] at h; cases h
theorem matchS_less {bs : List Int} {T : Nat} {most m : Int} {ys : List Int} {s q q' : Nat} {o o' : List Int} (h : matchS bs T most ys s q o = .ok (q', o')) : (matchS bs T m ys s q o = .ok (q', o') ∧ (o'.length : Int) ≤ m) ∨ matchS bs T m ys s q o = .error 4 := by
 unfold matchS at h ⊢
 split at h
 ·cases h
 ·rename_i hs
  rw [if_neg hs]
  rcases Nat.lt_or_ge T (q + (rowB lens (s - 257)).toNat) with g | g
  ·rw [matchL_no g] at h; cases h
  ·rw [matchL_ok g] at h ⊢
   exact distS_less h
theorem code_less_inl {bs : List Int} {T : Nat} {most m : Int} {xs ys : List Int} {p p' : Nat × List Int} (h : codeStep bs T most xs ys p = .inl p') : (codeStep bs T m xs ys p = .inl p' ∧ (p'.2.length : Int) ≤ m) ∨ codeStep bs T m xs ys p = .inr (.error 4) := by
 obtain ⟨q, o⟩ := p
 cases hs : symN xs bs T q with
 | error e => rw [code_err hs] at h; cases h
 | ok r =>
  obtain ⟨s, q1⟩ := r
  by_cases h256 : s = 256
  ·subst h256; rw [code_end hs] at h; cases h
  ·by_cases hlo : s < 256
   ·cases ha : addR most s 0 0 q1 o with
    | error e => rw [code_lit_err hs hlo ha] at h; cases h
    | ok r =>
     obtain ⟨q3, o3⟩ := r
     rw [code_lit_ok hs hlo ha] at h
     cases h
     rcases addR_less (m := m) ha with ⟨h1, h2⟩ | h1
     ·exact Or.inl ⟨code_lit_ok hs hlo h1, h2⟩
     ·exact Or.inr (code_lit_err hs hlo h1)
   ·cases ha : matchS bs T most ys s q1 o with
    | error e => rw [code_match_err hs (by omega) ha] at h; cases h
    | ok r =>
     obtain ⟨q3, o3⟩ := r
     rw [code_match_ok hs (by omega) ha] at h
     cases h
     rcases matchS_less (m := m) ha with ⟨h1, h2⟩ | h1
     ·exact Or.inl ⟨code_match_ok hs (by omega) h1, h2⟩
     ·exact Or.inr (code_match_err hs (by omega) h1)
theorem code_less_inr {bs : List Int} {T : Nat} {most m : Int} {xs ys : List Int} {q q' : Nat} {o o' : List Int} (h : codeStep bs T most xs ys (q, o) = .inr (.ok (q', o'))) : codeStep bs T m xs ys (q, o) = .inr (.ok (q', o')) := by
 cases hs : symN xs bs T q with
 | error e => rw [code_err hs] at h; cases h
 | ok r =>
  obtain ⟨s, q1⟩ := r
  by_cases h256 : s = 256
  ·subst h256; rw [code_end hs] at h ⊢; exact h
  ·by_cases hlo : s < 256
   ·cases ha : addR most s 0 0 q1 o with
    | error e => rw [code_lit_err hs hlo ha] at h; cases h
    | ok r => rw [code_lit_ok hs hlo (show addR most s 0 0 q1 o = .ok (r.1, r.2) from ha)] at h; cases h
   ·cases ha : matchS bs T most ys s q1 o with
    | error e => rw [code_match_err hs (by omega) ha] at h; cases h
    | ok r => rw [code_match_ok hs (by omega) (show matchS bs T most ys s q1 o = .ok (r.1, r.2) from ha)] at h; cases h
theorem iter_less {bs : List Int} {T : Nat} {most m : Int} {xs ys : List Int} : ∀ {f q q' : Nat} {o o' : List Int}, iter (codeStep bs T most xs ys) f (q, o) = some (.ok (q', o')) →
  (iter (codeStep bs T m xs ys) f (q, o) = some (.ok (q', o')) ∧ ((o'.length : Int) ≤ m ∨ o' = o)) ∨ iter (codeStep bs T m xs ys) f (q, o) = some (.error 4) := by
 intro f
 induction f with
 | zero => intro q q' o o' h; cases h
 | succ f ih =>
  intro q q' o o' h
  cases hs : codeStep bs T most xs ys (q, o) with
  | inr r =>
   rw [iter_inr hs] at h
   cases h
   have h1 := codeStep_inr hs
   exact Or.inl ⟨iter_inr (code_less_inr hs) f, Or.inr h1.2⟩
  | inl p =>
   obtain ⟨q1, o1⟩ := p
   rw [iter_inl hs] at h
   rcases code_less_inl (m := m) hs with ⟨h1, h2⟩ | h1
   ·rw [iter_inl h1]
    rcases ih h with ⟨h3, h4⟩ | h3
    ·exact Or.inl ⟨h3, Or.inl (h4.elim id (fun e => by rw [e]; exact h2))⟩
    ·exact Or.inr h3
   ·exact Or.inr (iter_inr h1 f)
theorem coded_less {bs : List Int} {T : Nat} {most m : Int} {xs ys : List Int} {q q' : Nat} {o o' : List Int} (h : codedS bs T most xs ys q o = .ok (q', o')) :
  (codedS bs T m xs ys q o = .ok (q', o') ∧ ((o'.length : Int) ≤ m ∨ o' = o)) ∨ codedS bs T m xs ys q o = .error 4 := by
 unfold codedS at h ⊢
 by_cases hx : rightB xs = false
 ·rw [if_pos hx] at h; cases h
 ·rw [if_neg hx] at h ⊢
  by_cases hy : rightB ys = false ∧ ys.any (fun y => y != 0) = true
  ·rw [if_pos hy] at h; cases h
  ·rw [if_neg hy] at h ⊢
   cases hi : iter (codeStep bs T most xs ys) (T + 1) (q, o) with
   | none => rw [hi] at h; cases h
   | some r =>
    rw [hi] at h
    have e : r = .ok (q', o') := h
    subst e
    rcases iter_less (m := m) hi with ⟨h1, h2⟩ | h1
    ·exact Or.inl ⟨by rw [h1]; rfl, h2⟩
    ·exact Or.inr (by rw [h1]; rfl)
theorem stored_less {bs : List Int} {T : Nat} {most m : Int} {q q' : Nat} {o o' : List Int} (h : storedS bs T most q o = .ok (q', o')) : (storedS bs T m q o = .ok (q', o') ∧ ((o'.length : Int) ≤ m ∨ o' = o)) ∨ storedS bs T m q o = .error 4 := by
 unfold storedS at h ⊢
 by_cases h1 : T < upTo8 q + 32
 ·rw [if_pos h1] at h; cases h
 ·rw [if_neg h1] at h ⊢
  by_cases h2 : numAt bs (upTo8 q) 16 ^^^ numAt bs (upTo8 q + 16) 16 ≠ 65535
  ·rw [if_pos h2] at h; cases h
  ·rw [if_neg h2] at h ⊢
   by_cases h3 : most < o.length + numAt bs (upTo8 q) 16
   ·rw [if_pos h3] at h; cases h
   ·rw [if_neg h3] at h
    by_cases h4 : T < upTo8 q + 32 + 8 * numAt bs (upTo8 q) 16
    ·rw [if_pos h4] at h; cases h
    ·rw [if_neg h4] at h
     cases h
     by_cases h5 : m < o.length + numAt bs (upTo8 q) 16
     ·rw [if_pos h5]; exact Or.inr rfl
     ·rw [if_neg h5, if_neg h4]
      refine Or.inl ⟨rfl, Or.inl ?_⟩
      rw [List.length_append]
      have := List.length_take_le (numAt bs (upTo8 q) 16) (bs.drop ((upTo8 q + 32) / 8))
      omega
theorem block_less {bs : List Int} {T k : Nat} {most m : Int} {q q' : Nat} {o o' : List Int} (h : blockS bs T most k q o = .ok (q', o')) : (blockS bs T m k q o = .ok (q', o') ∧ ((o'.length : Int) ≤ m ∨ o' = o)) ∨ blockS bs T m k q o = .error 4 := by
 unfold blockS at h ⊢
 by_cases h0 : k = 0
 ·rw [if_pos h0] at h ⊢; exact stored_less h
 ·rw [if_neg h0] at h ⊢
  by_cases h1 : k = 1
  ·rw [if_pos h1] at h ⊢; exact coded_less h
  ·rw [if_neg h1] at h ⊢
   by_cases h2 : k = 2
   ·rw [if_pos h2] at h ⊢
    cases hg : getS bs T q with
    | none => rw [hg] at h; cases h
    | some r =>
     obtain ⟨xs, ys, q1⟩ := r
     rw [hg] at h
     exact coded_less h
   ·rw [if_neg h2] at h; cases h
end Go.Proofs.YtdbkbeojedndbaaGreatDoor
namespace Go.Proofs.YtdbkbeojedndbaaGreatDoor
open Go.RowKit

theorem shr_len : ∀ k : Nat, k ≤ 15 → (32768 : Int) / 2 ^ k = 2 ^ (15 - k) := by decide +kernel
theorem lensOk_cell {xs : List Int} (s : Nat) (hs : s < xs.length) (h : ¬ (0 ≤ rd xs s ∧ rd xs s ≤ 15)) : lensOk xs = false := by
 unfold lensOk
 rw [List.all_eq_false]
 exact ⟨xs[s], List.getElem_mem _, by rw [← rd_getElem hs]; simpa using h⟩
theorem befores_le (xs : List Int) (s j : Nat) : 0 ≤ befores xs s j ∧ befores xs s j ≤ s := by
 have := before_le xs j s
 unfold befores
 omega
theorem pow_15_le : ∀ k : Nat, k ≤ 15 → (0 : Int) ≤ 2 ^ (15 - k) ∧ (2 : Int) ^ (15 - k) ≤ 32768 := by decide +kernel
set_option maxHeartbeats 1000000 in set_option maxRecDepth 100000 in
theorem refRight_calls (A : Option Addr) (n cap : Nat) (xs : List Int) (w : World) (hR : Rd w .i64 A n xs) (hn : n ≤ 1000000) :
  Calls Tryz.prog 21 #[.slice A n cap] w fun e w' => e = .returned (.bool (rightB xs)) ∧ Below w.heap.size w w' := by
 have HR := Lib.hid hR
 have hlen := Lib.hid hR.1
 have Heq := Lib.hid (rightR_eq xs)
 clear hR
 go_enter Tryz.func21, Tryz.ntmps21
 go_wp2
 go_loop [3, 4, 5, 6] (fun a b c i => ∃ s : Nat, s ≤ n ∧ i = .int .i64 s ∧ a = .int .i64 (sumR xs s) ∧ b = .int .i64 (manyR xs s) ∧ c = .int .i64 (befores xs s 1) ∧ Hid (lensOk (xs.take s) = true) ∧ 0 ≤ sumR xs s ∧ sumR xs s ≤ 32768 * s ∧ 0 ≤ manyR xs s ∧ manyR xs s ≤ s) (fun _ _ _ i => n - (intOf i).toNat)
 case atStart => exact ⟨0, by omega, rfl, by rw [sumR_start], by rw [manyR_start], by unfold befores; rw [before_zero]; rfl, rfl, by rw [sumR_start]; omega, by rw [sumR_start]; omega, by rw [manyR_start]; omega, by rw [manyR_start]; omega⟩
 case round =>
  obtain ⟨s, hs, rfl, rfl, rfl, rfl, Hok, g1, g2, g3, g4⟩ := hrel
  have hbf := befores_le xs s 1
  by_cases hlt : s < n
  ·obtain ⟨b, o, rfl, hcx⟩ := HR.out.2 (by omega)
   have z := hcx s hlt
   clear hcx
   have hlt' : s < xs.length := by rw [hlen.out]; exact hlt
   by_cases hx : 0 ≤ rd xs s ∧ rd xs s ≤ 15
   ·obtain ⟨k, hk⟩ : ∃ k : Nat, rd xs s = k := ⟨(rd xs s).toNat, by omega⟩
    have hok2 : Hid (lensOk (xs.take (s + 1)) = true) := by
     show lensOk _ = true
     have h1 : lensOk (xs.take s) = true := Hok.out
     rw [List.take_succ_eq_append_getElem hlt']
     unfold lensOk at *
     rw [List.all_append, h1, ← rd_getElem hlt', hk]
     simp
     omega
    have hb := befores_next xs s k hlt' hk 1
    rw [hk] at z hx
    by_cases h0 : k = 0
    ·subst h0
     have e1 := Lib.hid (sumR_zero xs s hlt' hk)
     have e2 := Lib.hid (manyR_zero xs s hlt' hk)
     have e3 : Hid (befores xs (s + 1) 1 = befores xs s 1) := by show befores xs (s + 1) 1 = _; rw [hb, if_neg (by omega), Int.add_zero]
     clear hb hk hx
     go_wp2
     go_round
     case rel => exact ⟨s + 1, by omega, by go_num, by rw [e1.out], by rw [e2.out], by rw [e3.out], hok2, by rw [e1.out]; exact g1, by rw [e1.out]; omega, by rw [e2.out]; exact g3, by rw [e2.out]; omega⟩
     case measure => simp [intOf]; omega
    ·have hk0 : 0 < k := by omega
     have e1 := Lib.hid (sumR_next xs s k hlt' hk hk0 (by omega))
     have e2 := Lib.hid (manyR_next xs s k hlt' hk hk0 (by omega))
     have hp := pow_15_le k (by omega)
     have hsh := shr_len k (by omega)
     by_cases h1 : k = 1
     ·subst h1
      have e3 : Hid (befores xs (s + 1) 1 = befores xs s 1 + 1) := hb
      clear hb hk hx
      rw [show ((2 : Int) ^ (15 - 1)) = 16384 from by decide +kernel] at e1
      go_wp2
      go_round
      case rel => exact ⟨s + 1, by omega, by go_num, by rw [e1.out], by rw [e2.out], by rw [e3.out], hok2, by rw [e1.out]; omega, by rw [e1.out]; omega, by rw [e2.out]; omega, by rw [e2.out]; omega⟩
      case measure => simp [intOf]; omega
     ·have e3 : Hid (befores xs (s + 1) 1 = befores xs s 1) := by show befores xs (s + 1) 1 = _; rw [hb, if_neg (by omega), Int.add_zero]
      have h1' : ((k : Int) == 1) = false := by simp; omega
      clear hb hk
      go_wp2
      go_round
      case rel => exact ⟨s + 1, by omega, by go_num, by rw [e1.out], by rw [e2.out], by rw [e3.out], hok2, by rw [e1.out]; omega, by rw [e1.out]; omega, by rw [e2.out]; omega, by rw [e2.out]; omega⟩
      case measure => simp [intOf]; omega
   ·have hno := lensOk_cell s hlt' hx
    have hr : rightB xs = false := by rw [← Heq.out]; unfold rightR; rw [hno, Bool.false_and]
    have Hr := Lib.hid hr
    have hways : rd xs s < 0 ∨ (0 ≤ rd xs s ∧ 15 < rd xs s) := by omega
    clear hx hno hr
    rcases hways with h1 | ⟨h1, h2⟩
    all_goals
     go_wp2
     go_ret
     exact ⟨by rw [Hr.out]; rfl, Below.refl _ _⟩
  ·obtain rfl : s = n := by omega
   have hok : lensOk xs = true := by
    have h1 : lensOk (xs.take s) = true := Hok.out
    rwa [List.take_of_length_le (by rw [hlen.out]; exact Nat.le_refl _)] at h1
   have hfin : rightB xs = (sumR xs s == 32768 || (manyR xs s == 1 && befores xs s 1 == 1)) := by
    rw [← Heq.out]; unfold rightR; rw [hok, hlen.out, Bool.true_and]
   have Hfin := Lib.hid hfin
   clear hok hfin
   cases c1 : (sumR xs s == 32768)
   ·cases c2 : (manyR xs s == 1)
    ·go_wp2
     go_ret
     exact ⟨by rw [Hfin.out, c1, c2]; rfl, Below.refl _ _⟩
    ·cases c3 : (befores xs s 1 == 1)
     all_goals
      go_wp2
      go_ret
      exact ⟨by rw [Hfin.out, c1, c2, c3]; rfl, Below.refl _ _⟩
   ·go_wp2
    go_ret
    exact ⟨by rw [Hfin.out, c1]; rfl, Below.refl _ _⟩
end Go.Proofs.YtdbkbeojedndbaaGreatDoor
namespace Go.Proofs.YtdbkbeojedndbaaGreatDoor
open Go.RowKit

theorem step_appRd {P : Program} {w : World} {ops : Array Oper} {o : Oper} {a : Act} {K : Act → World → Prop} {Q : Exit → Act → World → Prop} {E : Prop} (hgd : o.guard = none) (s x : Operand) {t : TypeId}
  (ho : o.op = .call { callee := .builtin .append, args := #[s, x], argTypes := #[t, t] })
  {base : Nat} {e : TypeId} {k : IntKind} {bytes : Nat} (El : ElT P t e (.int k 0) 1 bytes) {v : Value} {n : Nat} {ys : List Int} (hown : w.ownsRow base e 1 v n (ints k ys)) (hs : a.eval s = v)
  {A : Option Addr} {m c : Nat} {zs : List Int} (hx : a.eval x = .slice A m c) (hR : Rd w k A m zs) (hA : A = none → m = 0 ∧ c = 0) (hbytes : (n + m) * bytes ≤ 140737488355328) (hbase : base ≤ w.heap.size)
  (h : ∀ v' w', w'.ownsRow base e 1 v' (n + m) (ints k (ys ++ zs)) → w.grownBy w' v.ownBlock → K (a.put o.dst v') w') : if Region.wanted o (yielded ops a.tmps) = true then Oper.wp P o a w K Q else E := by
 have hw : Region.wanted o (yielded ops a.tmps) = true := by simp [Region.wanted, hgd]
 rw [if_pos hw]
 obtain ⟨i0, hi, hz0, hz1, hz2⟩ := info_parts El.info
 have hn : n + m ≤ maxLen := by
  have := Nat.mul_le_mul_left (n + m) El.bpos
  unfold maxLen
  omega
 have hl := hR.1
 cases A with
 | none =>
  obtain ⟨rfl, rfl⟩ := hA rfl
  have hz : zs = [] := List.length_eq_zero_iff.1 hl
  subst hz
  have hrun := run_append_owned_none (P := P) (w := w) base t o.type e i0 1 El.und hi v n _ hown
  have h9 := h v w (by simpa using hown) ⟨rfl, rfl, rfl, Nat.le_refl _, fun _ _ _ => rfl⟩
  unfold Oper.wp
  simp [execOp, ho, resolve, invoke, builtin, hs, hx, hrun, Result.andThen]
  exact h9
 | some ad =>
  refine wp_append_own _ s x t ho base e i0 (.int k 0) 1 bytes El.und hi hz0 hz1 hz2 El.zs El.pos v n _ hs hown ad m c (ints k zs) hx (by rw [ints_length]; omega) ?_ (fun u hu => ?_) hn hbytes hbase ?_
  ·intro j u hu
   have hj : j < zs.length := by
    have := (List.getElem?_eq_some_iff.1 hu).1
    rwa [ints_length] at this
   obtain ⟨b, o', e', hc⟩ := hR.2 (by omega)
   cases e'
   rw [ints_get hj] at hu
   cases hu
   rw [addr_add]
   exact hc j (by omega)
  ·obtain ⟨q, _, rfl⟩ := List.mem_map.1 hu
   rfl
  ·intro v' w' h1 h2 _
   exact h v' w' (by rw [ints_append]; exact h1) h2
end Go.Proofs.YtdbkbeojedndbaaGreatDoor
