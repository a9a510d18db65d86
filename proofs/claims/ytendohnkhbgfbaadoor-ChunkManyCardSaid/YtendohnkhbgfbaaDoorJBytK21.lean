/-
  Texts joined into one file: Inf8, DefQ, InfC.
-/
import Derived.Test.YtendohnkhbgfbaaDoorJBytK19
import Derived.Test.YtendohnkhbgfbaaDoorJBytK14
import Derived.Test.YtendohnkhbgfbaaDoorJBytK20
/-
  The walk of Open (package inflate).
-/
namespace Go.Proofs.YtendohnkhbgfbaaDoor
open Go.RowKit

/-- How much is left to an opener. -/
def leftOf (len h r : Nat) (w : World) : Nat := match w.cell? ⟨h, 3, none⟩ with
  | some (.int _ x) => if x = 0 then 1 + restOf len r w else 0
  | _ => 0
theorem OSt.left {w : World} {B h r : Nat} {A : Option Addr} {len cap : Nat} {bs : List Int} {most : Int} {q : Nat} {v : Value} {out : List Int} {err : Int} (H : OSt w B h r A len cap bs most q v out err) : leftOf len h r w = if err = 0 then 1 + (8 * len - q) else 0 := by
  unfold leftOf
  rw [H.c3, ← H.rest]
/-- Where Open's loop stands. -/
def OLoop (B h r : Nat) (A : Option Addr) (len cap : Nat) (bs : List Int) (most : Int) (v0 : Value) (W0 : World) (last : Value) (w : World) : Prop :=
  (∃ q f v o, last = .int .i64 0 ∧ q ≤ 8 * len ∧ 8 * len - q < f ∧ o.length ≤ 100000000 ∧ OSt w B h r A len cap bs most q v o 0 ∧ OStep W0 w h r v0 v ∧ iter (openStep bs (8 * len) most) (8 * len + 1) (0, []) = iter (openStep bs (8 * len) most) f (q, o)) ∨
  (∃ q v o, last = .int .i64 1 ∧ OSt w B h r A len cap bs most q v o 0 ∧ OStep W0 w h r v0 v ∧ iter (openStep bs (8 * len) most) (8 * len + 1) (0, []) = some (.ok (q, o))) ∨
  (∃ l c q v o, last = .int .i64 l ∧ c ≠ 0 ∧ OSt w B h r A len cap bs most q v o c ∧ OStep W0 w h r v0 v ∧ iter (openStep bs (8 * len) most) (8 * len + 1) (0, []) = some (.error c))
theorem step_short {bs : List Int} {T : Nat} {most : Int} {q : Nat} {o : List Int} (h : T < q + 3) : openStep bs T most (q, o) = .inr (.error 2) := by unfold openStep; rw [if_pos h]
theorem step_err {bs : List Int} {T : Nat} {most : Int} {q : Nat} {o : List Int} {c : Int} (h : q + 3 ≤ T) (hb : blockS bs T most (numAt bs (q + 1) 2) (q + 3) o = .error c) : openStep bs T most (q, o) = .inr (.error c) := by
  unfold openStep
  rw [if_neg (by show ¬ T < q + 3; omega)]
  simp only [hb]
theorem step_next {bs : List Int} {T : Nat} {most : Int} {q q' : Nat} {o o' : List Int} (h : q + 3 ≤ T) (hl : numAt bs q 1 = 0) (hb : blockS bs T most (numAt bs (q + 1) 2) (q + 3) o = .ok (q', o')) : openStep bs T most (q, o) = .inl (q', o') := by
  unfold openStep
  rw [if_neg (by show ¬ T < q + 3; omega)]
  simp only [hb, if_pos hl]
theorem step_last {bs : List Int} {T : Nat} {most : Int} {q q' : Nat} {o o' : List Int} (h : q + 3 ≤ T) (hl : numAt bs q 1 ≠ 0) (hb : blockS bs T most (numAt bs (q + 1) 2) (q + 3) o = .ok (q', o')) : openStep bs T most (q, o) = .inr (.ok (q', o')) := by
  unfold openStep
  rw [if_neg (by show ¬ T < q + 3; omega)]
  simp only [hb, if_neg hl]
set_option maxHeartbeats 1000000 in
set_option maxRecDepth 100000 in
theorem Open_calls (A : Option Addr) (len cap : Nat) (bs : List Int) (most : Int) (w : World) (hR : Rd w .u8 A len bs) (hA : A = none → len = 0 ∧ cap = 0) (hb : ∀ j, j < len → 0 ≤ rd bs j ∧ rd bs j ≤ 255) (hlen : len ≤ 1000000) (hm : -9223372036854775808 ≤ most ∧ most ≤ 100000000) (hT : Tabs w) (hO : OrdAt w) :
    Calls Tryd.prog 25 #[.slice A len cap, .int .i64 most] w fun e w' =>
      Hid ((∃ q o v, openS bs most = .ok (q, o) ∧ e = .returned (.tuple #[v, .int .i64 ((q + 7) / 8 : Nat), .int .i64 0]) ∧ w'.ownsRow w.heap.size 5 1 v o.length (ints .u8 o)) ∨ (∃ c, openS bs most = .error c ∧ c ≠ 0 ∧ e = .returned (.tuple #[.slice none 0 0, .int .i64 0, .int .i64 c]))) ∧ Below w.heap.size w w' := by
  have HR := Lib.hid hR
  have HA := Lib.hid hA
  have Hb := Lib.hid hb
  have HT := Lib.hid hT
  have HO := Lib.hid hO
  have Hl := Lib.hid hR.1
  have hto : 4 < w.heap.size ∧ 5 < w.heap.size ∧ 1 < w.heap.size := ⟨World.block_lt_of_cell? _ _ (hT.1 0 (by decide)).1, World.block_lt_of_cell? _ _ (hT.2 0 (by decide)).1, World.block_lt_of_cell? _ _ (hO 0 (by decide))⟩
  have Hto := Lib.hid hto
  clear hR hA hb hT hO hto
  go_enter Tryd.func25, Tryd.ntmps25
  go_wp2_with fail
  refine (BNew_calls A len cap bs _ HR.out HA.out hlen).mono ?_
  rintro e w1 ⟨r, Bq, c, rfl, hwr, hRd, hown, hb1⟩
  have HB1 := Lib.hid hb1
  have HRd := Lib.hid hRd
  have Hown := Lib.hid hown
  have Hwr := Lib.hid hwr
  clear hRd hown hb1 hwr
  go_upto_region 2 with fail
  obtain ⟨eb, heb⟩ : ∃ x, x = w1.heap.size := ⟨_, rfl⟩
  obtain ⟨h, hh⟩ : ∃ x, x = w1.heap.size + 1 := ⟨_, rfl⟩
  obtain ⟨W1, hW1⟩ : ∃ W, W = (w1.alloc (.cells #[] 5)).alloc (.cells #[.pointer (some ⟨r, 0, none⟩), .int .i64 most, .slice (some ⟨w1.heap.size, 0, none⟩) 0 0, .int .i64 0] 77) := ⟨_, rfl⟩
  rw [← hW1, ← hh]
  have hsz1 : W1.heap.size = h + 1 := by rw [hW1, hh]; simp
  have hr2 : (W1.alloc (.cells #[.nilFunc, .nilFunc, .nilFunc, .nilFunc] 78)).heap[h + 1]? = some (.cells #[.nilFunc, .nilFunc, .nilFunc, .nilFunc] 78 (0, 0)) := by rw [← hsz1]; exact heap_alloc_new W1 _
  have q0 := cell_of_row _ (h + 1) 0 _ _ (0, 0) hr2
  have q1 := cell_of_row _ (h + 1) 1 _ _ (0, 0) hr2
  have q2 := cell_of_row _ (h + 1) 2 _ _ (0, 0) hr2
  have q3 := cell_of_row _ (h + 1) 3 _ _ (0, 0) hr2
  simp only [List.getElem?_toArray, List.getElem?_cons_succ, List.getElem?_cons_zero] at q0 q1 q2 q3
  have f0 := frozen_of_row _ (h + 1) 0 _ _ hr2
  have f1 := frozen_of_row _ (h + 1) 1 _ _ hr2
  have f2 := frozen_of_row _ (h + 1) 2 _ _ hr2
  have f3 := frozen_of_row _ (h + 1) 3 _ _ hr2
  have Hr2 := Lib.hid hr2
  have HW1 := Lib.hid hW1
  have Hh := Lib.hid hh
  have Heb := Lib.hid heb
  clear hr2 hW1 hh heb
  have hst : ∀ (f : Fn) (a : Addr) (w : World), (store a (.func f #[.pointer (some ⟨h, 0, none⟩)] #[])).run Tryd.prog w = stored Tryd.prog w a (.func f #[.pointer (some ⟨h, 0, none⟩)] #[]) .plain := fun f a w => run_store _ w a _ _ rfl
  go_upto_region 3 with fail
  obtain ⟨W2, hW2⟩ : ∃ W, W = W1.alloc (.cells #[.func (.func 39) #[.pointer (some ⟨h, 0, none⟩)] #[], .func (.func 40) #[.pointer (some ⟨h, 0, none⟩)] #[], .func (.func 41) #[.pointer (some ⟨h, 0, none⟩)] #[], .func (.func 42) #[.pointer (some ⟨h, 0, none⟩)] #[]] 78) := ⟨_, rfl⟩
  obtain ⟨fa, hfa⟩ : ∃ x, x = h + 1 := ⟨_, rfl⟩
  rw [← hW2, ← hfa]
  have hrf : W2.heap[fa]? = some (.cells #[.func (.func 39) #[.pointer (some ⟨h, 0, none⟩)] #[], .func (.func 40) #[.pointer (some ⟨h, 0, none⟩)] #[], .func (.func 41) #[.pointer (some ⟨h, 0, none⟩)] #[], .func (.func 42) #[.pointer (some ⟨h, 0, none⟩)] #[]] 78 (0, 0)) := by rw [hW2, hfa, ← hsz1]; exact heap_alloc_new W1 _
  have hb01 : Below w1.heap.size w1 (w1.alloc (.cells #[] 5)) := (Below.refl _ _).alloc (Nat.le_refl _) _
  have hb12 : Below w1.heap.size w1 W1 := by rw [HW1.out]; exact hb01.alloc (by simp) _
  have hb13 : Below w1.heap.size w1 W2 := by rw [hW2]; exact hb12.alloc (by rw [hsz1, Hh.out]; omega) _
  have hW12 : Below W1.heap.size W1 W2 := by rw [hW2]; exact (Below.refl _ _).alloc (Nat.le_refl _) _
  have hah : W1.heap[h]? = some (.cells #[.pointer (some ⟨r, 0, none⟩), .int .i64 most, .slice (some ⟨eb, 0, none⟩) 0 0, .int .i64 0] 77 (0, 0)) := by
    rw [HW1.out, Hh.out, Heb.out]
    have h9 := heap_alloc_new (w1.alloc (.cells #[] 5)) (.cells #[.pointer (some ⟨r, 0, none⟩), .int .i64 most, .slice (some ⟨w1.heap.size, 0, none⟩) 0 0, .int .i64 0] 77)
    simp only [World.size_alloc] at h9
    exact h9
  have hoe : W2.ownsRow w.heap.size 5 1 (.slice (some ⟨eb, 0, none⟩) 0 0) 0 (ints .u8 []) := by
    have h9 := own_empty w1 5
    have hbE : Below (w1.alloc (.cells #[] 5)).heap.size (w1.alloc (.cells #[] 5)) W2 := by
      rw [hW2]
      refine Below.alloc ?_ (by rw [hsz1, Hh.out]; simp) _
      rw [HW1.out]
      exact (Below.refl _ _).alloc (Nat.le_refl _) _
    rw [Heb.out]
    exact own_mono (own_below h9 hbE) HB1.out.size
  have hrb : Hid (Rd W2 .u8 Bq len bs) := by
    obtain ⟨_, _, e1, _, hrr⟩ := own_rd Hown.out
    cases e1
    exact hrr.below hb13
  have hcap : len ≤ c := by
    obtain ⟨_, _, e1, hc9, _⟩ := own_rd Hown.out
    cases e1
    exact hc9
  have hcap2 : c ≤ 9223372036854775807 := own_cap Hown.out _ _ _ rfl
  have HBq : Hid ((Bq = none ∧ len = 0 ∧ c = 0) ∨ ∃ g, Bq = some ⟨g, 0, none⟩) := by
    rcases Hown.out.2 with ⟨h9, h8⟩ | ⟨g, cc, cur, h9, _⟩
    · simp at h9
      exact Or.inl h9
    · simp at h9
      exact Or.inr ⟨g, h9.1⟩
  have HS0 : Hid (OSt W2 w.heap.size h r Bq len c bs most 0 (.slice (some ⟨eb, 0, none⟩) 0 0) [] 0) :=
    ⟨(hW12.block h (by rw [hsz1]; omega)).trans hah, HRd.out.keep hb13, hrb.out, hoe, fun b o e => by
      subst e
      have hlt := (Hown.out.lt b rfl).2
      have hne : b ≠ r := fun e2 => own_apart HRd.out (by decide) Hown.out b rfl (by rw [e2])
      have h1 := Hh.out
      have h2 := Heb.out
      refine ⟨hne, by omega, ?_, Nat.lt_of_lt_of_le hlt hb13.size⟩
      simp [Value.ownBlock]
      omega, Nat.zero_le _⟩
  have Hrf := Lib.hid hrf
  have HB2 := Lib.hid (below_seq HB1.out (Nat.le_refl _) hb13)
  have hBh : w.heap.size ≤ h := by have h1 := Hh.out; have h2 := HB1.out.size; omega
  have hB2 := HB2.out.size
  have HW2 := Lib.hid hW2
  have Hfa : Hid (fa ≠ h ∧ fa ≠ r ∧ fa ≠ eb) := Lib.hid (show _ by
    have h1 := Hh.out
    have h2 := Heb.out
    have h3 := HRd.out.lt
    omega)
  clear hW2 hfa hrf hb01 hb12 hb13 hW12 hah hoe hrb q0 q1 q2 q3 f0 f1 f2 f3 hst hsz1
  have Htl := Lib.hid (⟨Hto.out.1, Hto.out.2.1⟩ : 4 < w.heap.size ∧ 5 < w.heap.size)
  clear Hr2 HW1 HW2 Hh Heb
  obtain ⟨v0, hv0⟩ : ∃ v0 : Value, v0 = .slice (some ⟨eb, 0, none⟩) 0 0 := ⟨_, rfl⟩
  have Hv0 : Hid (v0.ownBlock = some eb) := Lib.hid (show _ by rw [hv0]; rfl)
  rw [← hv0] at HS0
  clear hv0
  go_wp2
  go_loopw [9] (fun last wr => OLoop w.heap.size h r Bq len c bs most v0 W2 last wr) (fun _ wr => leftOf len h r wr)
  case atStart => exact Or.inl ⟨0, 8 * len + 1, v0, [], rfl, Nat.zero_le _, by omega, by simp, HS0.out, OStep.refl _ _ _ _, rfl⟩
  case round =>
    rcases hrel with ⟨q, f, v, o, rfl, hq, hf, ho, hO, hS, hI⟩ | ⟨q, v, o, rfl, hO, hS, hI⟩ | ⟨l, cc, q, v, o, rfl, hc0, hO, hS, hI⟩
    · have HQ := Lib.hid hO
      have HSt := Lib.hid hS
      have HI := Lib.hid hI
      have y3 := hO.c3
      have hlf := hO.left
      rw [if_pos rfl] at hlf
      have Hlf := Lib.hid hlf
      obtain ⟨f, rfl⟩ : ∃ f1, f = f1 + 1 := ⟨f - 1, by omega⟩
      clear hO hS hI hlf
      go_wp2_with fail
      refine (num_calls w.heap.size h r Bq len c bs most q 1 v o 0 _ HQ.out Hb.out hlen (by omega)).mono ?_
      rintro e w3 ⟨Hx, hs3⟩
      have HS3 := Lib.hid (HSt.out.trans hs3)
      clear hs3 y3
      rcases Hx.out with ⟨hok, rfl, hO3⟩ | ⟨hno, rfl, hO3⟩
      · have HO3 := Lib.hid hO3
        have hx := numAt_small bs q 1 1 (Nat.le_refl _)
        obtain ⟨x, hxe⟩ : ∃ x, x = numAt bs q 1 := ⟨_, rfl⟩
        rw [← hxe] at hx ⊢
        have Hxe := Lib.hid hxe
        have hx2 : x < 2 := hx
        clear hO3 Hx hxe hx
        go_wp2_with fail
        refine (num_calls w.heap.size h r Bq len c bs most (q + 1) 2 v o 0 _ HO3.out Hb.out hlen (by omega)).mono ?_
        rintro e w4 ⟨Hx, hs4⟩
        have HS4 := Lib.hid (HS3.out.trans hs4)
        clear hs4
        rcases Hx.out with ⟨hok4, rfl, hO4⟩ | ⟨hno4, rfl, hO4⟩
        · have HO4 := Lib.hid hO4
          have hkk := numAt_small bs (q + 1) 2 2 (Nat.le_refl _)
          obtain ⟨kd, hke⟩ : ∃ x, x = numAt bs (q + 1) 2 := ⟨_, rfl⟩
          rw [← hke] at hkk ⊢
          have Hke := Lib.hid hke
          have hk4 : kd < 4 := hkk
          have y3 := hO4.c3
          have hrow4 := (HS4.out.fr.block fa (Array.getElem?_eq_some_iff.1 Hrf.out).1 (fun o2 ho2 e => by
            simp at ho2
            have h9 := Hfa.out
            rcases ho2 with rfl | rfl | rfl
            · cases e; exact h9.1 rfl
            · cases e; exact h9.2.1 rfl
            · rw [Hv0.out] at e; cases e; exact h9.2.2 rfl)).trans Hrf.out
          have z0 := cell_of_row w4 fa 0 _ _ (0, 0) hrow4
          have z1 := cell_of_row w4 fa 1 _ _ (0, 0) hrow4
          have z2 := cell_of_row w4 fa 2 _ _ (0, 0) hrow4
          have z3 := cell_of_row w4 fa 3 _ _ (0, 0) hrow4
          simp only [List.getElem?_toArray, List.getElem?_cons_succ, List.getElem?_cons_zero] at z0 z1 z2 z3
          have hsz4 := HS4.out.fr.size
          have hB4 := Nat.le_trans hB2 hsz4
          have HBB := Lib.hid (HS4.out.keepB HS0.out.own hBh Hwr.out hB2)
          have HT4 := Lib.hid (tabs_lo (HT.out.below HB2.out) HBB.out Htl.out)
          have HOr4 : Hid (OrdAt w4) := fun j hj => (HBB.out.cell Hto.out.2.2).trans (kept_cell HB2.out (HO.out j hj))
          obtain ⟨q3, hq3⟩ : ∃ q3, q3 = q + 3 := ⟨_, rfl⟩
          have e12 : q + 1 + 2 = q3 := by omega
          rw [e12] at HO4 hok4
          have Hq3 := Lib.hid hq3
          clear hO4 Hx hke hkk hrow4 hsz4 hq3 e12 hok
          rcases (show kd = 0 ∨ kd = 1 ∨ kd = 2 ∨ kd = 3 by omega) with rfl | rfl | rfl | rfl
          · have hbe : blockS bs (8 * len) most (numAt bs (q + 1) 2) (q + 3) o = storedS bs (8 * len) most q3 o := by rw [← Hke.out, ← Hq3.out]; rfl
            have HBe := Lib.hid hbe
            clear hbe
            go_wp2_with fail
            refine (stored_calls w.heap.size h r Bq len c bs most q3 v o _ HO4.out Hb.out hlen ho HBq.out hcap hcap2 hB4).mono ?_
            rintro e w5 hE
            rcases hE with ⟨q5, o5, v5, hX5, rfl, hO5, hS5⟩ | ⟨c5, q5, o5, v5, hX5, hc5, rfl, hO5, hS5⟩
            · have hbl := block_len (HBe.out.trans hX5)
              have HX5 := Lib.hid (HBe.out.trans hX5)
              have HO5 := Lib.hid hO5
              have HS5 := Lib.hid (HS4.out.trans hS5)
              have ho5 : o5.length ≤ 100000000 := by
                rcases hbl.2 with h9 | h9
                · omega
                · rw [h9]; exact ho
              have hq5 := hbl.1
              have hq58 := hO5.q8
              have hm5 : leftOf len h r w5 < leftOf len h r wr := by rw [hO5.left, Hlf.out, if_pos rfl]; have := Hq3.out; omega
              have Hm5 := Lib.hid hm5
              clear hX5 hO5 hS5 hbl hm5 z0 z1 z2 z3 y3
              rcases (show x = 0 ∨ x = 1 by omega) with rfl | rfl
              · have HR5 : Hid (iter (openStep bs (8 * len) most) (8 * len + 1) (0, []) = iter (openStep bs (8 * len) most) f (q5, o5)) := HI.out.trans (iter_inl (step_next (by have := Hq3.out; omega) Hxe.out.symm HX5.out) f)
                go_wp2
                go_roundw
                case rel => exact Or.inl ⟨q5, f, v5, o5, rfl, hq58, by omega, ho5, HO5.out, HS5.out, HR5.out⟩
                case measure => exact Hm5.out
              · have HR5 : Hid (iter (openStep bs (8 * len) most) (8 * len + 1) (0, []) = some (.ok (q5, o5))) := HI.out.trans (iter_inr (step_last (by have := Hq3.out; omega) (by rw [← Hxe.out]; decide) HX5.out) f)
                go_wp2
                go_roundw
                case rel => exact Or.inr (Or.inl ⟨q5, v5, o5, rfl, HO5.out, HS5.out, HR5.out⟩)
                case measure => exact Hm5.out
            · have HX5 := Lib.hid (HBe.out.trans hX5)
              have HO5 := Lib.hid hO5
              have HS5 := Lib.hid (HS4.out.trans hS5)
              have Hc5 := Lib.hid hc5
              have HR5 : Hid (iter (openStep bs (8 * len) most) (8 * len + 1) (0, []) = some (.error c5)) := HI.out.trans (iter_inr (step_err (by have := Hq3.out; omega) HX5.out) f)
              have hm5 : leftOf len h r w5 < leftOf len h r wr := by rw [hO5.left, Hlf.out, if_neg hc5]; omega
              have Hm5 := Lib.hid hm5
              clear hX5 hO5 hS5 hc5 hm5 z0 z1 z2 z3 y3
              go_wp2
              go_roundw
              case rel => exact Or.inr (Or.inr ⟨_, c5, _, _, _, rfl, Hc5.out, HO5.out, HS5.out, HR5.out⟩)
              case measure => exact Hm5.out
          · have hbe : blockS bs (8 * len) most (numAt bs (q + 1) 2) (q + 3) o = codedS bs (8 * len) most fixA fixB q3 o := by rw [← Hke.out, ← Hq3.out]; rfl
            have HBe := Lib.hid hbe
            clear hbe
            go_wp2_with fail
            refine (fixed_calls w.heap.size h r Bq len c bs most q3 v o _ HO4.out Hb.out hlen hm.2 ho HT4.out Htl.out hBh Hwr.out hB4).mono ?_
            rintro e w5 hE
            rcases hE with ⟨q5, o5, v5, hX5, rfl, hO5, hS5⟩ | ⟨c5, q5, o5, v5, hX5, hc5, rfl, hO5, hS5⟩
            · have hbl := block_len (HBe.out.trans hX5)
              have HX5 := Lib.hid (HBe.out.trans hX5)
              have HO5 := Lib.hid hO5
              have HS5 := Lib.hid (HS4.out.trans hS5)
              have ho5 : o5.length ≤ 100000000 := by
                rcases hbl.2 with h9 | h9
                · omega
                · rw [h9]; exact ho
              have hq5 := hbl.1
              have hq58 := hO5.q8
              have hm5 : leftOf len h r w5 < leftOf len h r wr := by rw [hO5.left, Hlf.out, if_pos rfl]; have := Hq3.out; omega
              have Hm5 := Lib.hid hm5
              clear hX5 hO5 hS5 hbl hm5 z0 z1 z2 z3 y3
              rcases (show x = 0 ∨ x = 1 by omega) with rfl | rfl
              · have HR5 : Hid (iter (openStep bs (8 * len) most) (8 * len + 1) (0, []) = iter (openStep bs (8 * len) most) f (q5, o5)) := HI.out.trans (iter_inl (step_next (by have := Hq3.out; omega) Hxe.out.symm HX5.out) f)
                go_wp2
                go_roundw
                case rel => exact Or.inl ⟨q5, f, v5, o5, rfl, hq58, by omega, ho5, HO5.out, HS5.out, HR5.out⟩
                case measure => exact Hm5.out
              · have HR5 : Hid (iter (openStep bs (8 * len) most) (8 * len + 1) (0, []) = some (.ok (q5, o5))) := HI.out.trans (iter_inr (step_last (by have := Hq3.out; omega) (by rw [← Hxe.out]; decide) HX5.out) f)
                go_wp2
                go_roundw
                case rel => exact Or.inr (Or.inl ⟨q5, v5, o5, rfl, HO5.out, HS5.out, HR5.out⟩)
                case measure => exact Hm5.out
            · have HX5 := Lib.hid (HBe.out.trans hX5)
              have HO5 := Lib.hid hO5
              have HS5 := Lib.hid (HS4.out.trans hS5)
              have Hc5 := Lib.hid hc5
              have HR5 : Hid (iter (openStep bs (8 * len) most) (8 * len + 1) (0, []) = some (.error c5)) := HI.out.trans (iter_inr (step_err (by have := Hq3.out; omega) HX5.out) f)
              have hm5 : leftOf len h r w5 < leftOf len h r wr := by rw [hO5.left, Hlf.out, if_neg hc5]; omega
              have Hm5 := Lib.hid hm5
              clear hX5 hO5 hS5 hc5 hm5 z0 z1 z2 z3 y3
              go_wp2
              go_roundw
              case rel => exact Or.inr (Or.inr ⟨_, c5, _, _, _, rfl, Hc5.out, HO5.out, HS5.out, HR5.out⟩)
              case measure => exact Hm5.out
          · have hbe : blockS bs (8 * len) most (numAt bs (q + 1) 2) (q + 3) o = dynamicS bs (8 * len) most q3 o := by rw [← Hke.out, ← Hq3.out]; rfl
            have HBe := Lib.hid hbe
            clear hbe
            go_wp2_with fail
            refine (dynamic_calls w.heap.size h r Bq len c bs most q3 v o _ HO4.out Hb.out hlen hm.2 ho HT4.out HOr4.out Htl.out Hto.out.2.2 hBh Hwr.out hB4).mono ?_
            rintro e w5 hE
            rcases hE with ⟨q5, o5, v5, hX5, rfl, hO5, hS5⟩ | ⟨c5, q5, o5, v5, hX5, hc5, rfl, hO5, hS5⟩
            · have hbl := block_len (HBe.out.trans hX5)
              have HX5 := Lib.hid (HBe.out.trans hX5)
              have HO5 := Lib.hid hO5
              have HS5 := Lib.hid (HS4.out.trans hS5)
              have ho5 : o5.length ≤ 100000000 := by
                rcases hbl.2 with h9 | h9
                · omega
                · rw [h9]; exact ho
              have hq5 := hbl.1
              have hq58 := hO5.q8
              have hm5 : leftOf len h r w5 < leftOf len h r wr := by rw [hO5.left, Hlf.out, if_pos rfl]; have := Hq3.out; omega
              have Hm5 := Lib.hid hm5
              clear hX5 hO5 hS5 hbl hm5 z0 z1 z2 z3 y3
              rcases (show x = 0 ∨ x = 1 by omega) with rfl | rfl
              · have HR5 : Hid (iter (openStep bs (8 * len) most) (8 * len + 1) (0, []) = iter (openStep bs (8 * len) most) f (q5, o5)) := HI.out.trans (iter_inl (step_next (by have := Hq3.out; omega) Hxe.out.symm HX5.out) f)
                go_wp2
                go_roundw
                case rel => exact Or.inl ⟨q5, f, v5, o5, rfl, hq58, by omega, ho5, HO5.out, HS5.out, HR5.out⟩
                case measure => exact Hm5.out
              · have HR5 : Hid (iter (openStep bs (8 * len) most) (8 * len + 1) (0, []) = some (.ok (q5, o5))) := HI.out.trans (iter_inr (step_last (by have := Hq3.out; omega) (by rw [← Hxe.out]; decide) HX5.out) f)
                go_wp2
                go_roundw
                case rel => exact Or.inr (Or.inl ⟨q5, v5, o5, rfl, HO5.out, HS5.out, HR5.out⟩)
                case measure => exact Hm5.out
            · have HX5 := Lib.hid (HBe.out.trans hX5)
              have HO5 := Lib.hid hO5
              have HS5 := Lib.hid (HS4.out.trans hS5)
              have Hc5 := Lib.hid hc5
              have HR5 : Hid (iter (openStep bs (8 * len) most) (8 * len + 1) (0, []) = some (.error c5)) := HI.out.trans (iter_inr (step_err (by have := Hq3.out; omega) HX5.out) f)
              have hm5 : leftOf len h r w5 < leftOf len h r wr := by rw [hO5.left, Hlf.out, if_neg hc5]; omega
              have Hm5 := Lib.hid hm5
              clear hX5 hO5 hS5 hc5 hm5 z0 z1 z2 z3 y3
              go_wp2
              go_roundw
              case rel => exact Or.inr (Or.inr ⟨_, c5, _, _, _, rfl, Hc5.out, HO5.out, HS5.out, HR5.out⟩)
              case measure => exact Hm5.out
          · have hbe : blockS bs (8 * len) most (numAt bs (q + 1) 2) (q + 3) o = .error 3 := by rw [← Hke.out, ← Hq3.out]; rfl
            have HBe := Lib.hid hbe
            clear hbe
            go_wp2_with fail
            refine (none_calls w.heap.size h r Bq len c bs most q3 v o _ HO4.out).mono ?_
            rintro e w5 hE
            rcases hE with ⟨q5, o5, v5, hX5, rfl, hO5, hS5⟩ | ⟨c5, q5, o5, v5, hX5, hc5, rfl, hO5, hS5⟩
            · have hbl := block_len (HBe.out.trans hX5)
              have HX5 := Lib.hid (HBe.out.trans hX5)
              have HO5 := Lib.hid hO5
              have HS5 := Lib.hid (HS4.out.trans hS5)
              have ho5 : o5.length ≤ 100000000 := by
                rcases hbl.2 with h9 | h9
                · omega
                · rw [h9]; exact ho
              have hq5 := hbl.1
              have hq58 := hO5.q8
              have hm5 : leftOf len h r w5 < leftOf len h r wr := by rw [hO5.left, Hlf.out, if_pos rfl]; have := Hq3.out; omega
              have Hm5 := Lib.hid hm5
              clear hX5 hO5 hS5 hbl hm5 z0 z1 z2 z3 y3
              rcases (show x = 0 ∨ x = 1 by omega) with rfl | rfl
              · have HR5 : Hid (iter (openStep bs (8 * len) most) (8 * len + 1) (0, []) = iter (openStep bs (8 * len) most) f (q5, o5)) := HI.out.trans (iter_inl (step_next (by have := Hq3.out; omega) Hxe.out.symm HX5.out) f)
                go_wp2
                go_roundw
                case rel => exact Or.inl ⟨q5, f, v5, o5, rfl, hq58, by omega, ho5, HO5.out, HS5.out, HR5.out⟩
                case measure => exact Hm5.out
              · have HR5 : Hid (iter (openStep bs (8 * len) most) (8 * len + 1) (0, []) = some (.ok (q5, o5))) := HI.out.trans (iter_inr (step_last (by have := Hq3.out; omega) (by rw [← Hxe.out]; decide) HX5.out) f)
                go_wp2
                go_roundw
                case rel => exact Or.inr (Or.inl ⟨q5, v5, o5, rfl, HO5.out, HS5.out, HR5.out⟩)
                case measure => exact Hm5.out
            · have HX5 := Lib.hid (HBe.out.trans hX5)
              have HO5 := Lib.hid hO5
              have HS5 := Lib.hid (HS4.out.trans hS5)
              have Hc5 := Lib.hid hc5
              have HR5 : Hid (iter (openStep bs (8 * len) most) (8 * len + 1) (0, []) = some (.error c5)) := HI.out.trans (iter_inr (step_err (by have := Hq3.out; omega) HX5.out) f)
              have hm5 : leftOf len h r w5 < leftOf len h r wr := by rw [hO5.left, Hlf.out, if_neg hc5]; omega
              have Hm5 := Lib.hid hm5
              clear hX5 hO5 hS5 hc5 hm5 z0 z1 z2 z3 y3
              go_wp2
              go_roundw
              case rel => exact Or.inr (Or.inr ⟨_, c5, _, _, _, rfl, Hc5.out, HO5.out, HS5.out, HR5.out⟩)
              case measure => exact Hm5.out
        · have HO4 : Hid (OSt w4 w.heap.size h r Bq len c bs most (q + 1) v o 2) := hO4
          have y3 := HO4.out.c3
          have HR4 : Hid (iter (openStep bs (8 * len) most) (8 * len + 1) (0, []) = some (.error 2)) := HI.out.trans (iter_inr (step_short (by omega)) f)
          clear hO4 Hx
          go_wp2
          go_roundw
          case rel => exact Or.inr (Or.inr ⟨_, 2, _, _, _, rfl, by decide, HO4.out, HS4.out, HR4.out⟩)
          case measure =>
            rw [HO4.out.left, Hlf.out]
            simp
            try omega
      · have HO3 := Lib.hid hO3
        clear hO3 Hx
        go_wp2_with fail
        refine (num_calls w.heap.size h r Bq len c bs most q 2 v o _ _ HO3.out Hb.out hlen (by omega)).mono ?_
        rintro e w4 ⟨Hx, hs4⟩
        have HS4 := Lib.hid (HS3.out.trans hs4)
        clear hs4
        rcases Hx.out with ⟨hok4, _, _⟩ | ⟨_, rfl, hO4⟩
        · omega
        · have HO4 : Hid (OSt w4 w.heap.size h r Bq len c bs most q v o 2) := hO4
          have y3 := HO4.out.c3
          have HR4 : Hid (iter (openStep bs (8 * len) most) (8 * len + 1) (0, []) = some (.error 2)) := HI.out.trans (iter_inr (step_short (by omega)) f)
          clear hO4 Hx
          go_wp2
          go_roundw
          case rel => exact Or.inr (Or.inr ⟨_, 2, _, _, _, rfl, by decide, HO4.out, HS4.out, HR4.out⟩)
          case measure =>
            rw [HO4.out.left, Hlf.out]
            simp
            try omega
    · have HQ := Lib.hid hO
      have HSt := Lib.hid hS
      have HI : Hid (openS bs most = .ok (q, o)) := Lib.hid (show _ by unfold openS; rw [Hl.out, hI]; rfl)
      have y3 := hO.c3
      have y2 := hO.c2
      have y0 := hO.c0
      have yr := hO.rdr.c1
      obtain ⟨Av, cv, rfl⟩ := own_slice hO.own
      obtain ⟨ol, hol⟩ : ∃ x, x = o.length := ⟨_, rfl⟩
      rw [← hol] at y2
      have hq8 := hO.q8
      have Hol := Lib.hid hol
      clear hO hS hI hol
      have k2 := Later.cell y2
      have k0 := Later.cell y0
      have kr := Later.cell yr
      have L0 : Later wr wr.drew := (Later.refl wr).drew
      have hq9 : q ≤ 8000000 := by omega
      go_upto_region 11 with fail
      refine wp_region_noPanic ?_
      refine wp_region_held_drew (S := fun W => Later wr W) (by kernel_rfl) (L0) (fun hHeld => ?_)
      refine' wpAnyH_take (i := 0) (oi := ⟨_, _, _, _, _, _⟩) (v := _) rfl (by kernel_rfl) (by kernel_rfl) (by kernel_rfl) (fun _ _ _ h => h) (Or.inl ⟨by rfl, ?hyp0⟩) (by assumption) ?restp0
      case hyp0 => (intro w hSw; (try dsimp only at hSw); go_simp; try with_reducible rfl)
      try simp only [Act.put, List.setIfInBounds_toArray, List.set_cons_zero, List.set_cons_succ]
      refine' wpAnyH_take (i := 1) (oi := ⟨_, _, _, _, _, _⟩) (v := _) rfl (by kernel_rfl) (by kernel_rfl) (by kernel_rfl) (fun _ _ _ h => h) (Or.inl ⟨by rfl, ?hyp1⟩) (by assumption) ?restp1
      case hyp1 => (intro w hSw; (try dsimp only at hSw); go_simp; try with_reducible rfl)
      try simp only [Act.put, List.setIfInBounds_toArray, List.set_cons_zero, List.set_cons_succ]
      refine' wpAnyH_take (i := 2) (oi := ⟨_, _, _, _, _, _⟩) (v := _) rfl (by kernel_rfl) (by kernel_rfl) (by kernel_rfl) (fun _ _ _ h => h) (Or.inl ⟨by rfl, ?hyp2⟩) (by assumption) ?restp2
      case hyp2 => (intro w hSw; (try dsimp only at hSw); go_simp; try with_reducible rfl)
      try simp only [Act.put, List.setIfInBounds_toArray, List.set_cons_zero, List.set_cons_succ]
      refine' wpAnyH_take (i := 3) (oi := ⟨_, _, _, _, _, _⟩) (v := _) rfl (by kernel_rfl) (by kernel_rfl) (by kernel_rfl) (fun _ _ _ h => h) (Or.inl ⟨by rfl, ?hyp3⟩) (by assumption) ?restp3
      case hyp3 => (intro w hSw; (try dsimp only at hSw); go_simp; try with_reducible rfl)
      try simp only [Act.put, List.setIfInBounds_toArray, List.set_cons_zero, List.set_cons_succ]
      refine' wpAnyH_take (i := 4) (oi := ⟨_, _, _, _, _, _⟩) (v := _) rfl (by kernel_rfl) (by kernel_rfl) (by kernel_rfl) (fun _ _ _ h => h) (Or.inl ⟨by rfl, ?hyp4⟩) (by assumption) ?restp4
      case hyp4 => (intro w hSw; (try dsimp only at hSw); go_simp; try with_reducible rfl)
      try simp only [Act.put, List.setIfInBounds_toArray, List.set_cons_zero, List.set_cons_succ]
      refine' wpAnyH_take (i := 5) (oi := ⟨_, _, _, _, _, _⟩) (v := _) rfl (by kernel_rfl) (by kernel_rfl) (by kernel_rfl) (fun _ _ _ h => h) (Or.inl ⟨by rfl, ?hyp5⟩) (by assumption) ?restp5
      case hyp5 => (intro w hSw; (try dsimp only at hSw); go_simp; try with_reducible rfl)
      try simp only [Act.put, List.setIfInBounds_toArray, List.set_cons_zero, List.set_cons_succ]
      refine' wpAnyH_take (i := 6) (oi := ⟨_, _, _, _, _, _⟩) (v := _) rfl (by kernel_rfl) (by kernel_rfl) (by kernel_rfl) (fun _ _ _ h => h) (Or.inl ⟨by rfl, ?hyp6⟩) (by assumption) ?restp6
      case hyp6 => (intro w hSw; (try dsimp only at hSw); go_simp; try with_reducible rfl)
      try simp only [Act.put, List.setIfInBounds_toArray, List.set_cons_zero, List.set_cons_succ]
      refine' wpAnyH_take (i := 7) (oi := ⟨_, _, _, _, _, _⟩) (v := _) rfl (by kernel_rfl) (by kernel_rfl) (by kernel_rfl) (fun _ _ _ h => h) (Or.inl ⟨by rfl, ?hyp7⟩) (by assumption) ?restp7
      case hyp7 => (intro w hSw; (try dsimp only at hSw); go_simp; try with_reducible rfl)
      try simp only [Act.put, List.setIfInBounds_toArray, List.set_cons_zero, List.set_cons_succ]
      refine wpAnyH_ready (rs := [8]) (by kernel_rfl) (by simp) ?_
      refine AllReadyH.cons (o := ⟨_, _, _, _, _, _⟩) rfl (fun K hK => ?_) AllReadyH.nil
      go_simp
      go_at_call 44
      refine (At_calls r Bq len c q _ (HQ.out.rdr.keep (Later.bel hHeld))).mono ?_
      rintro e w9 ⟨rfl, rfl⟩
      refine hK.out _ _ hHeld (fun hHeldN => ?_)
      clear hK K hHeld
      have hHeld := hHeldN
      clear hHeldN
      try simp only [Act.put, List.setIfInBounds_toArray, List.set_cons_zero, List.set_cons_succ]
      refine' wpAnyH_take (i := 9) (oi := ⟨_, _, _, _, _, _⟩) (v := _) rfl (by kernel_rfl) (by kernel_rfl) (by kernel_rfl) (fun _ _ _ h => h) (Or.inl ⟨by rfl, ?hyp9⟩) (by assumption) ?restp9
      case hyp9 => (intro w hSw; (try dsimp only at hSw); go_simp; try with_reducible rfl)
      try simp only [Act.put, List.setIfInBounds_toArray, List.set_cons_zero, List.set_cons_succ]
      refine' wpAnyH_take (i := 10) (oi := ⟨_, _, _, _, _, _⟩) (v := _) rfl (by kernel_rfl) (by kernel_rfl) (by kernel_rfl) (fun _ _ _ h => h) (Or.inl ⟨by rfl, ?hyp10⟩) (by assumption) ?restp10
      case hyp10 => (intro w hSw; (try dsimp only at hSw); go_simp; try with_reducible rfl)
      try simp only [Act.put, List.setIfInBounds_toArray, List.set_cons_zero, List.set_cons_succ]
      refine' wpAnyH_take (i := 11) (oi := ⟨_, _, _, _, _, _⟩) (v := _) rfl (by kernel_rfl) (by kernel_rfl) (by kernel_rfl) (fun _ _ _ h => h) (Or.inl ⟨by rfl, ?hyp11⟩) (by assumption) ?restp11
      case hyp11 => (intro w hSw; (try dsimp only at hSw); go_simp; try with_reducible rfl)
      try simp only [Act.put, List.setIfInBounds_toArray, List.set_cons_zero, List.set_cons_succ]
      refine' wpAnyH_take (i := 12) (oi := ⟨_, _, _, _, _, _⟩) (v := _) rfl (by kernel_rfl) (by kernel_rfl) (by kernel_rfl) (fun _ _ _ h => h) (Or.inl ⟨by rfl, ?hyp12⟩) (by assumption) ?restp12
      case hyp12 => (intro w hSw; (try dsimp only at hSw); go_simp; try with_reducible rfl)
      try simp only [Act.put, List.setIfInBounds_toArray, List.set_cons_zero, List.set_cons_succ]
      refine' wpAnyH_take (i := 13) (oi := ⟨_, _, _, _, _, _⟩) (v := _) rfl (by kernel_rfl) (by kernel_rfl) (by kernel_rfl) (fun _ _ _ h => h) (Or.inl ⟨by rfl, ?hyp13⟩) (by assumption) ?restp13
      case hyp13 => (intro w hSw; (try dsimp only at hSw); go_simp; try with_reducible rfl)
      try simp only [Act.put, List.setIfInBounds_toArray, List.set_cons_zero, List.set_cons_succ]
      refine wpAnyH_done (by kernel_rfl) ?_ _
      refine NoPanic.normal ?_
      go_wp2
      have hwq : IntKind.i64.wrap ((IntKind.i64.wrap ((q : Int) + 7)).tdiv 8) = ((q : Int) + 7) / 8 := by
        rw [IntWalk.i64_in ((q : Int) + 7) (by omega), Int.tdiv_eq_ediv_of_nonneg (show 0 ≤ (q : Int) + 7 by omega), IntWalk.i64_in (((q : Int) + 7) / 8) (by omega)]
      refine bodyPost_ret (v := .tuple #[.slice Av ol cv, .int .i64 (((q : Int) + 7) / 8), .int .i64 0]) (by simp [results, Tryd.results25, go_sem, hwq]) rfl ?_
      refine ⟨Lib.hid (Or.inl ⟨q, o, .slice Av ol cv, HI.out, by rw [show (((q + 7) / 8 : Nat) : Int) = ((q : Int) + 7) / 8 by omega], ?_⟩), ?_⟩
      · have h9 := own_below HQ.out.own (Later.bel hHeld)
        rw [← Hol.out] at h9 ⊢
        exact h9
      · exact HB2.out.trans ((HSt.out.keepB HS0.out.own hBh Hwr.out hB2).trans ((Later.bel hHeld).mono (Nat.le_trans hB2 HSt.out.fr.size)))
    · have HQ := Lib.hid hO
      have HSt := Lib.hid hS
      have HI : Hid (openS bs most = .error cc) := Lib.hid (show _ by unfold openS; rw [Hl.out, hI]; rfl)
      have y3 := hO.c3
      have Hc0 := Lib.hid hc0
      clear hO hS hI
      by_cases hl0 : l = 0
      · subst hl0
        go_upto_region 10 with fail
        go_region
        go_wp2
        refine bodyPost_ret (v := .tuple #[.slice none 0 0, .int .i64 0, .int .i64 cc]) (by simp [results, Tryd.results25, go_sem]) rfl ?_
        refine ⟨Lib.hid (Or.inr ⟨cc, HI.out, Hc0.out, rfl⟩), ?_⟩
        exact HB2.out.trans ((HSt.out.keepB HS0.out.own hBh Hwr.out hB2).trans ((Below.refl _ _).drew))
      · go_upto_region 10 with fail
        go_region
        go_wp2
        refine bodyPost_ret (v := .tuple #[.slice none 0 0, .int .i64 0, .int .i64 cc]) (by simp [results, Tryd.results25, go_sem]) rfl ?_
        refine ⟨Lib.hid (Or.inr ⟨cc, HI.out, Hc0.out, rfl⟩), ?_⟩
        exact HB2.out.trans ((HSt.out.keepB HS0.out.own hBh Hwr.out hB2).trans ((Below.refl _ _).drew))
end Go.Proofs.YtendohnkhbgfbaaDoor
/-
  Plain: what is pressed is no longer than any of the three ways; bytes that are all the same are pressed to few.
-/
namespace Go.Proofs.YtendohnkhbgfbaaDoor
open Go.RowKit

theorem pressB_cases (b : List Int) : pressB b = storedB b ∨ pressB b = packB (fixedS b) ∨ pressB b = packB (dynS b) := by
  unfold pressB
  split
  · split
    · exact .inr (.inr rfl)
    · exact .inr (.inl rfl)
  · split
    · exact .inr (.inr rfl)
    · exact .inl rfl
theorem pressB_le (b : List Int) : (pressB b).length ≤ (storedB b).length ∧ (pressB b).length ≤ (packB (fixedS b)).length ∧ (pressB b).length ≤ (packB (dynS b)).length := by
  unfold pressB
  split
  · split
    · simp only [packB_length]; omega
    · simp only [packB_length]; omega
  · split
    · simp only [packB_length]; omega
    · simp only [packB_length]; omega
theorem storedB_length {b : List Int} (h : b.length ≤ 65535) : (storedB b).length = b.length + 5 := by
  unfold storedB stoB
  rw [if_pos h]
  simp only [List.length_append, List.length_cons, List.length_nil]
  omega
theorem rd_rep {k j : Nat} {c : Int} (h : j < k) : rd (List.replicate k c) j = c := by
  rw [rd_getElem (by rw [List.length_replicate]; exact h), List.getElem_replicate]
theorem same_rep (k : Nat) (c : Int) (p q : Nat) (hp : p ≤ q) : ∀ f n, q + n ≤ k → sameFrom (List.replicate k c) p q f n = min (n + f) (k - q) := by
  intro f
  induction f with
  | zero => intro n hn; unfold sameFrom; omega
  | succ f ih =>
    intro n hn
    unfold sameFrom
    rw [List.length_replicate]
    rcases Nat.lt_or_ge (q + n) k with g | g
    · rw [if_pos ⟨g, by rw [rd_rep (by omega), rd_rep g]⟩, ih (n + 1) (by omega)]
      omega
    · rw [if_neg (fun h => absurd h.1 (by omega))]
      omega
theorem sameN_rep (k : Nat) (c : Int) (p q : Nat) (hp : p ≤ q) (hq : q ≤ k) : sameN (List.replicate k c) p q = min 258 (k - q) := by
  unfold sameN
  rw [same_rep k c p q hp 258 0 (by omega)]
theorem best_rep (k : Nat) (c : Int) (i : Nat) (_hi : 1 ≤ i) (hk : i < k) : ∀ d, 1 ≤ d → d ≤ i → bestTo (List.replicate k c) i d = (min 258 (k - i), 1) := by
  intro d
  induction d with
  | zero => intro h; omega
  | succ d ih =>
    intro _ h2
    unfold bestTo
    rw [sameN_rep k c _ i (by omega) (by omega)]
    rcases Nat.eq_zero_or_pos d with h0 | h0
    · subst h0
      rw [if_pos (by show 0 < _; omega)]
    · rw [ih h0 (by omega), if_neg (Nat.lt_irrefl _)]
theorem bestM_rep (k : Nat) (c : Int) (i : Nat) (hi : 1 ≤ i) (hk : i < k) : bestM (List.replicate k c) i = (min 258 (k - i), 1) := best_rep k c i hi hk _ (by omega) (by omega)
theorem lit_bits {c : Int} : (tokBits fixA fixB (c, 0, 0)).length ≤ 9 := by
  unfold tokBits
  rw [if_pos rfl]
  unfold symCode
  rw [hiOf_length]
  show (rd fixA c.toNat).toNat ≤ 9
  rcases Nat.lt_or_ge c.toNat 288 with g | g
  · rw [rd_fixA _ g]
    unfold fixAt
    split <;> (try split) <;> (try split) <;> omega
  · rw [rd_out (L := fixA) (by rw [fixA_length]; exact g)]
    decide
theorem end_bits : (symCode fixA 256).length = 7 := by
  unfold symCode
  rw [hiOf_length, rd_fixA _ (by decide)]
  decide
theorem match_bits {l : Int} (h1 : 3 ≤ l) (h2 : l ≤ 258) : (tokBits fixA fixB (0, l, 1)).length ≤ 18 ∧ (l = 258 → (tokBits fixA fixB (0, l, 1)).length = 13) := by
  unfold tokBits
  rw [if_neg (by show ¬ l = 0; omega)]
  simp only [List.length_append, lowOf_length]
  unfold symCode
  rw [hiOf_length, hiOf_length]
  have r := symL_range l h1 h2
  have e0 : symS 0 dists 1 = 0 := by decide
  have e1 : symB dists 1 = 0 := by decide
  rw [e0, e1]
  have eb : rd fixB (0 : Int).toNat = 5 := rd_fixB 0 (by decide)
  rw [eb]
  obtain ⟨s, hs⟩ : ∃ s : Nat, symS 257 lens l = s := ⟨(symS 257 lens l).toNat, by omega⟩
  have hx : rd fixA (symS 257 lens l).toNat ≤ 8 := by
    rw [hs, Int.toNat_natCast, rd_fixA s (by omega)]
    unfold fixAt
    rw [if_neg (by omega), if_neg (by omega)]
    split <;> omega
  refine ⟨?_, fun e => ?_⟩
  · omega
  · subst e
    have q0 : symS 257 lens 258 = 285 := by decide
    have q1 : symB lens 258 = 0 := by decide
    rw [q0, q1]
    have ea : rd fixA (285 : Int).toNat = 8 := by rw [show (285 : Int).toNat = 285 from rfl, rd_fixA 285 (by decide)]; decide
    rw [ea]
    decide
theorem rep_bits (k : Nat) (c : Int) : ∀ f i, 1 ≤ i → ((pressFrom (List.replicate k c) f i).flatMap (tokBits fixA fixB)).length ≤ 13 * ((k - i) / 258) + 18 := by
  intro f
  induction f with
  | zero => intro i _; show 0 ≤ _; omega
  | succ f ih =>
    intro i hi
    unfold pressFrom
    rw [List.length_replicate]
    split
    · rename_i hk
      rw [bestM_rep k c i hi hk]
      split
      · rename_i h3
        rw [List.flatMap_cons, List.length_append]
        have h1 := lit_bits (c := rd (List.replicate k c) i)
        have h3' : k - i < 3 := by simp only at h3; omega
        -- at most two literals are left
        cases f with
        | zero => show _ + 0 ≤ _; omega
        | succ f =>
          unfold pressFrom
          rw [List.length_replicate]
          split
          · rename_i hk2
            rw [bestM_rep k c (i + 1) (by omega) hk2, if_pos (by show min 258 (k - (i + 1)) < 3; omega), pressFrom_end _ _ _ (by rw [List.length_replicate]; omega), List.flatMap_cons, List.length_append]
            have h2 := lit_bits (c := rd (List.replicate k c) (i + 1))
            show _ + (_ + 0) ≤ _
            omega
          · show _ + 0 ≤ _; omega
      · rename_i h3
        rw [List.flatMap_cons, List.length_append]
        simp only at h3 ⊢
        have hm := match_bits (l := ((min 258 (k - i) : Nat) : Int)) (by omega) (by omega)
        rcases Nat.lt_or_ge (k - i) 258 with g | g
        · rw [pressFrom_end _ _ _ (by rw [List.length_replicate]; omega)]
          have h1 := hm.1
          show _ + 0 ≤ _
          have e1 : ((1 : Nat) : Int) = 1 := rfl
          rw [e1]
          omega
        · have h1 := hm.2 (by omega)
          have h2 := ih (i + min 258 (k - i)) (by omega)
          have e1 : ((1 : Nat) : Int) = 1 := rfl
          rw [e1, h1]
          have e2 : i + min 258 (k - i) = i + 258 := by omega
          rw [e2] at h2 ⊢
          have e3 : (k - i) / 258 = (k - (i + 258)) / 258 + 1 := by omega
          omega
    · show 0 ≤ _; omega
theorem press_rep (k : Nat) (c : Int) (hk : k < 6000) : (pressB (List.replicate k c)).length ≤ 12 + k / 100 := by
  have h := (pressB_le (List.replicate k c)).2.1
  rw [packB_length] at h
  have hb : (fixedS (List.replicate k c)).length ≤ 3 + 9 + 13 * ((k - 1) / 258) + 18 + 7 := by
    unfold fixedS toksS
    rw [List.length_append, List.length_append, end_bits]
    have e : (pressL (List.replicate k c)).flatMap (tokBits fixA fixB) = (pressFrom (List.replicate k c) k 0).flatMap (tokBits fixA fixB) := by unfold pressL; rw [List.length_replicate]
    rw [e]
    show 3 + (_ + 7) ≤ _
    cases k with
    | zero => show 3 + (0 + 7) ≤ _; omega
    | succ k =>
      unfold pressFrom
      rw [List.length_replicate, if_pos (by omega), if_pos (by rw [show (bestM (List.replicate (k + 1) c) 0).1 = 0 from rfl]; decide), List.flatMap_cons, List.length_append]
      have h1 := lit_bits (c := rd (List.replicate (k + 1) c) 0)
      have h2 := rep_bits (k + 1) c k (0 + 1) (by omega)
      omega
  omega
end Go.Proofs.YtendohnkhbgfbaaDoor
/-
  Stored blocks are told again; what lies around changes nothing (no program).
-/
namespace Go.Proofs.YtendohnkhbgfbaaDoor
open Go.RowKit

theorem bitAt_byte (bs : List Int) (k i : Nat) (hi : i < 8) : bitAt bs (8 * k + i) = (rd bs k).toNat / 2 ^ i % 2 := by
  unfold bitAt
  rw [show (8 * k + i) / 8 = k by omega, show (8 * k + i) % 8 = i by omega]
theorem num_byte (bs : List Int) (k : Nat) (h : (rd bs k).toNat < 256) : numAt bs (8 * k) 8 = (rd bs k).toNat := by
  have b0 := bitAt_byte bs k 0 (by omega)
  have b1 := bitAt_byte bs k 1 (by omega)
  have b2 := bitAt_byte bs k 2 (by omega)
  have b3 := bitAt_byte bs k 3 (by omega)
  have b4 := bitAt_byte bs k 4 (by omega)
  have b5 := bitAt_byte bs k 5 (by omega)
  have b6 := bitAt_byte bs k 6 (by omega)
  have b7 := bitAt_byte bs k 7 (by omega)
  simp only [numAt, b0, b1, b2, b3, b4, b5, b6, b7]
  omega
theorem num_split (bs : List Int) (p n : Nat) : ∀ m, numAt bs p (n + m) = numAt bs p n + numAt bs (p + n) m * 2 ^ n := by
  intro m
  induction m with
  | zero => simp [numAt]
  | succ m ih =>
    rw [show n + (m + 1) = n + m + 1 from rfl]
    show numAt bs p (n + m) + bitAt bs (p + (n + m)) * 2 ^ (n + m) = numAt bs p n + (numAt bs (p + n) m + bitAt bs (p + n + m) * 2 ^ m) * 2 ^ n
    rw [ih, Nat.add_mul, Nat.mul_assoc, ← Nat.pow_add, Nat.add_comm m n, ← Nat.add_assoc p n m, Nat.add_assoc]
theorem num_two (bs : List Int) (k : Nat) (h : (rd bs k).toNat < 256) (h2 : (rd bs (k + 1)).toNat < 256) : numAt bs (8 * k) 16 = (rd bs k).toNat + 256 * (rd bs (k + 1)).toNat := by
  rw [show (16 : Nat) = 8 + 8 from rfl, num_split, num_byte bs k h, show 8 * k + 8 = 8 * (k + 1) by omega, num_byte bs (k + 1) h2]
  omega
theorem xor_neg {n : Nat} (h : n ≤ 65535) : n ^^^ (65535 - n) = 65535 := by
  have e : (BitVec.ofNat 16 n ^^^ ~~~ BitVec.ofNat 16 n) = BitVec.allOnes 16 := by
    rw [← BitVec.xor_allOnes, ← BitVec.xor_assoc, BitVec.xor_self, BitVec.zero_xor]
  have e2 := congrArg BitVec.toNat e
  rw [BitVec.toNat_xor, BitVec.toNat_not, BitVec.toNat_ofNat, Nat.mod_eq_of_lt (show n < 2 ^ 16 by omega)] at e2
  exact e2
/-- A stored block. -/
def blkB (h : Int) (b : List Int) : List Int := [h, ((b.length % 256 : Nat) : Int), ((b.length / 256 : Nat) : Int), ((255 - b.length % 256 : Nat) : Int), ((255 - b.length / 256 : Nat) : Int)] ++ b
theorem storedB_blk {b : List Int} (h : b.length ≤ 65535) : storedB b = blkB 1 b := by
  unfold storedB
  rw [stoB, if_pos h]
  rfl
theorem blkB_length (h : Int) (b : List Int) : (blkB h b).length = b.length + 5 := by simp [blkB]
theorem rd_mid {X Y Z : List Int} {j : Nat} (h : j < Y.length) : rd (X ++ (Y ++ Z)) (X.length + j) = rd Y j := by rw [rd_appR, rd_appL h]
theorem stored_step {X Z b o : List Int} {h : Nat} {most : Int} (hh : h ≤ 1) (hb : b.length ≤ 65535) (hm : (o.length : Int) + b.length ≤ most) :
    ∃ T, T = 8 * (X ++ (blkB h b ++ Z)).length ∧ openStep (X ++ (blkB h b ++ Z)) T most (8 * X.length, o) = if h = 0 then .inl (8 * (X.length + (blkB h b).length), o ++ b) else .inr (.ok (8 * (X.length + (blkB h b).length), o ++ b)) := by
  refine ⟨_, rfl, ?_⟩
  obtain ⟨S, hS⟩ : ∃ S, S = X ++ (blkB (h : Int) b ++ Z) := ⟨_, rfl⟩
  have hl := blkB_length (h : Int) b
  have r0 : rd S (X.length + 0) = h := by rw [hS, rd_mid (by omega)]; rfl
  have r1 : rd S (X.length + 1) = ((b.length % 256 : Nat) : Int) := by rw [hS, rd_mid (by omega)]; rfl
  have r2 : rd S (X.length + 2) = ((b.length / 256 : Nat) : Int) := by rw [hS, rd_mid (by omega)]; rfl
  have r3 : rd S (X.length + 3) = ((255 - b.length % 256 : Nat) : Int) := by rw [hS, rd_mid (by omega)]; rfl
  have r4 : rd S (X.length + 4) = ((255 - b.length / 256 : Nat) : Int) := by rw [hS, rd_mid (by omega)]; rfl
  have hSl : S.length = X.length + (b.length + 5) + Z.length := by rw [hS, List.length_append, List.length_append, hl]; omega
  have hdrop : (S.drop (X.length + 5)).take b.length = b := by
    rw [hS, show X.length + 5 = X.length + 5 from rfl, List.drop_append, List.drop_of_length_le (by omega), List.nil_append, show X.length + 5 - X.length = 5 by omega]
    unfold blkB
    simp
  rw [← hS]
  clear hS
  have u8 : upTo8 (8 * X.length + 3) = 8 * (X.length + 1) := by unfold upTo8; omega
  have n1 : numAt S (8 * X.length) 1 = h := by
    have e := bitAt_byte S X.length 0 (by omega)
    rw [numAt_one, show 8 * X.length = 8 * X.length + 0 from rfl, e, show X.length = X.length + 0 from rfl, r0]
    simp
    omega
  have n2 : numAt S (8 * X.length + 1) 2 = 0 := by
    have e1 := bitAt_byte S X.length 1 (by omega)
    have e2 := bitAt_byte S X.length 2 (by omega)
    rw [show X.length = X.length + 0 from rfl, r0] at e1 e2
    simp only [numAt]
    rw [show 8 * X.length + 1 + 0 = 8 * (X.length + 0) + 1 by omega, show 8 * (X.length + 0) + 1 + 1 = 8 * (X.length + 0) + 2 by omega, e1, e2]
    simp
    omega
  have m1 : numAt S (8 * (X.length + 1)) 16 = b.length := by
    rw [num_two S (X.length + 1) (by rw [r1]; omega) (by rw [show X.length + 1 + 1 = X.length + 2 from rfl, r2]; omega), show X.length + 1 + 1 = X.length + 2 from rfl, r1, r2]
    omega
  have m2 : numAt S (8 * (X.length + 1) + 16) 16 = 65535 - b.length := by
    rw [show 8 * (X.length + 1) + 16 = 8 * (X.length + 3) by omega, num_two S (X.length + 3) (by rw [r3]; omega) (by rw [show X.length + 3 + 1 = X.length + 4 from rfl, r4]; omega), show X.length + 3 + 1 = X.length + 4 from rfl, r3, r4]
    omega
  have hst : storedS S (8 * S.length) most (8 * X.length + 3) o = .ok (8 * (X.length + (b.length + 5)), o ++ b) := by
    unfold storedS
    rw [u8, m1, m2, if_neg (by omega), if_neg (by rw [xor_neg hb]; decide), if_neg (by omega), if_neg (by omega), show (8 * (X.length + 1) + 32) / 8 = X.length + 5 by omega, hdrop, show 8 * (X.length + 1) + 32 + 8 * b.length = 8 * (X.length + (b.length + 5)) by omega]
  have hbk : blockS S (8 * S.length) most (numAt S (8 * X.length + 1) 2) (8 * X.length + 3) o = .ok (8 * (X.length + (b.length + 5)), o ++ b) := by rw [n2]; exact hst
  rw [hl]
  rcases (show h = 0 ∨ h = 1 by omega) with rfl | rfl
  · rw [if_pos rfl]
    exact step_next (by omega) n1 hbk
  · rw [if_neg (by decide)]
    exact step_last (by omega) (by rw [n1]; decide) hbk
theorem bitsAt_mid {X Y Z l : List Int} (h : BitsAt Y 0 l) (hl : l.length ≤ 8 * Y.length) : BitsAt (X ++ (Y ++ Z)) (8 * X.length) l := fun i hi => by
  rw [← h i hi, Nat.zero_add]
  unfold bitAt
  rw [show (8 * X.length + i) / 8 = X.length + i / 8 by omega, show (8 * X.length + i) % 8 = i % 8 by omega, rd_mid (by omega)]
theorem bits_three {S l : List Int} {q x y z : Nat} (h : BitsAt S q ([(x : Int), (y : Int), (z : Int)] ++ l)) : numAt S q 1 = x ∧ numAt S (q + 1) 2 = y + 2 * z ∧ BitsAt S (q + 3) l := by
  have h0 := h 0 (by simp)
  have h1 := h 1 (by simp)
  have h2 := h 2 (by simp)
  have e0 : rd ([(x : Int), (y : Int), (z : Int)] ++ l) 0 = x := rfl
  have e1 : rd ([(x : Int), (y : Int), (z : Int)] ++ l) 1 = y := rfl
  have e2 : rd ([(x : Int), (y : Int), (z : Int)] ++ l) 2 = z := rfl
  rw [e0] at h0
  rw [e1] at h1
  rw [e2] at h2
  refine ⟨by rw [numAt_one]; rw [Nat.add_zero] at h0; omega, ?_, h.right⟩
  simp only [numAt]
  rw [show q + 1 + 0 = q + 1 from rfl, show q + 1 + 1 = q + 2 from rfl]
  omega
theorem fixedS_bits (b : List Int) : Bit01 (fixedS b) := by
  have ht : Bit01 (toksS fixA fixB (pressL b)) := by
    unfold toksS
    rw [← toksTo_all]
    exact (toksTo_bit _ _ _ _).app (symCode_bit _ _)
  have h3 : Bit01 [1, 1, 0] := by intro x hx; revert x; decide
  exact h3.app ht
/-- A block in the agreed codes is told again. -/
theorem fixed_step {X Z b o : List Int} {most : Int} (hb : ∀ j, j < b.length → 0 ≤ rd b j ∧ rd b j ≤ 255) (hm : (o.length : Int) + b.length ≤ most) :
    openStep (X ++ (packB (fixedS b) ++ Z)) (8 * (X ++ (packB (fixedS b) ++ Z)).length) most (8 * X.length, o) = .inr (.ok (8 * X.length + (fixedS b).length, o ++ b)) := by
  have hpl := packB_length (fixedS b)
  have hB : BitsAt (X ++ (packB (fixedS b) ++ Z)) (8 * X.length) (fixedS b) := bitsAt_mid (bitsAt_pack (fixedS_bits b)) (by omega)
  have hT : 8 * X.length + (fixedS b).length ≤ 8 * (X ++ (packB (fixedS b) ++ Z)).length := by rw [List.length_append, List.length_append]; omega
  obtain ⟨S, hS⟩ : ∃ S, S = X ++ (packB (fixedS b) ++ Z) := ⟨_, rfl⟩
  rw [← hS] at hB hT ⊢
  have hF : fixedS b = [((1 : Nat) : Int), ((1 : Nat) : Int), ((0 : Nat) : Int)] ++ toksS fixA fixB (pressL b) := by
    unfold fixedS
    exact congrArg (fun z => z ++ toksS fixA fixB (pressL b)) (show ([1, 1, 0] : List Int) = [((1 : Nat) : Int), ((1 : Nat) : Int), ((0 : Nat) : Int)] by decide)
  have hFl : (fixedS b).length = 3 + (toksS fixA fixB (pressL b)).length := by rw [hF, List.length_append]; rfl
  rw [hF] at hB
  obtain ⟨n1, n2, hb3⟩ := bits_three hB
  have hc := fixed_back (pre := o) (most := most) (T := 8 * S.length) hb hm hb3 (by omega)
  have hbk : blockS S (8 * S.length) most (numAt S (8 * X.length + 1) 2) (8 * X.length + 3) o = .ok (8 * X.length + (fixedS b).length, o ++ b) := by
    rw [n2]
    unfold blockS
    rw [if_neg (by decide), if_pos (by decide), hc, hFl, Nat.add_assoc]
  exact step_last (by omega) (by rw [n1]; decide) hbk
end Go.Proofs.YtendohnkhbgfbaaDoor
