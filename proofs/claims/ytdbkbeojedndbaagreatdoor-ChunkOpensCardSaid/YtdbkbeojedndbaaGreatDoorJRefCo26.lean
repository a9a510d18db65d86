/-
  Texts joined into one file: DefY, BytZ, PackZ.
-/
import Derived.Test.YtdbkbeojedndbaaGreatDoorJRefCo24
import Derived.Laws.BytesString
import Derived.Test.YtdbkbeojedndbaaGreatDoorJRefCo25
import Derived.Test.YtdbkbeojedndbaaGreatDoorJRefCo13
import Derived.Test.YtdbkbeojedndbaaGreatDoorJRefCo23
import Derived.ProofKit
import Derived.OpenShut
import Derived.Test.YtdbkbeojedndbaaGreatDoorJRefCo5
namespace Go.Proofs.YtdbkbeojedndbaaGreatDoor
open Go.RowKit

def wayO (bs : List Int) : Nat → List Int × Nat
 | 0 => (storedB bs, 8 * (storedB bs).length)
 | 1 => if (fixedS bs).length < 8 * (storedB bs).length then (packB (fixedS bs), (fixedS bs).length) else (storedB bs, 8 * (storedB bs).length)
 | k + 2 => if (dynS bs).length < (wayO bs (k + 1)).2 then (packB (dynS bs), (dynS bs).length) else wayO bs (k + 1)
theorem wayO_all (bs : List Int) : (wayO bs 2).1 = pressB bs := by
 have e1 : wayO bs 1 = if (fixedS bs).length < 8 * (storedB bs).length then (packB (fixedS bs), (fixedS bs).length) else (storedB bs, 8 * (storedB bs).length) := rfl
 have e2 : wayO bs 2 = if (dynS bs).length < (wayO bs 1).2 then (packB (dynS bs), (dynS bs).length) else wayO bs 1 := rfl
 rw [e2, e1]
 unfold pressB
 by_cases h1 : (fixedS bs).length < 8 * (storedB bs).length
 ·rw [if_pos h1, if_pos h1]
  by_cases h2 : (dynS bs).length < (fixedS bs).length
  ·rw [if_pos h2, if_pos h2]
  ·rw [if_neg h2, if_neg h2]
 ·rw [if_neg h1, if_neg h1]
  by_cases h2 : (dynS bs).length < 8 * (storedB bs).length
  ·rw [if_pos h2, if_pos h2]
  ·rw [if_neg h2, if_neg h2]
theorem storedB_le (f : Nat) : ∀ b : List Int, (stoB f b).length ≤ b.length + 5 * f := by
 induction f with
 | zero => intro b; exact Nat.zero_le _
 | succ f ih =>
  intro b
  unfold stoB
  split
  ·simp only [List.length_append, List.length_cons, List.length_nil]; omega
  ·have := ih (b.drop 65535)
   simp only [List.length_append, List.length_cons, List.length_nil, List.length_take]
   rw [List.length_drop] at this
   omega
set_option maxHeartbeats 1000000 in set_option maxRecDepth 100000 in
theorem DPress_calls (A : Option Addr) (len cap : Nat) (bs : List Int) (w : World) (hR : Rd w .u8 A len bs) (hb : ∀ j, j < len → 0 ≤ rd bs j ∧ rd bs j ≤ 255) (hA : A = none → len = 0 ∧ cap = 0) (hcap : len ≤ cap) (hlen : len ≤ 100000) (hT : Tabs w) (hO : OrdAt w) :
  Calls Tryz.prog 17 #[.slice A len cap] w fun e w' => ∃ v, e = .returned v ∧ w'.ownsRow w.heap.size 5 1 v (pressB bs).length (ints .u8 (pressB bs)) ∧ Below w.heap.size w w' := by
 have HR := Lib.hid hR
 have Hb := Lib.hid hb
 have HA := Lib.hid hA
 have HT := Lib.hid hT
 have HO := Lib.hid hO
 have Hl := Lib.hid hR.1
 have Hbm : Hid (∀ x ∈ bs, 0 ≤ x ∧ x ≤ 255) := fun x hx => by
  obtain ⟨j, hj, rfl⟩ := List.mem_iff_getElem.1 hx
  have := hb j (by rw [← hR.1]; exact hj)
  rwa [rd_getElem hj] at this
 have hsl : (storedB bs).length ≤ 700000 := by
  have := storedB_le (bs.length + 1) bs
  unfold storedB
  have h1 := hR.1
  omega
 clear hR hb hA hT hO
 go_enter Tryz.func17, Tryz.ntmps17
 go_wp2_with fail
 refine (Stored_calls A len cap bs _ HR.out Hbm.out HA.out hcap (by omega)).mono ?_
 rintro e w1 ⟨v1, rfl, ho1, hb1⟩
 obtain ⟨A1, c1, rfl⟩ := own_slice ho1
 have Ho1 := Lib.hid ho1
 have Hb1 := Lib.hid hb1
 have hsz1 := hb1.size
 obtain ⟨n0, hn0⟩ : ∃ n, n = (storedB bs).length := ⟨_, rfl⟩
 rw [← hn0] at Ho1 hsl ⊢
 have Hn0 := Lib.hid hn0
 clear ho1 hb1 hn0
 have f0 : (w1.alloc (.cells #[.func (.func 34) #[] #[], .func (.func 35) #[] #[]] 66)).heap[w1.heap.size]? = some _ := heap_alloc_new w1 _
 obtain ⟨W2, hW2⟩ : ∃ W, W = w1.alloc (.cells #[.func (.func 34) #[] #[], .func (.func 35) #[] #[]] 66) := ⟨_, rfl⟩
 obtain ⟨fb, hfb⟩ : ∃ q, q = w1.heap.size := ⟨_, rfl⟩
 rw [← hW2, ← hfb] at f0
 have hb2 : Below w1.heap.size w1 W2 := by rw [hW2]; exact (Below.refl _ _).alloc (Nat.le_refl _) _
 have Hf0 := Lib.hid f0
 have Ho2 := Lib.hid (own_below Ho1.out hb2)
 have Hb2 := Lib.hid (below_seq Hb1.out (Nat.le_refl _) hb2)
 have hsz2 := hb2.size
 have HW2 := Lib.hid hW2
 have Hfb := Lib.hid hfb
 clear f0 hb2 hW2 hfb
 go_wp2
 rw [← HW2.out, ← Hfb.out]
 go_loopw [3, 4, 16] (fun v n i wr => ∃ (k : Nat) (ak : Option Addr) (ck : Nat), k ≤ 2 ∧ i = .int .i64 k ∧ v = .slice ak (wayO bs k).1.length ck ∧ n = .int .i64 (wayO bs k).2 ∧ (wayO bs k).2 ≤ 8000000 ∧ Hid (wr.ownsRow w.heap.size 5 1 v (wayO bs k).1.length (ints .u8 (wayO bs k).1)) ∧ Hid (Below W2.heap.size W2 wr)) (fun _ _ i _ => 2 - (intOf i).toNat)
 case atStart => exact ⟨0, A1, c1, by omega, rfl, by rw [Hn0.out]; rfl, by rw [Hn0.out]; simp [wayO], by show 8 * (storedB bs).length ≤ _; rw [← Hn0.out]; omega, by show W2.ownsRow _ _ _ _ (storedB bs).length _; rw [← Hn0.out]; exact Ho2.out, Below.refl _ _⟩
 case round =>
  obtain ⟨k, ak, ck, hk, rfl, rfl, rfl, hn8, HO', HB⟩ := hrel
  rcases (show k = 0 ∨ k = 1 ∨ k = 2 by omega) with rfl | rfl | rfl
  ·skip
   have hsucc : wayO bs 1 = if (fixedS bs).length < (wayO bs 0).2 then (packB (fixedS bs), (fixedS bs).length) else wayO bs 0 := rfl
   obtain ⟨P, hP⟩ : ∃ P, P = wayO bs 0 := ⟨_, rfl⟩
   rw [← hP] at hsucc hn8 HO' ⊢
   have Hsucc := Lib.hid hsucc
   have z := cell_of_row wr fb 0 _ _ (0, 0) ((HB.out.block fb (Array.getElem?_eq_some_iff.1 Hf0.out).1).trans Hf0.out)
   simp only [List.getElem?_toArray, List.getElem?_cons_zero] at z
   have HBw := Lib.hid (below_seq Hb2.out (Nat.le_refl _) HB.out)
   obtain ⟨m, hm⟩ : ∃ m, m = P.2 := ⟨_, rfl⟩
   obtain ⟨l, hl⟩ : ∃ l, l = P.1.length := ⟨_, rfl⟩
   rw [← hm] at hn8 ⊢
   rw [← hl] at HO' ⊢
   have Hm := Lib.hid hm
   have Hll := Lib.hid hl
   clear hsucc hP hm hl
   go_wp2_with fail
   refine (DFixed_calls A len cap bs _ (HR.out.below HBw.out) Hb.out hcap hlen (HT.out.below HBw.out)).mono ?_
   rintro e w3 ⟨v3, rfl, Ho3, hl3, hb3⟩
   have HO3 := Lib.hid (own_below HO'.out hb3)
   have Ho3' := Lib.hid (own_mono Ho3.out HBw.out.size)
   have HB3 := Lib.hid (below_seq HB.out (Nat.le_refl _) hb3)
   obtain ⟨A3, c3, rfl⟩ := own_slice Ho3'.out
   clear hb3 z Ho3
   have hs := Hsucc.out
   rw [← Hm.out] at hs
   by_cases hlt : (fixedS bs).length < m
   ·rw [if_pos hlt] at hs
    have Hs := Lib.hid hs
    clear hs
    go_wp2
    go_roundw
    case rel => exact ⟨1, A3, c3, by omega, rfl, by rw [Hs.out], by rw [Hs.out], by rw [Hs.out]; exact hl3, by rw [Hs.out]; exact Ho3'.out, HB3.out⟩
    case measure => simp [intOf]
   ·rw [if_neg hlt] at hs
    have Hs := Lib.hid hs
    clear hs
    go_wp2
    go_roundw
    case rel => exact ⟨1, ak, ck, by omega, rfl, by rw [Hs.out, Hll.out], by rw [Hs.out, Hm.out], by rw [Hs.out, ← Hm.out]; exact hn8, by rw [Hs.out, ← Hll.out]; exact HO3.out, HB3.out⟩
    case measure => simp [intOf]
  ·skip
   have hsucc : wayO bs 2 = if (dynS bs).length < (wayO bs 1).2 then (packB (dynS bs), (dynS bs).length) else wayO bs 1 := rfl
   obtain ⟨P, hP⟩ : ∃ P, P = wayO bs 1 := ⟨_, rfl⟩
   rw [← hP] at hsucc hn8 HO' ⊢
   have Hsucc := Lib.hid hsucc
   have z := cell_of_row wr fb 1 _ _ (0, 0) ((HB.out.block fb (Array.getElem?_eq_some_iff.1 Hf0.out).1).trans Hf0.out)
   simp only [List.getElem?_toArray, List.getElem?_cons_succ, List.getElem?_cons_zero] at z
   have HBw := Lib.hid (below_seq Hb2.out (Nat.le_refl _) HB.out)
   obtain ⟨m, hm⟩ : ∃ m, m = P.2 := ⟨_, rfl⟩
   obtain ⟨l, hl⟩ : ∃ l, l = P.1.length := ⟨_, rfl⟩
   rw [← hm] at hn8 ⊢
   rw [← hl] at HO' ⊢
   have Hm := Lib.hid hm
   have Hll := Lib.hid hl
   clear hsucc hP hm hl
   go_wp2_with fail
   refine (DDyn_calls A len cap bs _ (HR.out.below HBw.out) Hb.out hcap hlen (HT.out.below HBw.out) (fun j hj => kept_cell HBw.out (HO.out j hj))).mono ?_
   rintro e w3 ⟨v3, rfl, Ho3, hl3, hb3⟩
   have HO3 := Lib.hid (own_below HO'.out hb3)
   have Ho3' := Lib.hid (own_mono Ho3.out HBw.out.size)
   have HB3 := Lib.hid (below_seq HB.out (Nat.le_refl _) hb3)
   obtain ⟨A3, c3, rfl⟩ := own_slice Ho3'.out
   clear hb3 z Ho3
   have hs := Hsucc.out
   rw [← Hm.out] at hs
   by_cases hlt : (dynS bs).length < m
   ·rw [if_pos hlt] at hs
    have Hs := Lib.hid hs
    clear hs
    go_wp2
    go_roundw
    case rel => exact ⟨2, A3, c3, by omega, rfl, by rw [Hs.out], by rw [Hs.out], by rw [Hs.out]; exact hl3, by rw [Hs.out]; exact Ho3'.out, HB3.out⟩
    case measure => simp [intOf]
   ·rw [if_neg hlt] at hs
    have Hs := Lib.hid hs
    clear hs
    go_wp2
    go_roundw
    case rel => exact ⟨2, ak, ck, by omega, rfl, by rw [Hs.out, Hll.out], by rw [Hs.out, Hm.out], by rw [Hs.out, ← Hm.out]; exact hn8, by rw [Hs.out, ← Hll.out]; exact HO3.out, HB3.out⟩
    case measure => simp [intOf]
  ·rw [wayO_all] at HO' ⊢
   go_wp2
   go_ret
   exact ⟨_, rfl, HO'.out, Hb2.out.trans (HB.out.mono Hb2.out.size)⟩
end Go.Proofs.YtdbkbeojedndbaaGreatDoor
namespace Go.Proofs.YtdbkbeojedndbaaGreatDoor
open Go.RowKit

theorem conv_rd9 {W : World} {A : Option Addr} {n c : Nat} {ns : List Int} (h : Rd W .u8 A n ns) (hn : 0 < n) : (convert 22 9 (.slice A n c)).run Tryz.prog W = .ok (.string (strOfNums ns)) W := by
 obtain ⟨b, o, rfl, hc⟩ := h.2 hn
 exact run_convert_bytes_arg W _ 5 Tryz.underlying22 Tryz.underlying5 b o n c ns h.1 hc _ Tryz.underlying9
theorem conv_later {w0 : World} {A : Option Addr} {n c : Nat} {ns : List Int} (h : Rd w0 .u8 A n ns) (hn : 0 < n) : ∀ W, Later w0 W → (convert 22 9 (.slice A n c)).run Tryz.prog W = .ok (.string (strOfNums ns)) W :=
 fun _ hL => conv_rd9 (h.below hL.bel) hn
theorem rd_nil (w : World) (k : IntKind) : Rd w k none 0 [] := ⟨rfl, fun h => by omega⟩
theorem all_of_rd {b : List Int} (h : ∀ j, j < b.length → 0 ≤ rd b j ∧ rd b j ≤ 255) : ∀ x ∈ b, 0 ≤ x ∧ x ≤ 255 := by
 intro x hx
 obtain ⟨j, hj, rfl⟩ := List.getElem_of_mem hx
 have := h j hj
 rwa [rd_getElem hj] at this
theorem packB_small {L : List Int} (h : Bit01 L) : ∀ j, j < (packB L).length → 0 ≤ rd (packB L) j ∧ rd (packB L) j ≤ 255 := fun j hj => packB_byte h j (by rwa [packB_length] at hj)
theorem storedB_byte {b : List Int} (h : ∀ x ∈ b, 0 ≤ x ∧ x ≤ 255) : ∀ j, j < (storedB b).length → 0 ≤ rd (storedB b) j ∧ rd (storedB b) j ≤ 255 := by
 unfold storedB
 rw [← stoBits_pack _ h]
 exact packB_small (stoBits_bit _ _)
theorem fixedS_bits (b : List Int) : Bit01 (fixedS b) := by
 have ht : Bit01 (toksS fixA fixB (pressL b)) := by
  unfold toksS
  rw [← toksTo_all]
  exact (toksTo_bit _ _ _ _).app (symCode_bit _ _)
 have h3 : Bit01 [1, 1, 0] := by intro x hx; revert x; decide
 exact h3.app ht
theorem dynS_bits (b : List Int) : Bit01 (dynS b) := by
 have hl : ∀ (vs : List Int) (n m : Nat), Bit01 (lows vs n m) := by
  intro vs n m x hx
  obtain ⟨j, _, h⟩ := List.mem_flatMap.1 hx
  exact lowOf_bit _ _ x h
 have hi : ∀ (ls : List Int) (its : List Item) (k : Nat), Bit01 (bitsIt ls its k) := by
  intro ls its k x hx
  obtain ⟨j, _, h⟩ := List.mem_flatMap.1 hx
  exact ((hiOf_bit _ _).app (lowOf_bit _ _)) x h
 have hp : Bit01 (putS (lenA (pressL b)) (lenD (pressL b))) := ((((lowOf_bit _ _).app (lowOf_bit _ _)).app (lowOf_bit _ _)).app (hl _ _ _)).app (hi _ _ _)
 have ht : Bit01 (toksS (lenA (pressL b)) (lenD (pressL b)) (pressL b)) := by
  unfold toksS
  rw [← toksTo_all]
  exact (toksTo_bit _ _ _ _).app (symCode_bit _ _)
 have h3 : Bit01 [1, 0, 1] := by intro x hx; revert x; decide
 exact h3.app (hp.app ht)
theorem fixedB_byte (b : List Int) : ∀ j, j < (packB (fixedS b)).length → 0 ≤ rd (packB (fixedS b)) j ∧ rd (packB (fixedS b)) j ≤ 255 := packB_small (fixedS_bits b)
theorem dynB_byte (b : List Int) : ∀ j, j < (packB (dynS b)).length → 0 ≤ rd (packB (dynS b)) j ∧ rd (packB (dynS b)) j ≤ 255 := packB_small (dynS_bits b)
theorem pressB_byte {b : List Int} (h : ∀ x ∈ b, 0 ≤ x ∧ x ≤ 255) : ∀ j, j < (pressB b).length → 0 ≤ rd (pressB b) j ∧ rd (pressB b) j ≤ 255 := by
 rcases pressB_cases b with e | e | e <;> rw [e]
 ·exact storedB_byte h
 ·exact fixedB_byte b
 ·exact dynB_byte b
theorem rd_bytes {l : List Int} (h : ∀ x ∈ l, 0 ≤ x ∧ x ≤ 255) : ∀ j, j < l.length → 0 ≤ rd l j ∧ rd l j ≤ 255 := fun j hj => by rw [rd_getElem hj]; exact h _ (List.getElem_mem hj)
theorem isRow_nil {k : IntKind} {w : World} {a : Option Addr} {len cap : Nat} {zs : List Int} (h : IsRow k w a len cap zs) : a = none → len = 0 ∧ cap = 0 := by
 rcases h with ⟨_, h1, h2, _⟩ | ⟨x, rfl, _⟩
 ·exact fun _ => ⟨h1, h2⟩
 ·intro e; cases e
theorem isRow_le {k : IntKind} {w : World} {a : Option Addr} {len cap : Nat} {zs : List Int} (h : IsRow k w a len cap zs) : len ≤ cap := by
 rcases h with ⟨_, h1, h2, _⟩ | ⟨x, _, h, _⟩
 ·omega
 ·exact h
theorem strOfNums_app (a b : List Int) : strOfNums (a ++ b) = strOfNums a ++ strOfNums b := by
 apply ByteArray.ext
 simp [strOfNums]
end Go.Proofs.YtdbkbeojedndbaaGreatDoor
namespace Go.Proofs.YtdbkbeojedndbaaGreatDoor
open Go.RowKit

theorem own_lit0 (w : World) (e : TypeId) : (w.alloc (.cells #[] e)).ownsRow w.heap.size e 1 (.slice (some ⟨w.heap.size, 0, none⟩) 0 0) 0 [] :=
 World.ownsRow_lit w #[] 0 (Nat.le_refl _) (by decide) rfl
def packK (bs : List Int) : Int × List Int := if 256 ≤ bs.length ∧ (pressB bs).length < bs.length then (2, pressB bs) else (1, bs)
theorem packK_pos {bs : List Int} (h : 256 ≤ bs.length) (h2 : (pressB bs).length < bs.length) : packK bs = (2, pressB bs) := if_pos ⟨h, h2⟩
theorem packK_neg {bs : List Int} (h : ¬ (256 ≤ bs.length ∧ (pressB bs).length < bs.length)) : packK bs = (1, bs) := if_neg h
theorem packK_kind (bs : List Int) : (packK bs).1 = 1 ∨ (packK bs).1 = 2 := by
 unfold packK
 split
 ·exact .inr rfl
 ·exact .inl rfl
theorem packK_le (bs : List Int) : (packK bs).2.length ≤ bs.length := by
 unfold packK
 split
 ·rename_i h; exact Nat.le_of_lt h.2
 ·exact Nat.le_refl _
theorem packK_byte {bs : List Int} (h : ∀ x ∈ bs, 0 ≤ x ∧ x ≤ 255) : ∀ x ∈ (packK bs).2, 0 ≤ x ∧ x ≤ 255 := by
 unfold packK
 split
 ·exact all_of_rd (pressB_byte h)
 ·exact h
theorem two_c0 {w : World} {g : Nat} {v0 v1 : Value} {T : TypeId} (h : w.heap[g]? = some (.cells #[v0, v1] T (0, 0))) : w.cell? ⟨g, 0, none⟩ = some v0 := by rw [cell_of_row w g _ _ _ (0, 0) h]; rfl
theorem two_c1 {w : World} {g : Nat} {v0 v1 : Value} {T : TypeId} (h : w.heap[g]? = some (.cells #[v0, v1] T (0, 0))) : w.cell? ⟨g, 1, none⟩ = some v1 := by rw [cell_of_row w g _ _ _ (0, 0) h]; rfl
theorem two_set {w : World} {g : Nat} {v0 v1 : Value} {T : TypeId} (h : w.heap[g]? = some (.cells #[v0, v1] T (0, 0))) (u0 u1 : Value) : ((w.setCell ⟨g, 0, none⟩ u0).setCell ⟨g, 1, none⟩ u1).heap[g]? = some (.cells #[u0, u1] T (0, 0)) :=
 heap_setCell_same _ g 1 _ _ _ (heap_setCell_same w g 0 _ _ _ h)
set_option maxHeartbeats 1000000 in set_option maxRecDepth 100000 in
theorem ChPack_calls (A : Option Addr) (len cap : Nat) (bs : List Int) (w : World) (hR : Rd w .u8 A len bs) (hb : ∀ x ∈ bs, 0 ≤ x ∧ x ≤ 255) (hA : A = none → len = 0 ∧ cap = 0) (hcap : len ≤ cap) (hlen : len ≤ 100000) (hT : Tabs w) (hO : OrdAt w) :
  Calls Tryz.prog 8 #[.slice A len cap] w fun e w' => ∃ A' n' c', e = .returned (.agg #[.int .i64 (packK bs).1, .slice A' n' c']) ∧ Hid (w'.ownsRow w.heap.size 5 1 (.slice A' n' c') n' (ints .u8 (packK bs).2)) ∧ Below w.heap.size w w' := by
 have HR := Lib.hid hR
 have Hb := Lib.hid hb
 have HA := Lib.hid hA
 have HT := Lib.hid hT
 have HO := Lib.hid hO
 have Hl := Lib.hid hR.1
 clear hR hb hA hT hO
 go_enter Tryz.func8, Tryz.ntmps8
 obtain ⟨g, hg⟩ : ∃ g, g = w.heap.size := ⟨_, rfl⟩
 have HG := Lib.hid hg
 go_upto_region 1 with fail
 obtain ⟨w0, hw0⟩ : ∃ X, X = w.alloc (.cells #[.int .i64 0, .slice none 0 0] 30) := ⟨_, rfl⟩
 rw [← hw0, ← hg]
 have hb0 : Below w.heap.size w w0 := by rw [hw0]; exact (Below.refl _ _).alloc (Nat.le_refl _) _
 have hrow0 : w0.heap[g]? = some (.cells #[.int .i64 0, .slice none 0 0] 30 (0, 0)) := by rw [hw0, hg]; exact heap_alloc_new w _
 have HB0 := Lib.hid hb0
 have HR0 := Lib.hid hrow0
 clear hw0 hb0 hrow0 hg
 by_cases h256 : 256 ≤ len
 ·go_wp2_with fail
  refine (DPress_calls A len cap bs _ (HR.out.below HB0.out) (fun j hj => rd_bytes Hb.out j (by rw [Hl.out]; exact hj)) HA.out hcap hlen (HT.out.below HB0.out) (fun j hj => kept_cell HB0.out (HO.out j hj))).mono ?_
  rintro e w1 ⟨v1, rfl, ho1, hb1⟩
  obtain ⟨A1, c1, rfl⟩ := own_slice ho1
  have hrow1 : w1.heap[g]? = some (.cells #[.int .i64 0, .slice none 0 0] 30 (0, 0)) := (hb1.block g (Array.getElem?_eq_some_iff.1 HR0.out).1).trans HR0.out
  have q0 : w1.cell? ⟨g, 0, none⟩ = some (.int .i64 0) := by rw [cell_of_row w1 g _ _ _ (0, 0) hrow1]; rfl
  have q1 : w1.cell? ⟨g, 1, none⟩ = some (.slice none 0 0) := by rw [cell_of_row w1 g _ _ _ (0, 0) hrow1]; rfl
  have f0 : w1.frozen? ⟨g, 0, none⟩ = false := frozen_of_row w1 g 0 _ _ hrow1
  have f1 : w1.frozen? ⟨g, 1, none⟩ = false := frozen_of_row w1 g 1 _ _ hrow1
  have HR1 := Lib.hid hrow1
  have HO1 := Lib.hid (own_mono ho1 HB0.out.size)
  have HB1 := Lib.hid (below_seq HB0.out (Nat.le_refl _) hb1)
  clear ho1 hb1 hrow1
  obtain ⟨m1, hm1⟩ : ∃ m1, m1 = (pressB bs).length := ⟨_, rfl⟩
  rw [← hm1] at HO1 ⊢
  by_cases hlt : m1 < len
  ·have hpk := packK_pos (bs := bs) (by rw [Hl.out]; exact h256) (by rw [Hl.out, ← hm1]; exact hlt)
   have Hpk := Lib.hid hpk
   clear hm1 hpk
   go_wp2_with fail
   have hrow9 : ((w1.setCell ⟨g, 0, none⟩ (.int .i64 2)).setCell ⟨g, 1, none⟩ (.slice A1 m1 c1)).heap[g]? = some (.cells #[.int .i64 2, .slice A1 m1 c1] 30 (0, 0)) := two_set HR1.out _ _
   have hl := run_loadVar_row (P := Tryz.prog) _ g 30 30 _ _ _ hrow9 Tryz.underlying30 rfl (by kernel_rfl)
   have hf9 : Fr w1 ((w1.setCell ⟨g, 0, none⟩ (.int .i64 2)).setCell ⟨g, 1, none⟩ (.slice A1 m1 c1)) [some g] := ((Fr.refl _ _).set _ _ (.inl (by simp))).set _ _ (.inl (by simp))
   refine bodyPost_ret (v := .agg #[.int .i64 2, .slice A1 m1 c1]) ?_ rfl ⟨A1, m1, c1, by rw [Hpk.out], ?_, ?_⟩
   ·simp [results, Tryz.results8, asAddr, hl]
   ·rw [Hpk.out]
    exact Lib.hid (own_fr HO1.out hf9 (fun o ho => by simp at ho; subst ho; exact own_apart HR1.out (by decide) HO1.out))
   ·exact HB1.out.trans (hf9.below (by have := HG.out; have := HB1.out.size; omega) (fun o ho j e => by simp at ho; subst ho; cases e; rw [HG.out]; exact Nat.le_refl _))
  ·have hpk := packK_neg (bs := bs) (by rw [Hl.out, ← hm1]; omega)
   have Hpk := Lib.hid hpk
   clear hm1 hpk q0 q1 f0 f1
   go_wp2_with (at_builtin; refine wpList_appRd rfl _ _ rfl elB (ys := []) (own_lit0 w1 _) rfl rfl ((HR.out.below HB1.out).alloc _) HA.out (by omega) (by simp) ?_; intro v2 w2 ho2 hg2; rw [Nat.zero_add, List.nil_append] at ho2; obtain ⟨A2, c2, rfl⟩ := own_slice ho2; have hb2 : Below w1.heap.size w1 w2 := ((Below.refl _ _).alloc (Nat.le_refl _) _).grown hg2 (by simp) (fun k hk => by simp [Value.ownBlock] at hk; omega); have hrow2 : w2.heap[g]? = some (.cells #[.int .i64 0, .slice none 0 0] 30 (0, 0)) := (hb2.block g (Array.getElem?_eq_some_iff.1 HR1.out).1).trans HR1.out; have q0 := two_c0 hrow2; have q1 := two_c1 hrow2; have f0 : w2.frozen? ⟨g, 0, none⟩ = false := frozen_of_row w2 g 0 _ _ hrow2; have f1 : w2.frozen? ⟨g, 1, none⟩ = false := frozen_of_row w2 g 1 _ _ hrow2; have HR2 := Lib.hid hrow2; have HO2 := Lib.hid (own_mono ho2 HB1.out.size); have HB2 := Lib.hid (below_seq HB1.out (Nat.le_refl _) hb2); clear ho2 hg2 hb2 hrow2)
   have hrow9 : ((w2.setCell ⟨g, 0, none⟩ (.int .i64 1)).setCell ⟨g, 1, none⟩ (.slice A2 len c2)).heap[g]? = some (.cells #[.int .i64 1, .slice A2 len c2] 30 (0, 0)) := two_set HR2.out _ _
   have hl := run_loadVar_row (P := Tryz.prog) _ g 30 30 _ _ _ hrow9 Tryz.underlying30 rfl (by kernel_rfl)
   have hf9 : Fr w2 ((w2.setCell ⟨g, 0, none⟩ (.int .i64 1)).setCell ⟨g, 1, none⟩ (.slice A2 len c2)) [some g] := ((Fr.refl _ _).set _ _ (.inl (by simp))).set _ _ (.inl (by simp))
   refine bodyPost_ret (v := .agg #[.int .i64 1, .slice A2 len c2]) ?_ rfl ⟨A2, len, c2, by rw [Hpk.out], ?_, ?_⟩
   ·simp [results, Tryz.results8, asAddr, hl]
   ·rw [Hpk.out]
    exact Lib.hid (own_fr HO2.out hf9 (fun o ho => by simp at ho; subst ho; exact own_apart HR2.out (by decide) HO2.out))
   ·exact HB2.out.trans (hf9.below (by have := HG.out; have := HB2.out.size; omega) (fun o ho j e => by simp at ho; subst ho; cases e; rw [HG.out]; exact Nat.le_refl _))
 ·have hpk := packK_neg (bs := bs) (by rw [Hl.out]; omega)
  have Hpk := Lib.hid hpk
  clear hpk
  go_wp2_with (at_builtin; refine wpList_appRd rfl _ _ rfl elB (ys := []) (own_lit0 w0 _) rfl rfl ((HR.out.below HB0.out).alloc _) HA.out (by omega) (by simp) ?_; intro v2 w2 ho2 hg2; rw [Nat.zero_add, List.nil_append] at ho2; obtain ⟨A2, c2, rfl⟩ := own_slice ho2; have hb2 : Below w0.heap.size w0 w2 := ((Below.refl _ _).alloc (Nat.le_refl _) _).grown hg2 (by simp) (fun k hk => by simp [Value.ownBlock] at hk; omega); have hrow2 : w2.heap[g]? = some (.cells #[.int .i64 0, .slice none 0 0] 30 (0, 0)) := (hb2.block g (Array.getElem?_eq_some_iff.1 HR0.out).1).trans HR0.out; have q0 := two_c0 hrow2; have q1 := two_c1 hrow2; have f0 : w2.frozen? ⟨g, 0, none⟩ = false := frozen_of_row w2 g 0 _ _ hrow2; have f1 : w2.frozen? ⟨g, 1, none⟩ = false := frozen_of_row w2 g 1 _ _ hrow2; have HR2 := Lib.hid hrow2; have HO2 := Lib.hid (own_mono ho2 HB0.out.size); have HB2 := Lib.hid (below_seq HB0.out (Nat.le_refl _) hb2); clear ho2 hg2 hb2 hrow2)
  have hrow9 : ((w2.setCell ⟨g, 0, none⟩ (.int .i64 1)).setCell ⟨g, 1, none⟩ (.slice A2 len c2)).heap[g]? = some (.cells #[.int .i64 1, .slice A2 len c2] 30 (0, 0)) := two_set HR2.out _ _
  have hl := run_loadVar_row (P := Tryz.prog) _ g 30 30 _ _ _ hrow9 Tryz.underlying30 rfl (by kernel_rfl)
  have hf9 : Fr w2 ((w2.setCell ⟨g, 0, none⟩ (.int .i64 1)).setCell ⟨g, 1, none⟩ (.slice A2 len c2)) [some g] := ((Fr.refl _ _).set _ _ (.inl (by simp))).set _ _ (.inl (by simp))
  refine bodyPost_ret (v := .agg #[.int .i64 1, .slice A2 len c2]) ?_ rfl ⟨A2, len, c2, by rw [Hpk.out], ?_, ?_⟩
  ·simp [results, Tryz.results8, asAddr, hl]
  ·rw [Hpk.out]
   exact Lib.hid (own_fr HO2.out hf9 (fun o ho => by simp at ho; subst ho; exact own_apart HR2.out (by decide) HO2.out))
  ·exact HB2.out.trans (hf9.below (by have := HG.out; have := HB2.out.size; omega) (fun o ho j e => by simp at ho; subst ho; cases e; rw [HG.out]; exact Nat.le_refl _))
end Go.Proofs.YtdbkbeojedndbaaGreatDoor
