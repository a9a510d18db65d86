/-
  Texts joined into one file: ActorsGets.
-/
import Derived.Test.YtekhofnfikcpnaaJAw183
import Derived.Test.YtekhofnfikcpnaaJRGetA2
/-
  The walk of the law ActorsGets.
-/
namespace Go.Proofs.Ytekhofnfikcpnaa
open Go.RowKit

theorem isRow_nil {k : IntKind} {w : World} {a : Option Addr} {len cap : Nat} {zs : List Int} (h : IsRow k w a len cap zs) : a = none → len = 0 ∧ cap = 0 := by
  rcases h with ⟨_, h1, h2, _⟩ | ⟨x, rfl, _⟩
  · exact fun _ => ⟨h1, h2⟩
  · intro e; cases e
theorem isRow_le {k : IntKind} {w : World} {a : Option Addr} {len cap : Nat} {zs : List Int} (h : IsRow k w a len cap zs) : len ≤ cap := by
  rcases h with ⟨_, h1, h2, _⟩ | ⟨x, _, h, _⟩
  · omega
  · exact h
theorem isRow_bsl {w : World} {a : Option Addr} {len cap : Nat} {zs : List Int} (h : IsRow .u8 w a len cap zs) : BSl w a len cap (zs.take len) ∧ ∀ x ∈ zs.take len, 0 ≤ x ∧ x ≤ 255 := by
  refine ⟨⟨h.rd, isRow_nil h, isRow_le h⟩, fun x hx => ?_⟩
  obtain ⟨j, hj, rfl⟩ := List.getElem_of_mem hx
  have := h.u8 j (by have := h.rd.1; omega)
  rwa [rd_getElem hj] at this
set_option maxHeartbeats 1000000 in
set_option maxRecDepth 100000 in
theorem ActorsGets_calls (au : ByteArray) (A : Option Addr) (n c : Nat) (b : List Int) (w : World) (_hau : au.size ≤ 140737488351232) (hR : BSl w A n c b) (hb : ∀ x ∈ b, 0 ≤ x ∧ x ≤ 255) (_hn : n ≤ 140737488351232) :
    Calls Try.prog 6 #[.string au, .slice A n c] w fun e w' => e = .returned (.bool true) ∧ Below w.heap.size w w' := by
  have HR := Lib.hid hR
  have Hb := Lib.hid hb
  clear hR hb
  go_enter Try.func6, Try.ntmps6
  go_wp2_with fail
  refine (awake18_calls w).mono ?_
  rintro e w1 ⟨rfl, hb1⟩
  have HB1 := Lib.hid hb1
  have hs1 := hb1.size
  clear hb1
  by_cases ha : au.size ≤ 1000
  · by_cases hn1 : n ≤ 1000
    · go_wp2_with fail
      refine (Get_calls au A n c b w1 (HR.out.below HB1.out) Hb.out (by omega)).mono ?_
      rintro e w2 ⟨hb2, T, p, f, v, hT, hTl, rfl, ho2⟩
      have HB2 := Lib.hid (below_seq HB1.out (Nat.le_refl _) hb2)
      have HT := Lib.hid hT
      obtain ⟨A2, c2, rfl, _, hr2, _⟩ := own_rdS ho2
      have Hr2 := Lib.hid hr2
      clear hb2 hT ho2 hr2
      obtain ⟨tl, htl⟩ : ∃ tl, tl = T.length := ⟨_, rfl⟩
      rw [← htl] at hTl Hr2 ⊢
      have Htl := Lib.hid htl
      clear htl
      go_wp2_with fail
      refine (rGet_calls au A n c b w2 (by omega) (HR.out.below HB2.out) Hb.out (by omega)).mono ?_
      rintro e w3 ⟨hb3, T3, p3, f3, v3, hT3, _, rfl, ho3⟩
      have HB3 := Lib.hid (below_seq HB2.out (Nat.le_refl _) hb3)
      obtain ⟨rfl, rfl, rfl⟩ := hT3.same HT.out
      have Hr23 := Lib.hid (Hr2.out.below hb3)
      obtain ⟨A3, c3, rfl, _, hr3, _⟩ := own_rdS ho3
      rw [← Htl.out] at hr3 ⊢
      have Hr3 := Lib.hid hr3
      clear hb3 hT3 ho3 hr3
      go_wp2_with fail
      refine (Same_calls A2 A3 tl c2 c3 T3 w3 Hr23.out Hr3.out hTl).mono ?_
      rintro e w4 ⟨rfl, hb4⟩
      have HB4 := Lib.hid (below_seq HB3.out (Nat.le_refl _) hb4)
      clear hb4
      go_wp2_with fail
      go_ret
      exact ⟨rfl, HB4.out⟩
    · go_wp2_with fail
      refine (awake18_calls _).mono ?_
      rintro e w2 ⟨rfl, hb2⟩
      have H2 := Lib.hid (below_seq HB1.out (Nat.le_refl _) hb2)
      clear hb2
      go_wp2
      go_ret
      exact ⟨rfl, H2.out⟩
  · go_wp2_with fail
    refine (awake18_calls _).mono ?_
    rintro e w2 ⟨rfl, hb2⟩
    have H2 := Lib.hid (below_seq HB1.out (Nat.le_refl _) hb2)
    clear hb2
    go_wp2
    go_ret
    exact ⟨rfl, H2.out⟩
theorem ActorsGets_walk (au : ByteArray) (A : Option Addr) (n c : Nat) (z : List Int) (w : World) (hau : au.size ≤ 140737488351232) (h : IsRow .u8 w A n c z) (y : n * 1 ≤ 140737488351232) :
    Calls Try.prog 6 #[.string au, .slice A n c] w fun e w' => e = .returned (.bool true) ∧ Below w.heap.size w w' := ActorsGets_calls au A n c (z.take n) w hau (isRow_bsl h).1 (isRow_bsl h).2 (by omega)
end Go.Proofs.Ytekhofnfikcpnaa
