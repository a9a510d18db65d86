/-
  Texts joined into one file: HeadT, HeadTimes.
-/
import Derived.Test.YtdbkbeojedndbaaJAw202
import Derived.Test.YtdbkbeojedndbaaJHeadG7
import Derived.Test.YtdbkbeojedndbaaJHeadG8
import Derived.Deep.RegionHeld3
import Derived.Test.YtdbkbeojedndbaaJHeadG9
/-
  The walks of op.Actor and of head.Right, of what may be. Printed by gen_headt.py.
-/
namespace Go.Proofs.Ytdbkbeojedndbaa
open Go.RowKit

theorem opActor_calls (s : ByteArray) (b : Nat) (w : World) (hs : 1 ≤ s.size ∧ s.size ≤ 16) (hc : w.cell? ⟨b, 0, none⟩ = some (.string s)) :
    Calls Try.prog 49 #[.slice (some ⟨b, 0, none⟩) 1 1] w fun e w' => e = .returned (.bool true) ∧ w' = w := by
  obtain ⟨h0, h1⟩ := hs
  go_enter Try.func49, Try.ntmps49
  go_wp2_with fail
  go_loopw [7] (fun i wr => ∃ k : Nat, k ≤ 1 ∧ i = .int .i64 k ∧ wr = w) (fun i _ => 1 - (intOf i).toNat)
  case atStart => exact ⟨0, by omega, rfl, rfl⟩
  case round =>
    obtain ⟨k, hk, rfl, hw⟩ := hrel
    obtain ⟨W, hW⟩ : ∃ W, W = wr := ⟨_, rfl⟩
    rw [← hW] at hw ⊢
    subst hw
    clear hW
    rcases (show k = 0 ∨ k = 1 by omega) with rfl | rfl
    · go_wp2_with fail
      go_roundw
      case rel => exact ⟨1, by omega, rfl, trivial⟩
      case measure => simp [intOf]
    · go_wp2_with fail
      go_ret
      exact ⟨rfl, rfl⟩
theorem depsRd {w : World} {A : Option Addr} {n c : Nat} {D : List (List Int)} (h : DepsAt w A n c D) {i : Nat} (hi : i < n) : ∃ b o, A = some ⟨b, o, none⟩ ∧ Rd w .u8 (some ⟨b, o + i * 32, none⟩) 32 (dep D i) := by
  obtain ⟨b, o, e, hc⟩ := h.at' (by omega)
  exact ⟨b, o, e, (h.hs _ (dep_mem (by rw [h.len]; exact hi))).1, fun _ => ⟨b, o + i * 32, rfl, fun j hj => hc i j hi hj⟩⟩
set_option maxHeartbeats 1000000 in
set_option maxRecDepth 100000 in
theorem hRight_calls (x : HdV) (A : Option Addr) (n c : Nat) (ov : Value) (w : World) (hov : ∃ O on oc, ov = .slice O on oc) (hr : HdRight x) (hD : DepsAt w A n c x.deps) (ht : I64 x.time) :
    Calls Try.prog 19 #[.agg (chgC2 x.actor x.seq x.start x.time x.msg (.slice A n c) ov)] w fun e w' => e = .returned (.bool true) ∧ Below w.heap.size w w' := by
  obtain ⟨O, on, oc, rfl⟩ := hov
  obtain ⟨hact, hsq, hst, hms, hutf, hfew, hup⟩ := hr
  obtain ⟨a, sq, st, tm, ms, D⟩ := x
  simp only at *
  have HD := Lib.hid hD
  have hn : n ≤ 16 := by rw [← hD.len]; exact hfew
  have Hup := Lib.hid (hchain_up D [] hup).2
  have hdu : decide (Utf ms) = true := decide_eq_true hutf
  have Hact := Lib.hid hact
  obtain ⟨hq0, hq1⟩ := hsq
  obtain ⟨ht0, ht1⟩ := hst
  unfold mostN at hq1 ht1
  have hq1' : (sq : Int) ≤ 9007199254740991 := by omega
  have ht1' : (st : Int) ≤ 9007199254740991 := by omega
  have hms2 : ms.size ≤ 140737488355328 := by omega
  clear hD hup hutf hact hfew
  go_enter Try.func19, Try.ntmps19
  have Ha1 : Hid (((w.alloc (.cells (chgC2 a sq st tm ms (.slice A n c) (.slice O on oc)) 27)).alloc (.cells #[.string a] 9)).cell? ⟨w.heap.size + 1, 0, none⟩ = some (.string a)) := Lib.hid (by
    simp)
  go_wp2_with fail
  refine (opActor_calls a (w.heap.size + 1) _ Hact.out Ha1.out).mono ?_
  rintro e1 w1 ⟨rfl, hw1⟩
  obtain ⟨W1, hW1⟩ : ∃ X, X = w1 := ⟨_, rfl⟩
  obtain ⟨bc, hbc⟩ : ∃ g, g = w.heap.size := ⟨_, rfl⟩
  have hb1 : Below w.heap.size w W1 := by rw [hW1, hw1]; exact ((Below.refl _ _).alloc (Nat.le_refl _) _).alloc (by simp) _
  have hrow : W1.heap[bc]? = some (.cells (chgC2 a sq st tm ms (.slice A n c) (.slice O on oc)) 27 (0, 0)) := by
    rw [hW1, hw1, hbc]
    exact (Below.heap_alloc _ _ _ (by simp)).trans (heap_alloc_new w _)
  rw [← hW1, ← hbc]
  have HB1 := Lib.hid hb1
  have HRow := Lib.hid hrow
  have c1 : W1.cell? ⟨bc, 1, none⟩ = some (.int .i64 sq) := cell_of_row W1 bc 1 _ _ (0, 0) hrow
  have c2 : W1.cell? ⟨bc, 2, none⟩ = some (.int .i64 st) := cell_of_row W1 bc 2 _ _ (0, 0) hrow
  have c4 : W1.cell? ⟨bc, 4, none⟩ = some (.string ms) := cell_of_row W1 bc 4 _ _ (0, 0) hrow
  clear hW1 hw1 hb1 hrow hbc Ha1
  have ca : (W1.alloc (.cells #[.string ms] 9)).cell? ⟨W1.heap.size, 0, none⟩ = some (.string ms) := news_at W1 #[.string ms] _ 0 _ rfl
  have Hca := Lib.hid ca
  have HB2 : Hid (Below w.heap.size w (W1.alloc (.cells #[.string ms] 9))) := Lib.hid (below_new HB1.out (Nat.le_refl _) _)
  have HRow2 : Hid ((W1.alloc (.cells #[.string ms] 9)).heap[bc]? = some (.cells (chgC2 a sq st tm ms (.slice A n c) (.slice O on oc)) 27 (0, 0))) := Lib.hid ((Below.heap_alloc _ _ _ (Array.getElem?_eq_some_iff.1 HRow.out).1).trans HRow.out)
  clear ca
  go_wp2_with fail
  refine (uValid_calls ms W1.heap.size _ hms2 Hca.out).mono ?_
  rw [hdu]
  rintro e2 w2 ⟨rfl, hw2⟩
  obtain ⟨W2, hW2⟩ : ∃ X, X = w2 := ⟨_, rfl⟩
  have HB3 : Hid (Below w.heap.size w W2) := Lib.hid (by rw [hW2, hw2]; exact HB2.out)
  have HRow3 : Hid (W2.heap[bc]? = some (.cells (chgC2 a sq st tm ms (.slice A n c) (.slice O on oc)) 27 (0, 0))) := Lib.hid (by rw [hW2, hw2]; exact HRow2.out)
  rw [← hW2]
  clear hW2 hw2 c1 c2 c4
  have c5 : W2.cell? ⟨bc, 5, none⟩ = some (.slice A n c) := cell_of_row W2 bc 5 _ _ (0, 0) HRow3.out
  go_wp2_with fail
  go_loopw [3] (fun i wr => ∃ k : Nat, k ≤ n + 1 ∧ 1 ≤ k ∧ i = .int .i64 k ∧ Hid (Below W2.heap.size W2 wr)) (fun i _ => n + 1 - (intOf i).toNat)
  case atStart => exact ⟨1, by omega, by omega, rfl, Below.refl _ _⟩
  case round =>
    obtain ⟨k, hk, hk1, rfl, HBr⟩ := hrel
    obtain ⟨Wk, hWk⟩ : ∃ W, W = wr := ⟨_, rfl⟩
    subst hWk
    have c5k := kept_cell HBr.out c5
    by_cases hlt : k < n
    · obtain ⟨j, hj⟩ : ∃ j, k = j + 1 := ⟨k - 1, by omega⟩
      subst hj
      have HDk := Lib.hid ((HD.out.below HB3.out).below HBr.out)
      obtain ⟨b, o, eA, hr0⟩ := depsRd HDk.out (i := j) (by omega)
      obtain ⟨b', o', eA', hr1⟩ := depsRd HDk.out (i := j + 1) hlt
      rw [eA] at eA'
      cases eA'
      subst eA
      have Hr0 := Lib.hid (hr0.below (Below.refl _ _).drew)
      have Hr1 := Lib.hid (hr1.below (Below.refl _ _).drew)
      have Hlt := Lib.hid (Hup.out j (by simp) (by omega) (by simp only [List.nil_append]; rw [HD.out.len]; exact hlt) (.inr (by omega)))
      simp only [List.nil_append] at Hlt
      have Hm0 := Lib.hid (HD.out.hs _ (dep_mem (D := D) (k := j) (by rw [HD.out.len]; omega))).2
      have Hm1 := Lib.hid (HD.out.hs _ (dep_mem (D := D) (k := j + 1) (by rw [HD.out.len]; exact hlt))).2
      have hj1 : ((j + 1 : Nat) : Int) - 1 = (j : Int) := by omega
      have hj2 : (j : Int) + 1 - 1 = (j : Int) := by omega
      have hj3 : IntKind.i64.wrap (j : Int) = (j : Int) := i64_id ⟨by omega, by omega⟩
      have hj5 : (j : Int) < (n : Int) := by omega
      have hj6 : (j : Int) + 1 < (n : Int) := by omega
      have hj7 : (0 : Int) ≤ (j : Int) + 1 := by omega
      clear hr0 hr1 hk1
      go_upto_region 6 with fail
      refine wp_region_noPanic ?_
      refine wp_region_held_drew (S := fun W' => W'.cell? ⟨bc, 5, none⟩ = some (.slice (some ⟨b, o, none⟩) n c)) (by kernel_rfl) (c5k) (fun hHeld => ?_)
      refine' wpAnyH_take (i := 0) (oi := ⟨_, _, _, _, _, _⟩) (v := _) rfl (by kernel_rfl) (by kernel_rfl) (by kernel_rfl) (fun _ _ _ h => h) (Or.inl ⟨by rfl, ?hya0⟩) (by assumption) ?resta0
      case hya0 => (intro w hSw; (try dsimp only at hSw); go_simp; try with_reducible rfl)
      try simp only [Act.put, List.setIfInBounds_toArray, List.set_cons_zero, List.set_cons_succ]
      refine' wpAnyH_take (i := 1) (oi := ⟨_, _, _, _, _, _⟩) (v := _) rfl (by kernel_rfl) (by kernel_rfl) (by kernel_rfl) (fun _ _ _ h => h) (Or.inl ⟨by rfl, ?hya1⟩) (by assumption) ?resta1
      case hya1 => (intro w hSw; (try dsimp only at hSw); go_simp; try with_reducible rfl)
      try simp only [Act.put, List.setIfInBounds_toArray, List.set_cons_zero, List.set_cons_succ]
      refine' wpAnyH_take (i := 2) (oi := ⟨_, _, _, _, _, _⟩) (v := _) rfl (by kernel_rfl) (by kernel_rfl) (by kernel_rfl) (fun _ _ _ h => h) (Or.inl ⟨by rfl, ?hya2⟩) (by assumption) ?resta2
      case hya2 => (intro w hSw; (try dsimp only at hSw); go_simp; try with_reducible rfl)
      try simp only [Act.put, List.setIfInBounds_toArray, List.set_cons_zero, List.set_cons_succ]
      refine' wpAnyH_take (i := 3) (oi := ⟨_, _, _, _, _, _⟩) (v := _) rfl (by kernel_rfl) (by kernel_rfl) (by kernel_rfl) (fun _ _ _ h => h) (Or.inl ⟨by rfl, ?hya3⟩) (by assumption) ?resta3
      case hya3 => (intro w hSw; (try dsimp only at hSw); go_simp; try with_reducible rfl)
      try simp only [Act.put, List.setIfInBounds_toArray, List.set_cons_zero, List.set_cons_succ]
      refine' wpAnyH_take (i := 4) (oi := ⟨_, _, _, _, _, _⟩) (v := _) rfl (by kernel_rfl) (by kernel_rfl) (by kernel_rfl) (fun _ _ _ h => h) (Or.inl ⟨by rfl, ?hya4⟩) (by assumption) ?resta4
      case hya4 => (intro w hSw; (try dsimp only at hSw); go_simp; try with_reducible rfl)
      try simp only [Act.put, List.setIfInBounds_toArray, List.set_cons_zero, List.set_cons_succ]
      refine' wpAnyH_take (i := 5) (oi := ⟨_, _, _, _, _, _⟩) (v := _) rfl (by kernel_rfl) (by kernel_rfl) (by kernel_rfl) (fun _ _ _ h => h) (Or.inl ⟨by rfl, ?hya5⟩) (by assumption) ?resta5
      case hya5 => (intro w hSw; (try dsimp only at hSw); go_simp; try with_reducible rfl)
      try simp only [Act.put, List.setIfInBounds_toArray, List.set_cons_zero, List.set_cons_succ]
      refine' wpAnyH_take (i := 6) (oi := ⟨_, _, _, _, _, _⟩) (v := _) rfl (by kernel_rfl) (by kernel_rfl) (by kernel_rfl) (fun _ _ _ h => h) (Or.inl ⟨by rfl, ?hya6⟩) (by assumption) ?resta6
      case hya6 => (intro w hSw; (try dsimp only at hSw); go_simp; try with_reducible rfl)
      try simp only [Act.put, List.setIfInBounds_toArray, List.set_cons_zero, List.set_cons_succ]
      refine' wpAnyH_take (i := 7) (oi := ⟨_, _, _, _, _, _⟩) (v := _) rfl (by kernel_rfl) (by kernel_rfl) (by kernel_rfl) (fun _ _ _ h => h) (Or.inl ⟨by rfl, ?hya7⟩) (by assumption) ?resta7
      case hya7 => (intro w hSw; (try dsimp only at hSw); go_simp; try with_reducible rfl)
      try simp only [Act.put, List.setIfInBounds_toArray, List.set_cons_zero, List.set_cons_succ]
      refine' wpAnyH_take (i := 8) (oi := ⟨_, _, _, _, _, _⟩) (v := _) rfl (by kernel_rfl) (by kernel_rfl) (by kernel_rfl) (fun _ _ _ h => h) (Or.inl ⟨by rfl, ?hya8⟩) (by assumption) ?resta8
      case hya8 => (intro w hSw; (try dsimp only at hSw); go_simp; try with_reducible rfl)
      try simp only [Act.put, List.setIfInBounds_toArray, List.set_cons_zero, List.set_cons_succ]
      refine' wpAnyH_take (i := 9) (oi := ⟨_, _, _, _, _, _⟩) (v := _) rfl (by kernel_rfl) (by kernel_rfl) (by kernel_rfl) (fun _ _ _ h => h) (Or.inl ⟨by rfl, ?hya9⟩) (by assumption) ?resta9
      case hya9 => (intro w hSw; (try dsimp only at hSw); go_simp; try with_reducible rfl)
      try simp only [Act.put, List.setIfInBounds_toArray, List.set_cons_zero, List.set_cons_succ]
      refine' wpAnyH_take (i := 10) (oi := ⟨_, _, _, _, _, _⟩) (v := _) rfl (by kernel_rfl) (by kernel_rfl) (by kernel_rfl) (fun _ _ _ h => h) (Or.inl ⟨by rfl, ?hya10⟩) (by assumption) ?resta10
      case hya10 => (intro w hSw; (try dsimp only at hSw); go_simp; try with_reducible rfl)
      try simp only [Act.put, List.setIfInBounds_toArray, List.set_cons_zero, List.set_cons_succ]
      refine wpAnyH_ready (rs := [11]) (by kernel_rfl) (by simp) ?_
      refine AllReadyH.cons (o := ⟨_, _, _, _, _, _⟩) rfl (fun K hK => ?_) AllReadyH.nil
      go_simp
      go_at_call 28
      refine (cmp_calls (some ⟨b, o + j * 32, none⟩) (some ⟨b, o + (j + 1) * 32, none⟩) 32 32 32 32 (dep D j) (dep D (j + 1)) Wk.drew Hr0.out Hr1.out Hm0.out Hm1.out).mono ?_
      rintro e9 w9 ⟨r, rfl, Hr, hr0, hr1, rfl⟩
      have hrn : r < 0 := Hr.out.1.2 Hlt.out
      have hrd : decide (0 ≤ r) = false := decide_eq_false (by omega)
      refine hK.out _ _ (c5k) (fun hHeldN => ?_)
      clear hK K hHeld
      have hHeld := hHeldN
      clear hHeldN
      try simp only [Act.put, List.setIfInBounds_toArray, List.set_cons_zero, List.set_cons_succ]
      refine' wpAnyH_take (i := 12) (oi := ⟨_, _, _, _, _, _⟩) (v := _) rfl (by kernel_rfl) (by kernel_rfl) (by kernel_rfl) (fun _ _ _ h => h) (Or.inl ⟨by rfl, ?hyb12⟩) (by assumption) ?restb12
      case hyb12 => (intro w hSw; (try dsimp only at hSw); go_simp; try with_reducible rfl)
      try simp only [Act.put, List.setIfInBounds_toArray, List.set_cons_zero, List.set_cons_succ]
      refine wpAnyH_done (by kernel_rfl) ?_ _
      refine NoPanic.normal ?_
      clear hHeld
      go_wp2_with fail
      go_roundw
      case rel => exact ⟨j + 1 + 1, by omega, by omega, by go_num, Lib.hid HBr.out.drew⟩
      case measure => simp [intOf]; omega
    · go_wp2_with fail
      go_ret
      exact ⟨rfl, HB3.out.trans (HBr.out.mono HB3.out.size)⟩
end Go.Proofs.Ytdbkbeojedndbaa
/-
  The walk of the law HeadTimes.
-/
namespace Go.Proofs.Ytdbkbeojedndbaa
open Go.RowKit

set_option maxHeartbeats 4000000 in
set_option maxRecDepth 100000 in
theorem HeadTimes_walk (t sq st : Int) (w : World) (ht : (Lit.int .i64 t).wf = true) (hsq : (Lit.int .u64 sq).wf = true) (hst : (Lit.int .u64 st).wf = true) :
    Calls Try.prog 6 #[.int .i64 t, .int .u64 sq, .int .u64 st] w fun e w' => e = .returned (.bool true) ∧ Below w.heap.size w w' := by
  have Ht := Lib.hid (i64_wf ht)
  obtain ⟨hs0, hs1⟩ := u64_wf hsq
  obtain ⟨ht0, ht1⟩ := u64_wf hst
  obtain ⟨ti0, ti1⟩ := i64_wf ht
  obtain ⟨m, rfl⟩ : ∃ m : Nat, sq = m := ⟨sq.toNat, by omega⟩
  obtain ⟨k, rfl⟩ : ∃ m : Nat, st = m := ⟨st.toNat, by omega⟩
  clear ht hsq hst hs0 ht0
  go_enter Try.func6, Try.ntmps6
  go_wp2_with fail
  refine (awake20_calls w).mono ?_
  rintro e w1 ⟨rfl, hb1⟩
  have HB1 := Lib.hid hb1
  have hs1' := hb1.size
  clear hb1
  go_wp2_with fail
  obtain ⟨s, hs⟩ : ∃ s : Nat, s = 1 + m % 9007199254740991 := ⟨_, rfl⟩
  obtain ⟨r, hr⟩ : ∃ s : Nat, s = 1 + k % 9007199254740991 := ⟨_, rfl⟩
  rw [show (1 : Int) + (m : Int) % 9007199254740991 = (s : Int) by omega, show (1 : Int) + (k : Int) % 9007199254740991 = (r : Int) by omega]
  have hs9 : 1 ≤ s ∧ s ≤ 9007199254740991 := by omega
  have hr9 : 1 ≤ r ∧ r ≤ 9007199254740991 := by omega
  clear hs hr
  have Hb0 : Hid (Below w.heap.size w (w1.alloc (.cells #[.string ⟨#[97]⟩, .int .i64 s, .int .i64 r, .int .i64 t, .string ⟨#[]⟩, .slice none 0 0, .slice none 0 0] 27))) := Lib.hid (below_new HB1.out (Nat.le_refl _) _)
  have Hrow : Hid ((w1.alloc (.cells #[.string ⟨#[97]⟩, .int .i64 s, .int .i64 r, .int .i64 t, .string ⟨#[]⟩, .slice none 0 0, .slice none 0 0] 27)).heap[w1.heap.size]? = some (.cells #[.string ⟨#[97]⟩, .int .i64 s, .int .i64 r, .int .i64 t, .string ⟨#[]⟩, .slice none 0 0, .slice none 0 0] 27 (0, 0))) := Lib.hid (heap_alloc_new w1 _)
  obtain ⟨W2, hW2⟩ : ∃ X, X = w1.alloc (.cells #[.string ⟨#[97]⟩, .int .i64 s, .int .i64 r, .int .i64 t, .string ⟨#[]⟩, .slice none 0 0, .slice none 0 0] 27) := ⟨_, rfl⟩
  obtain ⟨g, hg⟩ : ∃ g, g = w1.heap.size := ⟨_, rfl⟩
  rw [← hW2] at Hb0 Hrow ⊢
  rw [← hg] at Hrow ⊢
  clear hW2 hg
  refine (hPut_calls ⟨#[97]⟩ s r t ⟨#[]⟩ none 0 0 [] none 0 0 [] W2 (by decide) (by decide) hs9.2 hr9.2 Ht.out (deps_nil W2) (by decide) (ops_nil W2) (by decide) (fun i hi => by omega)).mono ?_
  rintro e w3 ⟨v, T, rfl, hT, ho, hb3⟩
  obtain rfl := table_nil hT
  obtain ⟨x, hx⟩ : ∃ x : HdV, x = ⟨⟨#[97]⟩, s, r, t, ⟨#[]⟩, []⟩ := ⟨_, rfl⟩
  rw [← hx] at ho
  have hright : HdRight x := by
    rw [hx]
    exact ⟨⟨by dsimp only; decide, by dsimp only; decide⟩, hs9, hr9, by dsimp only; decide, by dsimp only; unfold Utf; rw [uWhere]; rfl, by dsimp only; decide, trivial⟩
  have hp := headE_puts (t := []) hright (by rw [hx]; exact Ht.out) trivial (by decide)
  have hful := hp.full [] []
  have ha9 : x.actor = ⟨#[97]⟩ := by rw [hx]
  rw [ha9, List.nil_append, List.append_nil, List.length_nil, Nat.zero_add] at hful
  have hlen := headB_len (x := x) (T := [⟨#[97]⟩]) (by rw [hx]; dsimp only; decide) (by rw [hx]; exact hs9.2) (by rw [hx]; exact hr9.2) (by rw [hx]; exact Ht.out) (by rw [hx]; dsimp only; decide) (by rw [hx]; dsimp only; decide) (by rw [hx]; intro d hd; cases hd)
  have hpt : (putT [⟨#[97]⟩]).length = 1 := by
    have : putT [⟨#[97]⟩] = lebU 0 ++ [] := rfl
    rw [this, lebU_last (by decide)]; rfl
  have hby := headB_byte (x := x) (T := [⟨#[97]⟩]) (by rw [hx]; intro d hd; cases hd)
  obtain ⟨b, hbb⟩ : ∃ b, b = headB x [⟨#[97]⟩] := ⟨_, rfl⟩
  rw [← hbb] at ho hful hlen hby
  obtain ⟨n, hn⟩ : ∃ n, n = b.length := ⟨_, rfl⟩
  rw [← hn] at ho hful hlen
  have hn9 : n ≤ 100000 := by omega
  obtain ⟨A, c, rfl, hcap, hrd⟩ := own_rd ho
  have Hful := Lib.hid hful
  have Hby := Lib.hid hby
  have HX := Lib.hid hx
  have Hri := Lib.hid hright
  have HBS : Hid (BSl w3 A n c b) := Lib.hid ⟨hrd, own_none ho, hcap⟩
  have HAo : Hid (0 < n → ∀ b1 o1, A = some ⟨b1, o1, none⟩ → b1 < w3.heap.size) := Lib.hid (fun _ b1 o1 e => (ho.lt b1 (by rw [e]; rfl)).2)
  have HB3 := Lib.hid (below_seq Hb0.out (Nat.le_refl _) hb3)
  have Hrow3 := Lib.hid ((hb3.block g (Array.getElem?_eq_some_iff.1 Hrow.out).1).trans Hrow.out)
  clear ho hful hby hx hright hrd hp hb3 hT hbb hn hlen hpt ha9
  go_wp2_with fail
  refine (hGet_calls A n c b w3 HBS.out Hby.out hn9 HAo.out).mono ?_
  rintro e w4 ⟨hb4, ⟨f, hf, _⟩ | ⟨x', T', q, dv, tv, hE, rfl, hod, _, hot, _⟩⟩
  · rw [Hful.out] at hf; cases hf
  · rw [Hful.out] at hE
    simp only [Except.ok.injEq, Prod.mk.injEq] at hE
    obtain ⟨⟨rfl, rfl⟩, rfl⟩ := hE
    rw [HX.out] at hod ⊢
    obtain ⟨Ad, cd, rfl⟩ := own_slice hod
    obtain ⟨At, ct, rfl⟩ := own_slice hot
    have HB4 := Lib.hid (below_seq HB3.out (Nat.le_refl _) hb4)
    have Hrow4 := Lib.hid ((hb4.block g (Array.getElem?_eq_some_iff.1 Hrow3.out).1).trans Hrow3.out)
    clear hod hot hb4
    go_upto_region 6 with fail
    obtain ⟨W5, hW5⟩ : ∃ X, X = w4.alloc (.cells #[.string ⟨#[97]⟩, .int .i64 s, .int .i64 r, .int .i64 t, .string ⟨#[]⟩, .slice Ad 0 cd, .slice none 0 0] 27) := ⟨_, rfl⟩
    obtain ⟨g9, hg9⟩ : ∃ g, g = w4.heap.size := ⟨_, rfl⟩
    have hrow5 : W5.heap[g]? = some (.cells #[.string ⟨#[97]⟩, .int .i64 s, .int .i64 r, .int .i64 t, .string ⟨#[]⟩, .slice none 0 0, .slice none 0 0] 27 (0, 0)) := by rw [hW5]; exact (Below.heap_alloc _ _ _ (Array.getElem?_eq_some_iff.1 Hrow4.out).1).trans Hrow4.out
    have hrow9 : W5.heap[g9]? = some (.cells #[.string ⟨#[97]⟩, .int .i64 s, .int .i64 r, .int .i64 t, .string ⟨#[]⟩, .slice Ad 0 cd, .slice none 0 0] 27 (0, 0)) := by rw [hW5, hg9]; exact heap_alloc_new w4 _
    have HB5 : Hid (Below w.heap.size w W5) := Lib.hid (by rw [hW5]; exact below_new HB4.out (Nat.le_refl _) _)
    rw [← hW5, ← hg9]
    clear hW5 hg9
    have c0 : W5.cell? ⟨g, 0, none⟩ = some (.string ⟨#[97]⟩) := cell_of_row W5 g 0 _ _ (0, 0) hrow5
    have c1 : W5.cell? ⟨g, 1, none⟩ = some (.int .i64 s) := cell_of_row W5 g 1 _ _ (0, 0) hrow5
    have c2 : W5.cell? ⟨g, 2, none⟩ = some (.int .i64 r) := cell_of_row W5 g 2 _ _ (0, 0) hrow5
    have c3 : W5.cell? ⟨g, 3, none⟩ = some (.int .i64 t) := cell_of_row W5 g 3 _ _ (0, 0) hrow5
    have c4 : W5.cell? ⟨g, 4, none⟩ = some (.string ⟨#[]⟩) := cell_of_row W5 g 4 _ _ (0, 0) hrow5
    have c5 : W5.cell? ⟨g, 5, none⟩ = some (.slice none 0 0) := cell_of_row W5 g 5 _ _ (0, 0) hrow5
    have c6 : W5.cell? ⟨g, 6, none⟩ = some (.slice none 0 0) := cell_of_row W5 g 6 _ _ (0, 0) hrow5
    have d1 : W5.cell? ⟨g9, 1, none⟩ = some (.int .i64 s) := cell_of_row W5 g9 1 _ _ (0, 0) hrow9
    have d2 : W5.cell? ⟨g9, 2, none⟩ = some (.int .i64 r) := cell_of_row W5 g9 2 _ _ (0, 0) hrow9
    have d3 : W5.cell? ⟨g9, 3, none⟩ = some (.int .i64 t) := cell_of_row W5 g9 3 _ _ (0, 0) hrow9
    clear hrow5 hrow9
    go_wp2_with fail
    have Hrc := Lib.hid (hRight_calls x none 0 0 (.slice none 0 0) W5 ⟨none, 0, 0, rfl⟩ Hri.out (by rw [HX.out]; exact deps_nil W5) (by rw [HX.out]; exact Ht.out))
    rw [HX.out] at Hrc
    refine Hrc.out.mono ?_
    rintro e w6 ⟨rfl, hb6⟩
    have HB6 := Lib.hid (below_seq HB5.out (Nat.le_refl _) hb6)
    have k1 := kept_cell hb6 c1
    have k2 := kept_cell hb6 c2
    have l1 := kept_cell hb6 d1
    have l2 := kept_cell hb6 d2
    have l3 := kept_cell hb6 d3
    clear c0 c1 c2 c3 c4 c5 c6 d1 d2 d3 hb6
    go_wp2_with fail
    go_ret
    exact ⟨rfl, HB6.out⟩
end Go.Proofs.Ytdbkbeojedndbaa
