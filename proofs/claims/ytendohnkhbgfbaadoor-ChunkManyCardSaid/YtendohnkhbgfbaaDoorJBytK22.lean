/-
  Texts joined into one file: InfD, InfE, InfF, InfG.
-/
import Derived.Test.YtendohnkhbgfbaaDoorJBytK21
/-
  A block in codes of its own is told again (no program).
-/
namespace Go.Proofs.YtendohnkhbgfbaaDoor
open Go.RowKit

/-- Nothing but 0s stands behind. -/
def ZeroFrom (xs : List Int) (n : Nat) : Prop := ∀ i, n ≤ i → rd xs i = 0
theorem zero_tail {xs : List Int} {n : Nat} (h : ZeroFrom xs n) : ∀ x ∈ xs.drop n, x = 0 := by
  intro x hx
  obtain ⟨j, hj, rfl⟩ := List.mem_iff_getElem.1 hx
  rw [List.length_drop] at hj
  have := h (n + j) (by omega)
  rw [rd_getElem (by omega)] at this
  rw [List.getElem_drop]
  exact this
theorem filt_trim {xs : List Int} {n v : Nat} (h : ZeroFrom xs n) (hv : 0 < v) : ((xs.take n).filter fun x => x == (v : Int)).length = (xs.filter fun x => x == (v : Int)).length := by
  have e : xs.filter (fun x => x == (v : Int)) = (xs.take n).filter (fun x => x == (v : Int)) ++ (xs.drop n).filter (fun x => x == (v : Int)) := by rw [← List.filter_append, List.take_append_drop]
  have e2 : (xs.drop n).filter (fun x => x == (v : Int)) = [] := by
    rw [List.filter_eq_nil_iff]
    intro x hx
    rw [zero_tail h x hx]
    simp
    omega
  rw [e, e2, List.append_nil]
theorem cnt_trim {xs : List Int} {n : Nat} (h : ZeroFrom xs n) : cntOf (xs.take n) = cntOf xs := by
  unfold cntOf
  apply List.ext_getElem (by simp [cntTo])
  intro i h1 h2
  rw [List.getElem_set, List.getElem_set]
  split
  · rfl
  · rename_i hi
    unfold cntTo
    simp only [List.getElem_map, List.getElem_range]
    rw [List.take_length, List.take_length, filt_trim h (by omega)]
theorem code_trim {xs : List Int} {n s : Nat} (h : ZeroFrom xs n) (hs : s < n) : codeAt (xs.take n) s = codeAt xs s := by
  unfold codeAt nextCode before
  rw [take_rd hs, cnt_trim h, List.take_take, Nat.min_eq_left (by omega)]
theorem right_trim {xs : List Int} {n : Nat} (h : ZeroFrom xs n) : rightB (xs.take n) = rightB xs := by
  unfold rightB
  rw [cnt_trim h]
  have e : lensOk (xs.take n) = lensOk xs := by
    unfold lensOk
    have e2 : xs.all (fun x => decide (0 ≤ x ∧ x ≤ 15)) = ((xs.take n).all (fun x => decide (0 ≤ x ∧ x ≤ 15)) && (xs.drop n).all (fun x => decide (0 ≤ x ∧ x ≤ 15))) := by rw [← List.all_append, List.take_append_drop]
    have e3 : (xs.drop n).all (fun x => decide (0 ≤ x ∧ x ≤ 15)) = true := List.all_eq_true.2 (fun x hx => by rw [zero_tail h x hx]; decide)
    rw [e2, e3, Bool.and_true]
  rw [e]
theorem cod_trim {xs : List Int} {n s : Nat} (h : ZeroFrom xs n) (hc : Cod xs s) : s < n ∧ Cod (xs.take n) s := by
  have hs : s < n := by
    rcases Nat.lt_or_ge s n with g | g
    · exact g
    · have := h s g
      have := hc.2.1
      omega
  exact ⟨hs, by rw [List.length_take]; have := hc.1; omega, by rw [take_rd hs]; exact hc.2.1, by rw [take_rd hs]; exact hc.2.2⟩
theorem sym_trim {xs : List Int} {n s : Nat} (h : ZeroFrom xs n) (hc : Cod xs s) : symCode (xs.take n) s = symCode xs s := by
  have h1 := cod_trim h hc
  unfold symCode
  rw [rd_codesOf _ s h1.2.1, rd_codesOf _ s hc.1, code_trim h h1.1, take_rd h1.1]
theorem tokC_trim {xs ys : List Int} {n m : Nat} (hx : ZeroFrom xs n) (hy : ZeroFrom ys m) {t : Int × Int × Int} (h : TokC xs ys t) : TokC (xs.take n) (ys.take m) t :=
  ⟨fun h0 => (cod_trim hx (h.1 h0)).2, fun h0 => ⟨by rw [right_trim hy]; exact (h.2 h0).1, (cod_trim hx (h.2 h0).2.1).2, (cod_trim hy (h.2 h0).2.2).2⟩⟩
theorem tok_trim {xs ys : List Int} {n m : Nat} (hx : ZeroFrom xs n) (hy : ZeroFrom ys m) {t : Int × Int × Int} (h : TokC xs ys t) : tokBits (xs.take n) (ys.take m) t = tokBits xs ys t := by
  unfold tokBits
  by_cases h0 : t.2.1 = 0
  · rw [if_pos h0, if_pos h0, sym_trim hx (h.1 h0)]
  · rw [if_neg h0, if_neg h0, sym_trim hx (h.2 h0).2.1, sym_trim hy (h.2 h0).2.2]
theorem toks_trim {xs ys : List Int} {n m : Nat} (hx : ZeroFrom xs n) (hy : ZeroFrom ys m) {ts : List Tok} (h : ∀ t ∈ ts, TokC xs ys t) (hend : Cod xs 256) : toksS (xs.take n) (ys.take m) ts = toksS xs ys ts := by
  unfold toksS
  rw [sym_trim hx hend]
  congr 1
  induction ts with
  | nil => rfl
  | cons t ts ih => rw [List.flatMap_cons, List.flatMap_cons, tok_trim hx hy (h t (List.mem_cons_self ..)), ih (fun u hu => h u (List.mem_cons_of_mem _ hu))]
theorem tn_zero {l : List Int} {least d : Nat} (h : l.length = least + d) : ZeroFrom l (tn l least d) := fun i hi => by
  rcases Nat.lt_or_ge i (least + d) with g | g
  · exact tn_out l least d i hi g
  · exact rd_out (by omega)
theorem lens_pos {ws : List Int} (h0 : ∀ x ∈ ws, 0 ≤ x) (hl : ws.length ≤ 300) {s : Nat} (hs : s < ws.length) : (0 < rd (lensOf 15 ws) s ↔ 0 < rd ws s) := by
  obtain ⟨wt, e1, e2, e3, e4⟩ := lensOf_is (m := 15) (ws := ws) (by omega) h0 (Nat.le_trans (posTo_le _ _) (Nat.le_trans hl (by decide)))
  rw [e1]
  exact (onceM_pos wt s (by rw [e2]; exact hs)).2.trans (e3 s)
theorem lens_right {ws : List Int} (h0 : ∀ x ∈ ws, 0 ≤ x) (hl : ws.length ≤ 300) {s : Nat} (hs : s < ws.length) (hp : 0 < rd ws s) : rightB (lensOf 15 ws) = true := by
  obtain ⟨wt, e1, e2, e3, e4⟩ := lensOf_is (m := 15) (ws := ws) (by omega) h0 (Nat.le_trans (posTo_le _ _) (Nat.le_trans hl (by decide)))
  rw [e1]
  refine rightB_once wt ?_ (fun x hx => by have := e4 x hx; omega)
  exact List.length_pos_of_mem (mem_posTo.2 ⟨by rw [e2]; exact hs, (e3 s).2 hp⟩)
theorem rd_wtsA (ts : List Tok) {j : Nat} (h : j < 286) : rd (wtsA ts) j = cntA ts j + if 256 = j then 1 else 0 := by unfold wtsA; rw [rd_map_range _ h]
theorem rd_wtsD (ts : List Tok) {j : Nat} (h : j < 30) : rd (wtsD ts) j = cntD ts j := by unfold wtsD; rw [rd_map_range _ h]
theorem cntA_hit {ts : List Tok} {t : Tok} (h : t ∈ ts) {j : Nat} (hj : symA t.2.1 t.1 = j) : 0 < cntA ts j := by
  unfold cntA
  have hm : t ∈ ts.filter (fun t => decide (symA t.2.1 t.1 = (j : Int))) := List.mem_filter.2 ⟨h, decide_eq_true hj⟩
  have := List.length_pos_of_mem hm
  omega
theorem cntD_hit {ts : List Tok} {t : Tok} (h : t ∈ ts) {j : Nat} (h0 : t.2.1 ≠ 0) (hj : symS 0 dists t.2.2 = j) : 0 < cntD ts j := by
  unfold cntD
  have hm : t ∈ ts.filter (fun t => decide (t.2.1 ≠ 0 ∧ symS 0 dists t.2.2 = (j : Int))) := List.mem_filter.2 ⟨h, decide_eq_true ⟨h0, hj⟩⟩
  have := List.length_pos_of_mem hm
  omega
theorem cod_lenA {ts : List Tok} {j : Nat} (h : j < 286) (hp : 0 < rd (wtsA ts) j) : Cod (lenA ts) j :=
  ⟨by rw [lenA_length]; exact h, (lens_pos (fun x hx => (wtsA_mem x hx).1) (by rw [wtsA_length]; decide) (by rw [wtsA_length]; exact h)).2 hp, (lenA_rng ts j).2⟩
theorem cod_lenD {ts : List Tok} {j : Nat} (h : j < 30) (hp : 0 < rd (wtsD ts) j) : Cod (lenD ts) j :=
  ⟨by rw [lenD_length]; exact h, (lens_pos (fun x hx => (wtsD_mem x hx).1) (by rw [wtsD_length]; decide) (by rw [wtsD_length]; exact h)).2 hp, (lenD_rng ts j).2⟩
theorem end_lenA (ts : List Tok) : Cod (lenA ts) 256 := cod_lenA (by decide) (by rw [rd_wtsA ts (by decide), if_pos rfl]; have := (cntA_rng ts 256).1; omega)
theorem right_lenA (ts : List Tok) : rightB (lenA ts) = true := lens_right (s := 256) (fun x hx => (wtsA_mem x hx).1) (by rw [wtsA_length]; decide) (by rw [wtsA_length]; decide) (by rw [rd_wtsA ts (by decide), if_pos rfl]; have := (cntA_rng ts 256).1; omega)
theorem tok_dyn {b : List Int} (hb : ∀ j, j < b.length → 0 ≤ rd b j ∧ rd b j ≤ 255) : ∀ t ∈ pressL b, TokC (lenA (pressL b)) (lenD (pressL b)) t := by
  intro t ht
  rcases press_cases hb ht with ⟨h1, h2, h3, h4⟩ | ⟨h1, h2, h3, h4, h5⟩
  · refine ⟨fun _ => cod_lenA (by omega) ?_, fun h => absurd h1 h⟩
    have h9 := cntA_hit ht (j := t.1.toNat) (by unfold symA; rw [if_pos h1]; omega)
    rw [rd_wtsA _ (by omega)]
    split <;> omega
  · have r1 := symL_range t.2.1 h2 h3
    have r2 := symD_range t.2.2 h4 h5
    have h9 := cntA_hit ht (j := (symS 257 lens t.2.1).toNat) (by unfold symA; rw [if_neg (by omega)]; omega)
    have h8 := cntD_hit ht (j := (symS 0 dists t.2.2).toNat) (by omega) (by omega)
    refine ⟨fun h => by omega, fun _ => ⟨lens_right (s := (symS 0 dists t.2.2).toNat) (fun x hx => (wtsD_mem x hx).1) (by rw [wtsD_length]; decide) (by rw [wtsD_length]; omega) (by rw [rd_wtsD _ (by omega)]; exact h8), cod_lenA (by omega) ?_, cod_lenD (by omega) (by rw [rd_wtsD _ (by omega)]; exact h8)⟩⟩
    rw [rd_wtsA _ (by omega)]
    split <;> omega
theorem right_lenD (ts : List Tok) : rightB (lenD ts) = true ∨ (lenD ts).any (fun y => y != 0) = false := by
  by_cases h : ∃ s, s < 30 ∧ 0 < rd (wtsD ts) s
  · obtain ⟨s, hs, hp⟩ := h
    exact Or.inl (lens_right (s := s) (fun x hx => (wtsD_mem x hx).1) (by rw [wtsD_length]; decide) (by rw [wtsD_length]; exact hs) hp)
  · refine Or.inr (List.any_eq_false.2 (fun y hy => ?_))
    obtain ⟨j, hj, rfl⟩ := List.mem_iff_getElem.1 hy
    rw [lenD_length] at hj
    have h1 := (lens_pos (ws := wtsD ts) (fun x hx => (wtsD_mem x hx).1) (by rw [wtsD_length]; decide) (s := j) (by rw [wtsD_length]; exact hj))
    have h2 := (lenD_rng ts j).1
    have h3 : ¬ 0 < rd (lenD ts) j := fun g => h ⟨j, hj, h1.1 g⟩
    rw [rd_getElem (by rw [lenD_length]; exact hj)] at h2 h3
    simp
    omega
theorem any_trim {ys : List Int} {m : Nat} (h : ys.any (fun y => y != 0) = false) : (ys.take m).any (fun y => y != 0) = false :=
  List.any_eq_false.2 (fun y hy => List.any_eq_false.1 h y (List.mem_of_mem_take hy))
theorem dynS_bits (b : List Int) : Bit01 (dynS b) := by
  have hl : ∀ (vs : List Int) (n m : Nat), Bit01 (lows vs n m) := by
    intro vs n m x hx
    obtain ⟨j, _, h⟩ := List.mem_flatMap.1 hx
    exact lowOf_bit _ _ x h
  have hi : ∀ (ls : List Int) (its : List Item) (k : Nat), Bit01 (bitsIt ls its k) := by
    intro ls its k x hx
    obtain ⟨j, _, h⟩ := List.mem_flatMap.1 hx
    exact ((hiOf_bit _ _).app (lowOf_bit _ _)) x h
  have hp : Bit01 (putS (lenA (pressL b)) (lenD (pressL b))) := ((((lowOf_bit _ _).app (lowOf_bit _ _)).app (lowOf_bit _ _)).app (hl _ _ _)).app (hi _ _ _)
  have ht : Bit01 (toksS (lenA (pressL b)) (lenD (pressL b)) (pressL b)) := by
    unfold toksS
    rw [← toksTo_all]
    exact (toksTo_bit _ _ _ _).app (symCode_bit _ _)
  have h3 : Bit01 [1, 0, 1] := by intro x hx; revert x; decide
  exact h3.app (hp.app ht)
/-- A block in codes of its own is told again. -/
theorem dyn_step {X Z b o : List Int} {most : Int} (hb : ∀ j, j < b.length → 0 ≤ rd b j ∧ rd b j ≤ 255) (hm : (o.length : Int) + b.length ≤ most) :
    openStep (X ++ (packB (dynS b) ++ Z)) (8 * (X ++ (packB (dynS b) ++ Z)).length) most (8 * X.length, o) = .inr (.ok (8 * X.length + (dynS b).length, o ++ b)) := by
  have hpl := packB_length (dynS b)
  have hB : BitsAt (X ++ (packB (dynS b) ++ Z)) (8 * X.length) (dynS b) := bitsAt_mid (bitsAt_pack (dynS_bits b)) (by omega)
  have hT : 8 * X.length + (dynS b).length ≤ 8 * (X ++ (packB (dynS b) ++ Z)).length := by rw [List.length_append, List.length_append]; omega
  obtain ⟨S, hS⟩ : ∃ S, S = X ++ (packB (dynS b) ++ Z) := ⟨_, rfl⟩
  rw [← hS] at hB hT ⊢
  have hF : dynS b = [((1 : Nat) : Int), ((0 : Nat) : Int), ((1 : Nat) : Int)] ++ (putS (lenA (pressL b)) (lenD (pressL b)) ++ toksS (lenA (pressL b)) (lenD (pressL b)) (pressL b)) := by
    unfold dynS
    exact congrArg (fun z => z ++ (putS (lenA (pressL b)) (lenD (pressL b)) ++ toksS (lenA (pressL b)) (lenD (pressL b)) (pressL b))) (show ([1, 0, 1] : List Int) = [((1 : Nat) : Int), ((0 : Nat) : Int), ((1 : Nat) : Int)] by decide)
  have hFl : (dynS b).length = 3 + ((putS (lenA (pressL b)) (lenD (pressL b))).length + (toksS (lenA (pressL b)) (lenD (pressL b)) (pressL b)).length) := by rw [hF, List.length_append, List.length_append]; rfl
  rw [hF] at hB
  obtain ⟨n1, n2, hb3⟩ := bits_three hB
  have hget := getS_put (T := 8 * S.length) (by rw [lenA_length]; decide) (by rw [lenA_length]; decide) (by rw [lenD_length]; decide) (by rw [lenD_length]; decide) (lenA_rng _) (lenD_rng _) hb3.left (by omega)
  have hend := end_lenA (pressL b)
  rw [if_neg (by have := hend.2.1; omega)] at hget
  have zA := tn_zero (l := lenA (pressL b)) (least := 257) (d := (lenA (pressL b)).length - 257) (by rw [lenA_length])
  have zD := tn_zero (l := lenD (pressL b)) (least := 1) (d := (lenD (pressL b)).length - 1) (by rw [lenD_length])
  have ht := tok_dyn hb
  have htr := toks_trim zA zD ht hend
  have hc := coded_back (pre := o) (b := b) (most := most) (T := 8 * S.length) (by rw [right_trim zA]; exact right_lenA _)
    (show rightB ((lenD (pressL b)).take (tn (lenD (pressL b)) 1 ((lenD (pressL b)).length - 1))) = true ∨ _ from (right_lenD (pressL b)).imp (fun h => by rw [right_trim zD]; exact h) any_trim)
    hb (cod_trim zA hend).2 hm (fun t h => tokC_trim zA zD (ht t h)) (by rw [htr]; exact hb3.right) (by rw [htr]; omega)
  rw [htr] at hc
  have hbk : blockS S (8 * S.length) most (numAt S (8 * X.length + 1) 2) (8 * X.length + 3) o = .ok (8 * X.length + (dynS b).length, o ++ b) := by
    rw [n2]
    unfold blockS
    rw [if_neg (by decide), if_neg (by decide), if_pos (by decide), hget]
    refine hc.trans ?_
    rw [hFl, Nat.add_assoc, Nat.add_assoc]
  exact step_last (by omega) (by rw [n1]; decide) hbk
end Go.Proofs.YtendohnkhbgfbaaDoor
/-
  What is pressed, in each way, is opened as it was (no program).
-/
namespace Go.Proofs.YtendohnkhbgfbaaDoor
open Go.RowKit

/-- These bytes are a last block that tells b. -/
def OpensTo (W b : List Int) : Prop := ∀ (X Z o : List Int) (most : Int), (o.length : Int) + b.length ≤ most → ∃ q, openStep (X ++ (W ++ Z)) (8 * (X ++ (W ++ Z)).length) most (8 * X.length, o) = .inr (.ok (q, o ++ b)) ∧ (q + 7) / 8 = X.length + W.length
theorem opens_stored {b : List Int} (hb : b.length ≤ 65535) : OpensTo (storedB b) b := fun X Z o most hm => by
  rw [storedB_blk hb]
  obtain ⟨T, hT, h⟩ := stored_step (X := X) (Z := Z) (h := 1) (by omega) hb hm
  rw [hT, if_neg (by decide)] at h
  exact ⟨_, h, by show (8 * (X.length + (blkB 1 b).length) + 7) / 8 = _; omega⟩
theorem opens_fixed {b : List Int} (hb : ∀ j, j < b.length → 0 ≤ rd b j ∧ rd b j ≤ 255) : OpensTo (packB (fixedS b)) b := fun X Z o most hm =>
  ⟨_, fixed_step hb hm, by rw [packB_length]; omega⟩
theorem opens_dyn {b : List Int} (hb : ∀ j, j < b.length → 0 ≤ rd b j ∧ rd b j ≤ 255) : OpensTo (packB (dynS b)) b := fun X Z o most hm =>
  ⟨_, dyn_step hb hm, by rw [packB_length]; omega⟩
theorem opens_press {b : List Int} (hb : ∀ j, j < b.length → 0 ≤ rd b j ∧ rd b j ≤ 255) (hl : b.length ≤ 65535) : OpensTo (pressB b) b := by
  rcases pressB_cases b with e | e | e <;> rw [e]
  · exact opens_stored hl
  · exact opens_fixed hb
  · exact opens_dyn hb
theorem openS_one {W b Z : List Int} {most : Int} (h : OpensTo W b) (hm : (b.length : Int) ≤ most) : ∃ q, openS (W ++ Z) most = .ok (q, b) ∧ (q + 7) / 8 = W.length := by
  obtain ⟨q, h1, h2⟩ := h [] Z [] most (by simpa using hm)
  simp only [List.nil_append, List.length_nil, Nat.mul_zero, Nat.zero_add] at h1 h2
  refine ⟨q, ?_, h2⟩
  unfold openS
  rw [iter_inr h1]
  rfl
/-- Stored blocks that aren't the last. -/
def blocks (L : List (List Int)) : List Int := L.flatMap (blkB 0)
theorem blocks_len (L : List (List Int)) : (blocks L).length = 5 * L.length + L.flatten.length := by
  induction L with
  | nil => rfl
  | cons b L ih => simp [blocks, blkB_length] at ih ⊢; omega
theorem opens_blocks {W b Z : List Int} {most : Int} (h : OpensTo W b) : ∀ (L : List (List Int)) (X o : List Int), (∀ l ∈ L, l.length ≤ 65535) → ((o.length + L.flatten.length + b.length : Nat) : Int) ≤ most →
    ∃ n q, iter (openStep (X ++ (blocks L ++ (W ++ Z))) (8 * (X ++ (blocks L ++ (W ++ Z))).length) most) n (8 * X.length, o) = some (.ok (q, o ++ L.flatten ++ b)) ∧ n ≤ L.length + 1 ∧ (q + 7) / 8 = X.length + (blocks L).length + W.length := by
  intro L
  induction L with
  | nil =>
    intro X o _ hm
    obtain ⟨q, h1, h2⟩ := h X Z o most (by simp at hm; omega)
    exact ⟨1, q, by rw [show blocks [] = [] from rfl, List.nil_append, List.flatten_nil, List.append_nil]; exact iter_inr h1 0, by simp, by rw [h2]; rfl⟩
  | cons l L ih =>
    intro X o hL hm
    have hl := hL l (List.mem_cons_self ..)
    have hlf : (l :: L).flatten.length = l.length + L.flatten.length := by simp
    rw [hlf] at hm
    have e : X ++ (blocks (l :: L) ++ (W ++ Z)) = (X ++ blkB 0 l) ++ (blocks L ++ (W ++ Z)) := by simp [blocks, List.append_assoc]
    have e2 : X ++ (blocks (l :: L) ++ (W ++ Z)) = X ++ (blkB ((0 : Nat) : Int) l ++ (blocks L ++ (W ++ Z))) := by simp [blocks, List.append_assoc]
    obtain ⟨T, hT, hs⟩ := stored_step (X := X) (Z := blocks L ++ (W ++ Z)) (h := 0) (o := o) (most := most) (by omega) hl (by omega)
    rw [hT, if_pos rfl, ← e2] at hs
    obtain ⟨n, q, h1, h2, h3⟩ := ih (X ++ blkB 0 l) (o ++ l) (fun x hx => hL x (List.mem_cons_of_mem _ hx)) (by rw [List.length_append]; omega)
    rw [← e] at h1
    refine ⟨n + 1, q, ?_, by simp; omega, ?_⟩
    · rw [iter_inl hs, show 8 * (X.length + (blkB ((0 : Nat) : Int) l).length) = 8 * (X ++ blkB 0 l).length by rw [List.length_append]; rfl, h1]
      simp [List.append_assoc]
    · rw [h3, List.length_append]
      simp [blocks]
      omega
theorem openS_blocks {W b Z : List Int} {most : Int} {L : List (List Int)} (h : OpensTo W b) (hL : ∀ l ∈ L, l.length ≤ 65535) (hm : ((L.flatten.length + b.length : Nat) : Int) ≤ most) : ∃ q, openS (blocks L ++ (W ++ Z)) most = .ok (q, L.flatten ++ b) ∧ (q + 7) / 8 = (blocks L).length + W.length := by
  obtain ⟨n, q, h1, h2, h3⟩ := opens_blocks (Z := Z) (most := most) h L [] [] hL (by simpa using hm)
  simp only [List.nil_append, List.length_nil, Nat.mul_zero, Nat.zero_add] at h1 h3
  refine ⟨q, ?_, h3⟩
  unfold openS
  have hb := blocks_len L
  rw [iter_mono h1 (8 * (blocks L ++ (W ++ Z)).length + 1) (by rw [List.length_append]; omega)]
  rfl
end Go.Proofs.YtendohnkhbgfbaaDoor
/-
  Less room, and fewer bits (no program).
-/
namespace Go.Proofs.YtendohnkhbgfbaaDoor
open Go.RowKit

theorem addS_of {m b l d : Int} {o : List Int} (hr : rightT b l d o.length = true) : addS m b l d o = if m < o.length + max l 1 then .error 4 else .ok (addT b l d o) := by
  unfold addS
  rw [hr, if_neg (by decide)]
theorem addS_is {most b l d : Int} {o o' : List Int} (h : addS most b l d o = .ok o') : rightT b l d o.length = true ∧ o' = addT b l d o := by
  cases hr : rightT b l d o.length with
  | false => unfold addS at h; rw [hr, if_pos rfl] at h; cases h
  | true =>
    rw [addS_of hr] at h
    split at h
    · cases h
    · cases h; exact ⟨rfl, rfl⟩
theorem addR_less {most m b l d : Int} {q q' : Nat} {o o' : List Int} (h : addR most b l d q o = .ok (q', o')) : (addR m b l d q o = .ok (q', o') ∧ (o'.length : Int) ≤ m) ∨ addR m b l d q o = .error 4 := by
  have hq := (addR_len h).2
  cases ha : addS most b l d o with
  | error e => rw [addR_err ha] at h; cases h
  | ok o2 =>
    rw [addR_ok ha] at h
    cases h
    obtain ⟨hr, rfl⟩ := addS_is ha
    have h9 := addS_of (m := m) hr
    by_cases hm : m < o.length + max l 1
    · rw [if_pos hm] at h9
      exact Or.inr (addR_err h9)
    · rw [if_neg hm] at h9
      exact Or.inl ⟨addR_ok h9, addS_len h9⟩
theorem distL_less {bs : List Int} {T : Nat} {most m L least : Int} {nb q q' : Nat} {o o' : List Int} (h : distL bs T most L least nb q o = .ok (q', o')) : (distL bs T m L least nb q o = .ok (q', o') ∧ (o'.length : Int) ≤ m) ∨ distL bs T m L least nb q o = .error 4 := by
  rcases Nat.lt_or_ge T (q + nb) with g | g
  · rw [distL_no g] at h; cases h
  · rw [distL_ok g] at h ⊢
    exact addR_less h
theorem distS_less {bs : List Int} {T : Nat} {most m L : Int} {ys : List Int} {q q' : Nat} {o o' : List Int} (h : distS bs T most ys L q o = .ok (q', o')) : (distS bs T m ys L q o = .ok (q', o') ∧ (o'.length : Int) ≤ m) ∨ distS bs T m ys L q o = .error 4 := by
  cases hy : rightB ys with
  | false => rw [distS_nil hy] at h; cases h
  | true =>
    cases hs : symN ys bs T q with
    | error e => rw [distS_err hy hs] at h; cases h
    | ok p =>
      obtain ⟨d, q2⟩ := p
      rcases Nat.lt_or_ge d 30 with g | g
      · rw [distS_ok hy hs g] at h ⊢
        exact distL_less h
      · rw [distS_far hy hs g] at h; cases h
theorem matchS_less {bs : List Int} {T : Nat} {most m : Int} {ys : List Int} {s q q' : Nat} {o o' : List Int} (h : matchS bs T most ys s q o = .ok (q', o')) : (matchS bs T m ys s q o = .ok (q', o') ∧ (o'.length : Int) ≤ m) ∨ matchS bs T m ys s q o = .error 4 := by
  unfold matchS at h ⊢
  split at h
  · cases h
  · rename_i hs
    rw [if_neg hs]
    rcases Nat.lt_or_ge T (q + (rowB lens (s - 257)).toNat) with g | g
    · rw [matchL_no g] at h; cases h
    · rw [matchL_ok g] at h ⊢
      exact distS_less h
theorem code_less_inl {bs : List Int} {T : Nat} {most m : Int} {xs ys : List Int} {p p' : Nat × List Int} (h : codeStep bs T most xs ys p = .inl p') : (codeStep bs T m xs ys p = .inl p' ∧ (p'.2.length : Int) ≤ m) ∨ codeStep bs T m xs ys p = .inr (.error 4) := by
  obtain ⟨q, o⟩ := p
  cases hs : symN xs bs T q with
  | error e => rw [code_err hs] at h; cases h
  | ok r =>
    obtain ⟨s, q1⟩ := r
    by_cases h256 : s = 256
    · subst h256; rw [code_end hs] at h; cases h
    · by_cases hlo : s < 256
      · cases ha : addR most s 0 0 q1 o with
        | error e => rw [code_lit_err hs hlo ha] at h; cases h
        | ok r =>
          obtain ⟨q3, o3⟩ := r
          rw [code_lit_ok hs hlo ha] at h
          cases h
          rcases addR_less (m := m) ha with ⟨h1, h2⟩ | h1
          · exact Or.inl ⟨code_lit_ok hs hlo h1, h2⟩
          · exact Or.inr (code_lit_err hs hlo h1)
      · cases ha : matchS bs T most ys s q1 o with
        | error e => rw [code_match_err hs (by omega) ha] at h; cases h
        | ok r =>
          obtain ⟨q3, o3⟩ := r
          rw [code_match_ok hs (by omega) ha] at h
          cases h
          rcases matchS_less (m := m) ha with ⟨h1, h2⟩ | h1
          · exact Or.inl ⟨code_match_ok hs (by omega) h1, h2⟩
          · exact Or.inr (code_match_err hs (by omega) h1)
theorem code_less_inr {bs : List Int} {T : Nat} {most m : Int} {xs ys : List Int} {q q' : Nat} {o o' : List Int} (h : codeStep bs T most xs ys (q, o) = .inr (.ok (q', o'))) : codeStep bs T m xs ys (q, o) = .inr (.ok (q', o')) := by
  cases hs : symN xs bs T q with
  | error e => rw [code_err hs] at h; cases h
  | ok r =>
    obtain ⟨s, q1⟩ := r
    by_cases h256 : s = 256
    · subst h256; rw [code_end hs] at h ⊢; exact h
    · by_cases hlo : s < 256
      · cases ha : addR most s 0 0 q1 o with
        | error e => rw [code_lit_err hs hlo ha] at h; cases h
        | ok r => rw [code_lit_ok hs hlo (show addR most s 0 0 q1 o = .ok (r.1, r.2) from ha)] at h; cases h
      · cases ha : matchS bs T most ys s q1 o with
        | error e => rw [code_match_err hs (by omega) ha] at h; cases h
        | ok r => rw [code_match_ok hs (by omega) (show matchS bs T most ys s q1 o = .ok (r.1, r.2) from ha)] at h; cases h
theorem iter_less {bs : List Int} {T : Nat} {most m : Int} {xs ys : List Int} : ∀ {f q q' : Nat} {o o' : List Int}, iter (codeStep bs T most xs ys) f (q, o) = some (.ok (q', o')) →
    (iter (codeStep bs T m xs ys) f (q, o) = some (.ok (q', o')) ∧ ((o'.length : Int) ≤ m ∨ o' = o)) ∨ iter (codeStep bs T m xs ys) f (q, o) = some (.error 4) := by
  intro f
  induction f with
  | zero => intro q q' o o' h; cases h
  | succ f ih =>
    intro q q' o o' h
    cases hs : codeStep bs T most xs ys (q, o) with
    | inr r =>
      rw [iter_inr hs] at h
      cases h
      have h1 := codeStep_inr hs
      exact Or.inl ⟨iter_inr (code_less_inr hs) f, Or.inr h1.2⟩
    | inl p =>
      obtain ⟨q1, o1⟩ := p
      rw [iter_inl hs] at h
      rcases code_less_inl (m := m) hs with ⟨h1, h2⟩ | h1
      · rw [iter_inl h1]
        rcases ih h with ⟨h3, h4⟩ | h3
        · exact Or.inl ⟨h3, Or.inl (h4.elim id (fun e => by rw [e]; exact h2))⟩
        · exact Or.inr h3
      · exact Or.inr (iter_inr h1 f)
theorem coded_less {bs : List Int} {T : Nat} {most m : Int} {xs ys : List Int} {q q' : Nat} {o o' : List Int} (h : codedS bs T most xs ys q o = .ok (q', o')) :
    (codedS bs T m xs ys q o = .ok (q', o') ∧ ((o'.length : Int) ≤ m ∨ o' = o)) ∨ codedS bs T m xs ys q o = .error 4 := by
  unfold codedS at h ⊢
  by_cases hx : rightB xs = false
  · rw [if_pos hx] at h; cases h
  · rw [if_neg hx] at h ⊢
    by_cases hy : rightB ys = false ∧ ys.any (fun y => y != 0) = true
    · rw [if_pos hy] at h; cases h
    · rw [if_neg hy] at h ⊢
      cases hi : iter (codeStep bs T most xs ys) (T + 1) (q, o) with
      | none => rw [hi] at h; cases h
      | some r =>
        rw [hi] at h
        have e : r = .ok (q', o') := h
        subst e
        rcases iter_less (m := m) hi with ⟨h1, h2⟩ | h1
        · exact Or.inl ⟨by rw [h1]; rfl, h2⟩
        · exact Or.inr (by rw [h1]; rfl)
theorem stored_less {bs : List Int} {T : Nat} {most m : Int} {q q' : Nat} {o o' : List Int} (h : storedS bs T most q o = .ok (q', o')) : (storedS bs T m q o = .ok (q', o') ∧ ((o'.length : Int) ≤ m ∨ o' = o)) ∨ storedS bs T m q o = .error 4 := by
  unfold storedS at h ⊢
  by_cases h1 : T < upTo8 q + 32
  · rw [if_pos h1] at h; cases h
  · rw [if_neg h1] at h ⊢
    by_cases h2 : numAt bs (upTo8 q) 16 ^^^ numAt bs (upTo8 q + 16) 16 ≠ 65535
    · rw [if_pos h2] at h; cases h
    · rw [if_neg h2] at h ⊢
      by_cases h3 : most < o.length + numAt bs (upTo8 q) 16
      · rw [if_pos h3] at h; cases h
      · rw [if_neg h3] at h
        by_cases h4 : T < upTo8 q + 32 + 8 * numAt bs (upTo8 q) 16
        · rw [if_pos h4] at h; cases h
        · rw [if_neg h4] at h
          cases h
          by_cases h5 : m < o.length + numAt bs (upTo8 q) 16
          · rw [if_pos h5]; exact Or.inr rfl
          · rw [if_neg h5, if_neg h4]
            refine Or.inl ⟨rfl, Or.inl ?_⟩
            rw [List.length_append]
            have := List.length_take_le (numAt bs (upTo8 q) 16) (bs.drop ((upTo8 q + 32) / 8))
            omega
theorem block_less {bs : List Int} {T k : Nat} {most m : Int} {q q' : Nat} {o o' : List Int} (h : blockS bs T most k q o = .ok (q', o')) : (blockS bs T m k q o = .ok (q', o') ∧ ((o'.length : Int) ≤ m ∨ o' = o)) ∨ blockS bs T m k q o = .error 4 := by
  unfold blockS at h ⊢
  by_cases h0 : k = 0
  · rw [if_pos h0] at h ⊢; exact stored_less h
  · rw [if_neg h0] at h ⊢
    by_cases h1 : k = 1
    · rw [if_pos h1] at h ⊢; exact coded_less h
    · rw [if_neg h1] at h ⊢
      by_cases h2 : k = 2
      · rw [if_pos h2] at h ⊢
        cases hg : getS bs T q with
        | none => rw [hg] at h; cases h
        | some r =>
          obtain ⟨xs, ys, q1⟩ := r
          rw [hg] at h
          exact coded_less h
      · rw [if_neg h2] at h; cases h
/-- One last block: with less room than what it tells it is too long. -/
theorem open_less {bs : List Int} {q : Nat} {b : List Int} {most m : Int} (h : openStep bs (8 * bs.length) most (0, []) = .inr (.ok (q, b))) (hm : m < b.length) (hb : b ≠ []) : openS bs m = .error 4 := by
  have key : openStep bs (8 * bs.length) m (0, []) = .inr (.error 4) := by
    rcases Nat.lt_or_ge (8 * bs.length) (0 + 3) with g | g
    · rw [step_short g] at h; cases h
    · cases hk : blockS bs (8 * bs.length) most (numAt bs (0 + 1) 2) (0 + 3) [] with
      | error e => rw [step_err g hk] at h; cases h
      | ok r =>
        obtain ⟨q1, o1⟩ := r
        by_cases hl : numAt bs 0 1 = 0
        · rw [step_next g hl hk] at h; cases h
        · rw [step_last g hl hk] at h
          cases h
          rcases block_less (m := m) hk with ⟨_, h2⟩ | h1
          · rcases h2 with h2 | h2
            · omega
            · exact absurd h2 hb
          · exact step_err g h1
  unfold openS
  rw [iter_inr key]
  rfl
end Go.Proofs.YtendohnkhbgfbaaDoor
/-
  The front of what is pressed isn't opened (no program).
-/
namespace Go.Proofs.YtendohnkhbgfbaaDoor
open Go.RowKit

theorem bit_front {P R : List Int} {i : Nat} (h : i < 8 * P.length) : bitAt (P ++ R) i = bitAt P i := by
  unfold bitAt
  rw [rd_appL (show i / 8 < P.length by omega)]
theorem num_front {P R : List Int} {q : Nat} : ∀ n, q + n ≤ 8 * P.length → numAt (P ++ R) q n = numAt P q n := by
  intro n
  induction n with
  | zero => intro _; rfl
  | succ n ih =>
    intro h
    show numAt (P ++ R) q n + bitAt (P ++ R) (q + n) * 2 ^ n = numAt P q n + bitAt P (q + n) * 2 ^ n
    rw [ih (by omega), bit_front (by omega)]
theorem codeTo_front {P R : List Int} {q : Nat} : ∀ n, q + n ≤ 8 * P.length → codeTo (P ++ R) q n = codeTo P q n := by
  intro n
  induction n with
  | zero => intro _; rfl
  | succ n ih =>
    intro h
    show 2 * codeTo (P ++ R) q n + bitAt (P ++ R) (q + n) = 2 * codeTo P q n + bitAt P (q + n)
    rw [ih (by omega), bit_front (by omega)]
theorem hit_front {P R xs : List Int} {q s : Nat} (hq : q ≤ 8 * P.length) (h : Hit xs P q (8 * P.length - q) s) : Hit xs (P ++ R) q (8 * (P ++ R).length - q) s := by
  obtain ⟨h1, h2, h3, h4, h5⟩ := h
  refine ⟨h1, h2, h3, by rw [List.length_append]; omega, ?_⟩
  rw [codeTo_front _ (by omega)]
  exact h5
theorem symN_le {xs bs : List Int} {T q s q1 : Nat} (hq : q ≤ T) (h : symN xs bs T q = .ok (s, q1)) : q1 ≤ T := by
  have h1 := symN_hit h
  have h2 := h1.1.2.2.2.1
  omega
theorem symN_front {P R xs : List Int} {q s q1 : Nat} (hq : q ≤ 8 * P.length) (h : symN xs P (8 * P.length) q = .ok (s, q1)) : symN xs (P ++ R) (8 * (P ++ R).length) q = .ok (s, q1) := by
  have h1 := symN_hit h
  rw [h1.2]
  exact symN_ok (hit_front hq h1.1)
theorem distL_front {P R : List Int} {most L least : Int} {nb q q' : Nat} {o o' : List Int} (h : distL P (8 * P.length) most L least nb q o = .ok (q', o')) : distL (P ++ R) (8 * (P ++ R).length) most L least nb q o = .ok (q', o') := by
  rcases Nat.lt_or_ge (8 * P.length) (q + nb) with g | g
  · rw [distL_no g] at h; cases h
  · rw [distL_ok g] at h
    rw [distL_ok (by rw [List.length_append]; omega), num_front nb g]
    exact h
theorem distS_front {P R ys : List Int} {most L : Int} {q q' : Nat} {o o' : List Int} (hq : q ≤ 8 * P.length) (h : distS P (8 * P.length) most ys L q o = .ok (q', o')) : distS (P ++ R) (8 * (P ++ R).length) most ys L q o = .ok (q', o') := by
  cases hy : rightB ys with
  | false => rw [distS_nil hy] at h; cases h
  | true =>
    cases hs : symN ys P (8 * P.length) q with
    | error e => rw [distS_err hy hs] at h; cases h
    | ok p =>
      obtain ⟨d, q2⟩ := p
      rcases Nat.lt_or_ge d 30 with g | g
      · rw [distS_ok hy hs g] at h
        rw [distS_ok hy (symN_front hq hs) g]
        exact distL_front h
      · rw [distS_far hy hs g] at h; cases h
theorem matchS_front {P R ys : List Int} {most : Int} {s q q' : Nat} {o o' : List Int} (h : matchS P (8 * P.length) most ys s q o = .ok (q', o')) : matchS (P ++ R) (8 * (P ++ R).length) most ys s q o = .ok (q', o') := by
  unfold matchS at h ⊢
  split at h
  · cases h
  · rename_i hs
    rw [if_neg hs]
    rcases Nat.lt_or_ge (8 * P.length) (q + (rowB lens (s - 257)).toNat) with g | g
    · rw [matchL_no g] at h; cases h
    · rw [matchL_ok g] at h
      rw [matchL_ok (by rw [List.length_append]; omega), num_front _ g]
      exact distS_front g h
theorem code_front_inl {P R xs ys : List Int} {most : Int} {q q' : Nat} {o o' : List Int} (hq : q ≤ 8 * P.length) (h : codeStep P (8 * P.length) most xs ys (q, o) = .inl (q', o')) : codeStep (P ++ R) (8 * (P ++ R).length) most xs ys (q, o) = .inl (q', o') ∧ q' ≤ 8 * P.length := by
  cases hs : symN xs P (8 * P.length) q with
  | error e => rw [code_err hs] at h; cases h
  | ok r =>
    obtain ⟨s, q1⟩ := r
    have hs2 := symN_front (R := R) hq hs
    have hle := symN_le hq hs
    by_cases h256 : s = 256
    · subst h256; rw [code_end hs] at h; cases h
    · by_cases hlo : s < 256
      · cases ha : addR most s 0 0 q1 o with
        | error e => rw [code_lit_err hs hlo ha] at h; cases h
        | ok r =>
          obtain ⟨q3, o3⟩ := r
          rw [code_lit_ok hs hlo ha] at h
          cases h
          have := (addR_len ha).2
          exact ⟨code_lit_ok hs2 hlo ha, by omega⟩
      · cases ha : matchS P (8 * P.length) most ys s q1 o with
        | error e => rw [code_match_err hs (by omega) ha] at h; cases h
        | ok r =>
          obtain ⟨q3, o3⟩ := r
          rw [code_match_ok hs (by omega) ha] at h
          cases h
          exact ⟨code_match_ok hs2 (by omega) (matchS_front ha), (matchS_len ha).2.2⟩
theorem code_front_inr {P R xs ys : List Int} {most : Int} {q q' : Nat} {o o' : List Int} (hq : q ≤ 8 * P.length) (h : codeStep P (8 * P.length) most xs ys (q, o) = .inr (.ok (q', o'))) : codeStep (P ++ R) (8 * (P ++ R).length) most xs ys (q, o) = .inr (.ok (q', o')) ∧ q' ≤ 8 * P.length := by
  cases hs : symN xs P (8 * P.length) q with
  | error e => rw [code_err hs] at h; cases h
  | ok r =>
    obtain ⟨s, q1⟩ := r
    have hs2 := symN_front (R := R) hq hs
    have hle := symN_le hq hs
    by_cases h256 : s = 256
    · subst h256
      rw [code_end hs] at h
      rw [code_end hs2]
      cases h
      exact ⟨rfl, hle⟩
    · by_cases hlo : s < 256
      · cases ha : addR most s 0 0 q1 o with
        | error e => rw [code_lit_err hs hlo ha] at h; cases h
        | ok r => rw [code_lit_ok hs hlo (show addR most s 0 0 q1 o = .ok (r.1, r.2) from ha)] at h; cases h
      · cases ha : matchS P (8 * P.length) most ys s q1 o with
        | error e => rw [code_match_err hs (by omega) ha] at h; cases h
        | ok r => rw [code_match_ok hs (by omega) (show matchS P (8 * P.length) most ys s q1 o = .ok (r.1, r.2) from ha)] at h; cases h
theorem iter_front {P R xs ys : List Int} {most : Int} : ∀ {f q q' : Nat} {o o' : List Int}, q ≤ 8 * P.length → iter (codeStep P (8 * P.length) most xs ys) f (q, o) = some (.ok (q', o')) → iter (codeStep (P ++ R) (8 * (P ++ R).length) most xs ys) f (q, o) = some (.ok (q', o')) ∧ q' ≤ 8 * P.length := by
  intro f
  induction f with
  | zero => intro q q' o o' _ h; cases h
  | succ f ih =>
    intro q q' o o' hq h
    cases hs : codeStep P (8 * P.length) most xs ys (q, o) with
    | inr r =>
      rw [iter_inr hs] at h
      cases h
      have h1 := code_front_inr (R := R) hq hs
      exact ⟨iter_inr h1.1 f, h1.2⟩
    | inl p =>
      obtain ⟨q1, o1⟩ := p
      rw [iter_inl hs] at h
      have h1 := code_front_inl (R := R) hq hs
      rw [iter_inl h1.1]
      exact ih h1.2 h
theorem coded_front {P R xs ys : List Int} {most : Int} {q q' : Nat} {o o' : List Int} (hq : q ≤ 8 * P.length) (h : codedS P (8 * P.length) most xs ys q o = .ok (q', o')) : codedS (P ++ R) (8 * (P ++ R).length) most xs ys q o = .ok (q', o') ∧ q' ≤ 8 * P.length := by
  unfold codedS at h ⊢
  by_cases hx : rightB xs = false
  · rw [if_pos hx] at h; cases h
  · rw [if_neg hx] at h ⊢
    by_cases hy : rightB ys = false ∧ ys.any (fun y => y != 0) = true
    · rw [if_pos hy] at h; cases h
    · rw [if_neg hy] at h ⊢
      cases hi : iter (codeStep P (8 * P.length) most xs ys) (8 * P.length + 1) (q, o) with
      | none => rw [hi] at h; cases h
      | some r =>
        rw [hi] at h
        have e : r = .ok (q', o') := h
        subst e
        have h1 := iter_front (R := R) hq hi
        rw [iter_mono h1.1 (8 * (P ++ R).length + 1) (by rw [List.length_append]; omega)]
        exact ⟨rfl, h1.2⟩
theorem stored_front {P R : List Int} {most : Int} {q q' : Nat} {o o' : List Int} (h : storedS P (8 * P.length) most q o = .ok (q', o')) : storedS (P ++ R) (8 * (P ++ R).length) most q o = .ok (q', o') ∧ q' ≤ 8 * P.length := by
  unfold storedS at h ⊢
  by_cases h1 : 8 * P.length < upTo8 q + 32
  · rw [if_pos h1] at h; cases h
  · rw [if_neg h1] at h
    have n1 := num_front (P := P) (R := R) (q := upTo8 q) 16 (by omega)
    have n2 := num_front (P := P) (R := R) (q := upTo8 q + 16) 16 (by omega)
    rw [n1, n2, if_neg (by rw [List.length_append]; omega)]
    by_cases h2 : numAt P (upTo8 q) 16 ^^^ numAt P (upTo8 q + 16) 16 ≠ 65535
    · rw [if_pos h2] at h; cases h
    · rw [if_neg h2] at h ⊢
      by_cases h3 : most < o.length + numAt P (upTo8 q) 16
      · rw [if_pos h3] at h; cases h
      · rw [if_neg h3] at h ⊢
        by_cases h4 : 8 * P.length < upTo8 q + 32 + 8 * numAt P (upTo8 q) 16
        · rw [if_pos h4] at h; cases h
        · rw [if_neg h4] at h
          rw [if_neg (by rw [List.length_append]; omega)]
          cases h
          refine ⟨?_, by omega⟩
          have h8 := (upTo8_ge q).2.2
          rw [List.drop_append_of_le_length (by omega), List.take_append_of_le_length (by rw [List.length_drop]; omega)]
theorem listS_front {P R xs : List Int} {n : Nat} : ∀ {f p : Nat} {out l : List Int} {q : Nat}, p ≤ 8 * P.length → listS xs P (8 * P.length) n f p out = some (l, q) → listS xs (P ++ R) (8 * (P ++ R).length) n f p out = some (l, q) := by
  intro f
  induction f with
  | zero => intro p out l q _ h; cases h
  | succ f ih =>
    intro p out l q hp h
    by_cases hn : n ≤ out.length
    · rw [listS_done (by omega) hn] at h ⊢
      exact h
    · by_cases hx : ∃ s, Hit xs P p (8 * P.length - p) s
      · obtain ⟨s, hs⟩ := hx
        have hs2 := hit_front (R := R) hp hs
        have hm := hs.2.2.2.1
        by_cases h16 : s < 16
        · rw [listS_low hn hs h16] at h
          rw [listS_low hn hs2 h16]
          exact ih (by omega) h
        · by_cases h0 : s = 16 ∧ out.length = 0
          · rw [listS_first hn hs h0.1 h0.2] at h; cases h
          · by_cases hT : 8 * P.length < p + (rd xs s).toNat + sizeS s
            · rw [listS_short hn hs h16 hT] at h; cases h
            · have em : manyS (P ++ R) (p + (rd xs s).toNat) s = manyS P (p + (rd xs s).toNat) s := by unfold manyS; rw [num_front _ (by omega)]
              by_cases hlong : n < out.length + manyS P (p + (rd xs s).toNat) s
              · rw [listS_long hn hs h16 hlong] at h; cases h
              · rw [listS_more hn hs h16 h0 hT hlong] at h
                rw [listS_more hn hs2 h16 h0 (by rw [List.length_append]; omega) (by rw [em]; exact hlong), em]
                exact ih (by omega) h
      · rw [listS_no hn (fun s hs => hx ⟨s, hs⟩)] at h
        cases h
theorem lensS_front {P R : List Int} {p : Nat} : ∀ k, p + 3 * k ≤ 8 * P.length → lensS (P ++ R) p k = lensS P p k := by
  intro k
  induction k with
  | zero => intro _; rfl
  | succ k ih =>
    intro h
    show (lensS (P ++ R) p k).set _ _ = (lensS P p k).set _ _
    rw [ih (by omega), num_front 3 (by omega)]
theorem getS_front {P R xs ys : List Int} {q q1 : Nat} (h : getS P (8 * P.length) q = some (xs, ys, q1)) : getS (P ++ R) (8 * (P ++ R).length) q = some (xs, ys, q1) := by
  unfold getS at h ⊢
  by_cases h1 : 8 * P.length < q + 14
  · rw [if_pos h1] at h; cases h
  · rw [if_neg h1] at h
    have n1 := num_front (P := P) (R := R) (q := q) 5 (by omega)
    have n2 := num_front (P := P) (R := R) (q := q + 5) 5 (by omega)
    have n3 := num_front (P := P) (R := R) (q := q + 10) 4 (by omega)
    rw [n1, n2, n3, if_neg (by rw [List.length_append]; omega)]
    by_cases h2 : 29 < numAt P q 5 ∨ 29 < numAt P (q + 5) 5
    · rw [if_pos h2] at h; cases h
    · rw [if_neg h2] at h ⊢
      by_cases h3 : 8 * P.length < q + 14 + 3 * (numAt P (q + 10) 4 + 4)
      · rw [if_pos h3] at h; cases h
      · rw [if_neg h3] at h
        rw [if_neg (by rw [List.length_append]; omega), lensS_front _ (by omega)]
        by_cases h4 : rightB (lensS P (q + 14) (numAt P (q + 10) 4 + 4)) = false
        · rw [if_pos h4] at h; cases h
        · rw [if_neg h4] at h ⊢
          cases hl : listS (lensS P (q + 14) (numAt P (q + 10) 4 + 4)) P (8 * P.length) (numAt P q 5 + 257 + (numAt P (q + 5) 5 + 1)) (numAt P q 5 + 257 + (numAt P (q + 5) 5 + 1) + 1) (q + 14 + 3 * (numAt P (q + 10) 4 + 4)) [] with
          | none => rw [hl] at h; cases h
          | some r =>
            obtain ⟨l, q2⟩ := r
            rw [hl] at h
            rw [listS_front (R := R) (by omega) hl]
            exact h
theorem block_front {P R : List Int} {k : Nat} {most : Int} {q q' : Nat} {o o' : List Int} (hq : q ≤ 8 * P.length) (h : blockS P (8 * P.length) most k q o = .ok (q', o')) : blockS (P ++ R) (8 * (P ++ R).length) most k q o = .ok (q', o') ∧ q' ≤ 8 * P.length := by
  unfold blockS at h ⊢
  by_cases h0 : k = 0
  · rw [if_pos h0] at h ⊢; exact stored_front h
  · rw [if_neg h0] at h ⊢
    by_cases h1 : k = 1
    · rw [if_pos h1] at h ⊢; exact coded_front hq h
    · rw [if_neg h1] at h ⊢
      by_cases h2 : k = 2
      · rw [if_pos h2] at h ⊢
        cases hg : getS P (8 * P.length) q with
        | none => rw [hg] at h; cases h
        | some r =>
          obtain ⟨xs, ys, q1⟩ := r
          rw [hg] at h
          rw [getS_front hg]
          exact coded_front (getS_rng hg).2.2 h
      · rw [if_neg h2] at h; cases h
/-- A front of one last block isn't opened. -/
theorem open_front {P R b : List Int} {q : Nat} {most : Int} (h : openStep (P ++ R) (8 * (P ++ R).length) most (0, []) = .inr (.ok (q, b))) (hq : (q + 7) / 8 = (P ++ R).length) (hR : R ≠ []) : ∀ q2 o2, openS P most ≠ .ok (q2, o2) := by
  intro q2 o2 ho
  have hR0 : 0 < R.length := List.length_pos_iff.2 hR
  rw [List.length_append] at hq
  unfold openS at ho
  rcases Nat.lt_or_ge (8 * P.length) (0 + 3) with g | g
  · rw [iter_inr (step_short g)] at ho; cases ho
  · cases hk : blockS P (8 * P.length) most (numAt P (0 + 1) 2) (0 + 3) [] with
    | error e => rw [iter_inr (step_err g hk)] at ho; cases ho
    | ok r =>
      obtain ⟨q1, o1⟩ := r
      have h1 := block_front (R := R) g hk
      have n1 := num_front (P := P) (R := R) (q := 0) 1 (by omega)
      have n2 := num_front (P := P) (R := R) (q := 0 + 1) 2 (by omega)
      have h2 := h1.1
      rw [← n2] at h2
      have g2 : 0 + 3 ≤ 8 * (P ++ R).length := by rw [List.length_append]; omega
      by_cases hl : numAt (P ++ R) 0 1 = 0
      · rw [step_next g2 hl h2] at h; cases h
      · rw [step_last g2 hl h2] at h
        cases h
        omega
end Go.Proofs.YtendohnkhbgfbaaDoor
