/-
  Texts joined into one file: HeadG.
-/
import Derived.Test.YtdbkbeojedndbaaJHeadG7
import Derived.Test.YtdbkbeojedndbaaJHeadG8
import Derived.Deep.RegionHeld3
import Derived.Deep.Cut
import Derived.Deep.CutRange
import Derived.Deep.CutBlock
/-
  The walk of head.Get. Printed by gen_headg.py.
-/
namespace Go.Proofs.Ytdbkbeojedndbaa
open Go.RowKit

structure HGetEnd (w : World) (b : List Int) (e : Ending) (w' : World) : Prop where
  bel : Below w.heap.size w w'
  is : (∃ f, headE b 0 = .error f ∧ f ≠ 0 ∧ e = .returned (.tuple #[.agg chg0, .slice none 0 0, .int .i64 0, .int .i64 f])) ∨
    (∃ (x : HdV) (T : List ByteArray) (q : Nat) (dv tv : Value), headE b 0 = .ok ((x, T), q) ∧ e = .returned (.tuple #[.agg (chgC x.actor x.seq x.start x.time x.msg dv (.slice none 0 0)), tv, .int .i64 q, .int .i64 0]) ∧ w'.ownsRow w.heap.size 67 32 dv x.deps.length (ints .u8 x.deps.flatten) ∧ Hashes x.deps ∧ w'.ownsRow w.heap.size 9 1 tv T.length (strs T) ∧ T.length ≤ 1000000)
theorem after_le {low high : Nat} {b : List Int} {s s' : Except Int Nat} {n : Nat} (h : After (numE low high) b s 0 n s') : n ≤ high := by
  cases s with
  | error f => rw [h.1]; exact Nat.zero_le _
  | ok p =>
    unfold After at h
    cases hq : numE low high b p with
    | error f => simp only [hq] at h; omega
    | ok x =>
      simp only [hq] at h
      unfold numE at hq
      split at hq
      · cases hq
      · split at hq
        · cases hq
        · split at hq
          · cases hq
          · cases hq; rw [h.1]; omega
def run {α : Type} (s : Except Int Nat) (k : Nat → Except Int α) : Except Int α := match s with
  | .error e => .error e
  | .ok p => k p
theorem run_then {α β : Type} {f : Psr α} {g : α → Psr β} {b : List Int} {s s' : Except Int Nat} {d v : α} (h : After f b s d v s') : run s (thenP f g b) = run s' (g v b) := by
  cases s with
  | error e => obtain ⟨_, rfl⟩ := h; rfl
  | ok p =>
    unfold After at h
    cases hq : f b p with
    | error e => simp only [hq] at h; obtain ⟨_, rfl⟩ := h; exact thenP_err hq
    | ok x => simp only [hq] at h; obtain ⟨rfl, rfl⟩ := h; exact thenP_ok hq
theorem run_deps {β : Type} {N k : Nat} {b : List Int} {s1 s : Except Int Nat} {D : List (List Int)} (h1 : ∀ f, s1 = .error f → s = .error f) (h2 : ∀ p0, s1 = .ok p0 → DRel N p0 b k D s) (hk : k = N) {g : List (List Int) → Psr β} : run s1 (thenP (depsE N []) g b) = run s (g D b) := by
  subst hk
  cases s1 with
  | error f => rw [h1 f rfl]; rfl
  | ok p0 =>
    have h := h2 p0 rfl
    unfold DRel at h
    cases s with
    | error f => exact thenP_err h
    | ok p =>
      simp only [Nat.sub_self] at h
      exact thenP_ok h
theorem set7 {w : World} {g : Nat} {v0 v1 v2 v3 v4 v5 v6 : Value} {T : TypeId} (h : w.heap[g]? = some (.cells #[v0, v1, v2, v3, v4, v5, v6] T (0, 0))) (u0 u1 u2 u3 u4 u5 u6 : Value) :
    (((((((w.setCell ⟨g, 0, none⟩ u0).setCell ⟨g, 1, none⟩ u1).setCell ⟨g, 2, none⟩ u2).setCell ⟨g, 3, none⟩ u3).setCell ⟨g, 4, none⟩ u4).setCell ⟨g, 5, none⟩ u5).setCell ⟨g, 6, none⟩ u6).heap[g]? = some (.cells #[u0, u1, u2, u3, u4, u5, u6] T (0, 0)) := by
  have h0 : (w.setCell ⟨g, 0, none⟩ u0).heap[g]? = some (.cells #[u0, v1, v2, v3, v4, v5, v6] T (0, 0)) := heap_setCell_same w g 0 _ _ _ h
  have h1 : ((w.setCell ⟨g, 0, none⟩ u0).setCell ⟨g, 1, none⟩ u1).heap[g]? = some (.cells #[u0, u1, v2, v3, v4, v5, v6] T (0, 0)) := heap_setCell_same (w.setCell ⟨g, 0, none⟩ u0) g 1 _ _ _ h0
  have h2 : (((w.setCell ⟨g, 0, none⟩ u0).setCell ⟨g, 1, none⟩ u1).setCell ⟨g, 2, none⟩ u2).heap[g]? = some (.cells #[u0, u1, u2, v3, v4, v5, v6] T (0, 0)) := heap_setCell_same ((w.setCell ⟨g, 0, none⟩ u0).setCell ⟨g, 1, none⟩ u1) g 2 _ _ _ h1
  have h3 : ((((w.setCell ⟨g, 0, none⟩ u0).setCell ⟨g, 1, none⟩ u1).setCell ⟨g, 2, none⟩ u2).setCell ⟨g, 3, none⟩ u3).heap[g]? = some (.cells #[u0, u1, u2, u3, v4, v5, v6] T (0, 0)) := heap_setCell_same (((w.setCell ⟨g, 0, none⟩ u0).setCell ⟨g, 1, none⟩ u1).setCell ⟨g, 2, none⟩ u2) g 3 _ _ _ h2
  have h4 : (((((w.setCell ⟨g, 0, none⟩ u0).setCell ⟨g, 1, none⟩ u1).setCell ⟨g, 2, none⟩ u2).setCell ⟨g, 3, none⟩ u3).setCell ⟨g, 4, none⟩ u4).heap[g]? = some (.cells #[u0, u1, u2, u3, u4, v5, v6] T (0, 0)) := heap_setCell_same ((((w.setCell ⟨g, 0, none⟩ u0).setCell ⟨g, 1, none⟩ u1).setCell ⟨g, 2, none⟩ u2).setCell ⟨g, 3, none⟩ u3) g 4 _ _ _ h3
  have h5 : ((((((w.setCell ⟨g, 0, none⟩ u0).setCell ⟨g, 1, none⟩ u1).setCell ⟨g, 2, none⟩ u2).setCell ⟨g, 3, none⟩ u3).setCell ⟨g, 4, none⟩ u4).setCell ⟨g, 5, none⟩ u5).heap[g]? = some (.cells #[u0, u1, u2, u3, u4, u5, v6] T (0, 0)) := heap_setCell_same (((((w.setCell ⟨g, 0, none⟩ u0).setCell ⟨g, 1, none⟩ u1).setCell ⟨g, 2, none⟩ u2).setCell ⟨g, 3, none⟩ u3).setCell ⟨g, 4, none⟩ u4) g 5 _ _ _ h4
  have h6 : (((((((w.setCell ⟨g, 0, none⟩ u0).setCell ⟨g, 1, none⟩ u1).setCell ⟨g, 2, none⟩ u2).setCell ⟨g, 3, none⟩ u3).setCell ⟨g, 4, none⟩ u4).setCell ⟨g, 5, none⟩ u5).setCell ⟨g, 6, none⟩ u6).heap[g]? = some (.cells #[u0, u1, u2, u3, u4, u5, u6] T (0, 0)) := heap_setCell_same ((((((w.setCell ⟨g, 0, none⟩ u0).setCell ⟨g, 1, none⟩ u1).setCell ⟨g, 2, none⟩ u2).setCell ⟨g, 3, none⟩ u3).setCell ⟨g, 4, none⟩ u4).setCell ⟨g, 5, none⟩ u5) g 6 _ _ _ h5
  exact h6
theorem set7_fr (w : World) (g : Nat) (u0 u1 u2 u3 u4 u5 u6 : Value) :
    Fr w (((((((w.setCell ⟨g, 0, none⟩ u0).setCell ⟨g, 1, none⟩ u1).setCell ⟨g, 2, none⟩ u2).setCell ⟨g, 3, none⟩ u3).setCell ⟨g, 4, none⟩ u4).setCell ⟨g, 5, none⟩ u5).setCell ⟨g, 6, none⟩ u6) [some g] :=
  Fr.set (Fr.set (Fr.set (Fr.set (Fr.set (Fr.set (Fr.set (Fr.refl w [some g]) _ _ (.inl (List.mem_singleton.2 rfl))) _ _ (.inl (List.mem_singleton.2 rfl))) _ _ (.inl (List.mem_singleton.2 rfl))) _ _ (.inl (List.mem_singleton.2 rfl))) _ _ (.inl (List.mem_singleton.2 rfl))) _ _ (.inl (List.mem_singleton.2 rfl))) _ _ (.inl (List.mem_singleton.2 rfl))
theorem heap_drew (w : World) : w.drew.heap = w.heap := rfl
theorem out7 {w W : World} {g : Nat} {v0 v1 v2 v3 v4 v5 v6 u0 u1 u2 u3 u4 u5 u6 : Value} {T : TypeId} (h : w.heap[g]? = some (.cells #[v0, v1, v2, v3, v4, v5, v6] T (0, 0))) (hW : W = (((((((w.setCell ⟨g, 0, none⟩ u0).setCell ⟨g, 1, none⟩ u1).setCell ⟨g, 2, none⟩ u2).setCell ⟨g, 3, none⟩ u3).setCell ⟨g, 4, none⟩ u4).setCell ⟨g, 5, none⟩ u5).setCell ⟨g, 6, none⟩ u6).drew) :
    W.heap[g]? = some (.cells #[u0, u1, u2, u3, u4, u5, u6] T (0, 0)) ∧ Fr w W [some g] := by
  subst hW
  refine ⟨?_, (set7_fr w g u0 u1 u2 u3 u4 u5 u6).drew⟩
  rw [heap_drew]
  exact set7 h u0 u1 u2 u3 u4 u5 u6
theorem out7n {w W : World} {g : Nat} {v0 v1 v2 v3 v4 v5 v6 u0 u1 u2 u3 u4 u5 u6 : Value} {T : TypeId} (h : w.heap[g]? = some (.cells #[v0, v1, v2, v3, v4, v5, v6] T (0, 0))) (hW : W = (((((((w.setCell ⟨g, 0, none⟩ u0).setCell ⟨g, 1, none⟩ u1).setCell ⟨g, 2, none⟩ u2).setCell ⟨g, 3, none⟩ u3).setCell ⟨g, 4, none⟩ u4).setCell ⟨g, 5, none⟩ u5).setCell ⟨g, 6, none⟩ u6)) :
    W.heap[g]? = some (.cells #[u0, u1, u2, u3, u4, u5, u6] T (0, 0)) ∧ Fr w W [some g] := by
  subst hW
  exact ⟨set7 h u0 u1 u2 u3 u4 u5 u6, set7_fr w g u0 u1 u2 u3 u4 u5 u6⟩
theorem after_size {low high : Nat} {b : List Int} {s s' : Except Int Nat} {m : ByteArray} (h : After (textE low high) b s ⟨#[]⟩ m s') (hh : high ≤ 140737488355328) : m.size ≤ 140737488355328 := by
  cases s with
  | error f => rw [h.1]; exact Nat.zero_le _
  | ok p =>
    unfold After at h
    cases hq : textE low high b p with
    | error f => simp only [hq] at h; rw [h.1]; exact Nat.zero_le _
    | ok x =>
      simp only [hq] at h
      obtain ⟨rfl, _⟩ := h
      unfold textE thenP at hq
      cases hn : numE low high b p with
      | error f => simp only [hn] at hq; cases hq
      | ok y =>
        simp only [hn] at hq
        have h1 : y.1 ≤ high := after_le (s := .ok p) (n := y.1) (s' := .ok y.2) (b := b) (low := low) (After.good (by rw [hn]))
        unfold txtE at hq
        split at hq
        · cases hq
        · next h2 =>
          cases hq
          rw [textAt_size (by omega)]
          omega
theorem takeE_le {b : List Int} {p q : Nat} {l : List Int} (h : takeE 32 b p = .ok (l, q)) : p ≤ b.length := by
  unfold takeE at h
  split at h
  · cases h
  · omega
theorem drel_err {many p0 : Nat} {b : List Int} {k : Nat} {D : List (List Int)} {s s' : Except Int Nat} {l : List Int} (h : DRel many p0 b k D s) (hk : k < many) (ha : After (takeE 32) b s [] l s') {f : Int} (hs : s' = .error f) (k' : Nat) (D' : List (List Int)) : DRel many p0 b k' D' s' := by
  cases s with
  | error e => obtain ⟨_, rfl⟩ := ha; exact h.err _ _
  | ok p =>
    unfold After at ha
    cases ht : takeE 32 b p with
    | error e => simp only [ht] at ha; obtain ⟨_, rfl⟩ := ha; exact h.short hk ht _ _
    | ok x => simp only [ht] at ha; obtain ⟨_, rfl⟩ := ha; cases hs
theorem lastH_mem {D : List (List Int)} (h : 0 < D.length) : lastH D ∈ D := by
  unfold lastH dep
  rw [List.getD_eq_getElem?_getD, List.getElem?_eq_getElem (by omega)]
  exact List.getElem_mem _
theorem own_hash {W : World} {base gd n cap : Nat} {D : List (List Int)} (ho : W.ownsRow base 67 32 (.slice (some ⟨gd, 0, none⟩) n cap) n (ints .u8 D.flatten)) (hD : Hashes D) (hn : D.length = n) {j : Nat} (hj : j + 1 = n) : Rd W.drew .u8 (some ⟨gd, j * 32, none⟩) 32 (lastH D) := by
  obtain ⟨A, c, e, _, hR, _⟩ := own_rdV ho
  cases e
  obtain ⟨b, o, e2, hc⟩ := hR.2 (by omega)
  cases e2
  have hl : lastH D = D.getD j [] := by unfold lastH dep; rw [show D.length - 1 = j by omega]
  refine ⟨(hD _ (lastH_mem (by omega))).1, fun _ => ⟨gd, j * 32, rfl, fun i hi => ?_⟩⟩
  obtain ⟨h1, h2⟩ := flat_rd D hD j i (by omega) hi
  have h3 := hc (j * 32 + i) (.int .u8 (rd D.flatten (j * 32 + i))) (ints_get (by rw [h2]; omega))
  rw [hl, ← h1]
  rw [Nat.zero_add] at h3
  exact h3
theorem takeE_case {b : List Int} {s s' : Except Int Nat} {l : List Int} (h : After (takeE 32) b s [] l s') : (l = [] ∧ ∃ f, s' = .error f) ∨ (l.length = 32 ∧ ∃ p q, s = .ok p ∧ takeE 32 b p = .ok (l, q) ∧ s' = .ok q) := by
  cases s with
  | error f => obtain ⟨rfl, rfl⟩ := h; exact .inl ⟨rfl, f, rfl⟩
  | ok p =>
    unfold After at h
    cases ht : takeE 32 b p with
    | error f => simp only [ht] at h; obtain ⟨rfl, rfl⟩ := h; exact .inl ⟨rfl, f, rfl⟩
    | ok x =>
      obtain ⟨v, q⟩ := x
      simp only [ht] at h
      obtain ⟨rfl, rfl⟩ := h
      refine .inr ⟨?_, p, q, rfl, ht, rfl⟩
      unfold takeE at ht
      split at ht
      · cases ht
      · cases ht
        rw [List.length_take, List.length_drop]; omega
theorem setRow_fr (w : World) (g : Nat) (c : Array Value) : Fr w (w.setRow g c) [some g] := ⟨rfl, rfl, rfl, by simp, fun k _ hS => setRow_other w g k _ (fun e => hS (some g) (by simp) (by rw [e]))⟩
theorem takeE_32 {b : List Int} {p q : Nat} {l : List Int} (h : takeE 32 b p = .ok (l, q)) : l.length = 32 := by
  unfold takeE at h
  split at h
  · cases h
  · cases h
    rw [List.length_take, List.length_drop]; omega
set_option maxHeartbeats 8000000 in
set_option maxRecDepth 100000 in
theorem hGet_calls (A : Option Addr) (n c : Nat) (b : List Int) (w : World) (hR : BSl w A n c b) (hb : ∀ x ∈ b, 0 ≤ x ∧ x ≤ 255) (hn : n ≤ 100000) (hAo : 0 < n → ∀ b1 o1, A = some ⟨b1, o1, none⟩ → b1 < w.heap.size) :
    Calls Try.prog 10 #[.slice A n c] w (HGetEnd w b) := by
  have HR := Lib.hid hR
  have Hl := Lib.hid hR.rd.1
  have Hb := Lib.hid hb
  have Hlen : Hid (b.length ≤ 100000) := Lib.hid (by rw [hR.rd.1]; exact hn)
  have HAo := Lib.hid hAo
  clear hR hb hAo
  go_enter Try.func10, Try.ntmps10
  obtain ⟨g, hg⟩ : ∃ g, g = w.heap.size := ⟨_, rfl⟩
  obtain ⟨rb, hrb⟩ : ∃ r, r = w.heap.size + 1 := ⟨_, rfl⟩
  obtain ⟨gc, hgc⟩ : ∃ r, r = w.heap.size + 1 + 1 := ⟨_, rfl⟩
  obtain ⟨W, hW⟩ : ∃ X, X = ((w.alloc (.cells chg0 27)).alloc (.cells #[.slice A n c, .int .i64 0] 64)).alloc (.cells chg0 27) := ⟨_, rfl⟩
  have HH : HBun w W rb gc g b (.ok 0) ⟨#[]⟩ 0 0 0 ⟨#[]⟩ (.slice none 0 0) [] := by
    have b1 : Below w.heap.size w (w.alloc (.cells chg0 27)) := (Below.refl _ _).alloc (Nat.le_refl _) _
    have b3 : Below w.heap.size w W := by rw [hW]; exact (b1.alloc (by simp) _).alloc (by simp; omega) _
    have h1 : W.heap[g]? = some (.cells chg0 27 (0, 0)) := by
      rw [hW, hg]
      exact (Below.heap_alloc _ _ _ (by simp; omega)).trans ((Below.heap_alloc _ _ _ (by simp)).trans (heap_alloc_new w _))
    have h2 : W.heap[rb]? = some (.cells #[.slice A n c, .int .i64 0] 64 (0, 0)) := by
      rw [hW, hrb]
      refine (Below.heap_alloc _ _ _ (by simp)).trans ?_
      have := heap_alloc_new (w.alloc (.cells chg0 27)) (.cells #[.slice A n c, .int .i64 0] 64)
      simpa using this
    have h3 : W.heap[gc]? = some (.cells chg0 27 (0, 0)) := by
      rw [hW, hgc]
      have := heap_alloc_new ((w.alloc (.cells chg0 27)).alloc (.cells #[.slice A n c, .int .i64 0] 64)) (.cells chg0 27)
      simpa using this
    refine ⟨h1, ⟨A, n, c, 0, ⟨h2, fun p hp => ?_, fun f hf => (by cases hf), HAo.out, by omega⟩⟩, h3, World.ownsRow_nil _ _ _ _, (fun h hh => by cases hh), b3, by omega⟩
    cases hp
    exact ⟨rfl, Nat.zero_le _, Hl.out.symm, HR.out.below b3⟩
  have HH := Lib.hid HH
  have HG := Lib.hid (And.intro hg (And.intro hrb hgc))
  go_upto_region 3 with fail
  simp only [chg0, chgC] at hW
  rw [← hW, ← hgc, ← hrb, ← hg]
  clear hW hg hrb hgc
  obtain ⟨A0, n0, c0, e0, hRd0⟩ := HH.out.rd
  have HRd0 := Lib.hid hRd0
  clear hRd0
  go_wp2_with fail
  refine (hNum_calls rb w.heap.size b (.ok 0) A0 n0 c0 e0 0 16 W HRd0.out Hb.out Hlen.out (by omega) (by omega)).mono ?_
  rintro e1 w1 ⟨N, s1, rfl, Haf1, hE1⟩
  have HH1 := Lib.hid (HH.out.read hE1)
  have hN : N ≤ 16 := by
    have h := Haf1.out
    unfold After at h
    cases hq : numE 0 16 b 0 with
    | error f => simp only [hq] at h; omega
    | ok x =>
      obtain ⟨v, q⟩ := x
      simp only [hq] at h
      obtain ⟨rfl, _⟩ := h
      exact ((numE_just 0 16) b 0 _ q Hb.out (Nat.zero_le _) hq).2.2.2.1
  have HN1 : Hid (∀ f, s1 = .error f → N = 0) := Lib.hid (fun f hf => by
    have h := Haf1.out
    unfold After at h
    cases hq : numE 0 16 b 0 with
    | error f => simp only [hq] at h; exact h.1
    | ok x => simp only [hq] at h; rw [hf] at h; cases h.2)
  clear hE1
  obtain ⟨W1, hW1⟩ : ∃ X, X = w1 := ⟨_, rfl⟩
  subst hW1
  go_wp2_with fail
  go_loopw [18] (fun i wr => ∃ (k : Nat) (s : Except Int Nat) (dv : Value) (D : List (List Int)), k ≤ N ∧ i = .int .i64 k ∧ D.length = k ∧ Hid (HBun w wr rb gc g b s ⟨#[]⟩ 0 0 0 ⟨#[]⟩ dv D) ∧ Hid ((∀ f, s1 = .error f → s = .error f) ∧ (∀ p0, s1 = .ok p0 → DRel N p0 b k D s))) (fun i _ => N - (intOf i).toNat)
  case atStart => exact ⟨0, s1, .slice none 0 0, [], by omega, rfl, rfl, HH1.out, Lib.hid ⟨fun f h => h, fun p0 h => by rw [h]; exact DRel.start _ _ _⟩⟩
  case round =>
    obtain ⟨k, s, dv, D, hk, rfl, hDk, HHk, HD⟩ := hrel
    obtain ⟨Wk, hWk⟩ : ∃ W, W = wr := ⟨_, rfl⟩
    subst hWk
    by_cases hlt : k < N
    · have HDk := Lib.hid hDk
      clear hDk
      go_upto_region 7 with fail
      obtain ⟨h, hh⟩ : ∃ h, h = Wk.heap.size := ⟨_, rfl⟩
      obtain ⟨W6, hW6⟩ : ∃ X, X = Wk.alloc (.cells (ints .u8 (List.replicate 32 0)).toArray 67) := ⟨_, rfl⟩
      have HH6 := Lib.hid (show HBun w W6 rb gc g b s ⟨#[]⟩ 0 0 0 ⟨#[]⟩ dv D by rw [hW6]; exact HHk.out.below ((Below.refl _ _).alloc (Nat.le_refl _) _))
      have HB6 : Hid (Blk W6 h 67 .u8 (List.replicate 32 0)) := Lib.hid (by rw [hW6, hh]; exact heap_alloc_new Wk _)
      have Hhr : Hid (h ≠ rb ∧ h ≠ gc ∧ h ≠ g ∧ w.heap.size ≤ h ∧ dv.ownBlock ≠ some h) := Lib.hid (by
        have h1 := HHk.out.ltr
        have h2 := HHk.out.ltc
        have h3 := HHk.out.ltg
        have h4 := HHk.out.bel.size
        refine ⟨by omega, by omega, by omega, by omega, fun e => ?_⟩
        have := (HHk.out.own.lt h e).2
        omega)
      simp only [ints, List.replicate, List.map] at hW6
      rw [← hW6, ← hh]
      clear hW6 hh
      obtain ⟨A5, n5, c5, e5, hRd⟩ := HH6.out.drew.rd
      have HRd := Lib.hid hRd
      clear hRd
      refine wp_region_noPanic ?_
      refine wp_region_held_drew (S := fun W' => Fr W6 W' [some rb, some h]) (by kernel_rfl) ((Fr.refl _ _).drew) (fun hHeld => ?_)
      refine' wpAnyH_take (i := 0) (oi := ⟨_, _, _, _, _, _⟩) (v := _) rfl (by kernel_rfl) (by kernel_rfl) (by kernel_rfl) (fun _ _ _ h => h) (Or.inl ⟨by rfl, ?hys0⟩) (by assumption) ?rests0
      case hys0 => (intro w hSw; (try dsimp only at hSw); go_simp; try with_reducible rfl)
      try simp only [Act.put, List.setIfInBounds_toArray, List.set_cons_zero, List.set_cons_succ]
      refine' wpAnyH_take (i := 1) (oi := ⟨_, _, _, _, _, _⟩) (v := _) rfl (by kernel_rfl) (by kernel_rfl) (by kernel_rfl) (fun _ _ _ h => h) (Or.inl ⟨by rfl, ?hys1⟩) (by assumption) ?rests1
      case hys1 => (intro w hSw; (try dsimp only at hSw); go_simp; try with_reducible rfl)
      try simp only [Act.put, List.setIfInBounds_toArray, List.set_cons_zero, List.set_cons_succ]
      refine wpAnyH_ready (rs := [2]) (by kernel_rfl) (by simp) ?_
      refine AllReadyH.cons (o := ⟨_, _, _, _, _, _⟩) rfl (fun K hK => ?_) AllReadyH.nil
      go_simp
      go_at_call 27
      refine (hTake_calls rb w.heap.size b s A5 n5 c5 e5 32 _ HRd.out Hlen.out (by omega)).mono ?_
      rintro e7 w7 ⟨v7, l, s7, rfl, ⟨A7, c7, rfl, hS7, _⟩, Haf7, hE7⟩
      have hF7 : Fr W6 w7 [some rb, some h] := (((Fr.refl W6 [some rb]).drew).trans hE7.fr (fun o ho => .inl ho)).mono (fun o ho => by simp at ho; simp [ho])
      have HH7 := Lib.hid (HH6.out.drew.read hE7)
      have HS7 := Lib.hid hS7
      have HB7 : Hid (Blk w7 h 67 .u8 (List.replicate 32 0)) := Lib.hid ((hE7.fr.block h HB6.out.lt (fun o ho e => by simp at ho; subst ho; have := Hhr.out; simp at e; omega)).trans HB6.out)
      clear hS7 hE7
      refine hK.out _ _ (hF7) (fun hHeldN => ?_)
      clear hK K hHeld
      have hHeld := hHeldN
      clear hHeldN
      try simp only [Act.put, List.setIfInBounds_toArray, List.set_cons_zero, List.set_cons_succ]
      have hcase := takeE_case Haf7.out
      rcases hcase with ⟨hl0, f8, hs8⟩ | ⟨hl32, p8, q8, hsp, htk, hs8⟩
      · subst hl0
        obtain ⟨hv, hhv⟩ : ∃ hv, hv = List.replicate 32 (0 : Int) := ⟨_, rfl⟩
        have Hhv : Hid (hv.length = 32 ∧ ∀ x ∈ hv, 0 ≤ x ∧ x ≤ 255) := Lib.hid (by rw [hhv]; exact ⟨by decide, by decide⟩)
        rw [← hhv] at HB7
        clear hhv
        have hcp := copy_hash0 w7 h A7 c7
        refine wpAnyH_ready (rs := [3]) (by kernel_rfl) (by simp) ?_
        refine AllReadyH.cons (o := ⟨_, _, _, _, _, _⟩) rfl (fun K hK => ?_) AllReadyH.nil
        go_simp
        refine hK.out _ _ (hF7) (fun hHeldN => ?_)
        clear hK K hHeld
        have hHeld := hHeldN
        clear hHeldN
        try simp only [Act.put, List.setIfInBounds_toArray, List.set_cons_zero, List.set_cons_succ]
        refine wpAnyH_done (by kernel_rfl) ?_ _
        refine NoPanic.normal ?_
        clear hF7 hHeld hcp
        obtain ⟨W8, hW8⟩ : ∃ X, X = w7 := ⟨_, rfl⟩
        have HH8 := Lib.hid (show HBun w W8 rb gc g b s7 ⟨#[]⟩ 0 0 0 ⟨#[]⟩ dv D by rw [hW8]; exact HH7.out)
        have HB8 := Lib.hid (show Blk W8 h 67 .u8 hv by rw [hW8]; exact HB7.out)
        rw [← hW8]
        clear hW8
        obtain ⟨A8, n8, c8, e8, hRd8⟩ := HH8.out.rd
        have HRd8 := Lib.hid hRd8
        have r1 := hRd8.c1
        have q5 : W8.cell? ⟨gc, 5, none⟩ = some dv := HH8.out.cell 5
        clear hRd8
        have he8 := (HRd8.out.no f8 hs8).2
        have he9 := (HRd8.out.no f8 hs8).1
        subst he9
        have he8b : (e8 == 0) = false := by simpa using he8
        have HDR : Hid (∀ p0, s1 = .ok p0 → DRel N p0 b (k + 1) (D ++ [hv]) s7) := Lib.hid (fun p0 hp0 => drel_err (HD.out.2 p0 hp0) hlt Haf7.out hs8 _ _)
        clear he8 hs8
        by_cases hk0 : k = 0
        · have hk9 : ¬ 0 < k := by omega
          clear hk0
          go_upto_region 8 with fail
          refine wp_region_noPanic ?_
          refine wp_region_held_drew (S := fun W' => W'.cell? ⟨rb, 1, none⟩ = some (.int .i64 e8) ∧ W'.cell? ⟨gc, 5, none⟩ = some dv) (by kernel_rfl) (⟨r1, q5⟩) (fun hHeld => ?_)
          refine' wpAnyH_take (i := 0) (oi := ⟨_, _, _, _, _, _⟩) (v := _) rfl (by kernel_rfl) (by kernel_rfl) (by kernel_rfl) (fun _ _ _ h => h) (Or.inl ⟨by rfl, ?hyt10⟩) (by assumption) ?restt10
          case hyt10 => (intro w hSw; (try dsimp only at hSw); go_simp; try with_reducible rfl)
          try simp only [Act.put, List.setIfInBounds_toArray, List.set_cons_zero, List.set_cons_succ]
          refine' wpAnyH_take (i := 1) (oi := ⟨_, _, _, _, _, _⟩) (v := _) rfl (by kernel_rfl) (by kernel_rfl) (by kernel_rfl) (fun _ _ _ h => h) (Or.inl ⟨by rfl, ?hyt11⟩) (by assumption) ?restt11
          case hyt11 => (intro w hSw; (try dsimp only at hSw); go_simp; try with_reducible rfl)
          try simp only [Act.put, List.setIfInBounds_toArray, List.set_cons_zero, List.set_cons_succ]
          refine' wpAnyH_take (i := 2) (oi := ⟨_, _, _, _, _, _⟩) (v := _) rfl (by kernel_rfl) (by kernel_rfl) (by kernel_rfl) (fun _ _ _ h => h) (Or.inl ⟨by rfl, ?hyt12⟩) (by assumption) ?restt12
          case hyt12 => (intro w hSw; (try dsimp only at hSw); go_simp; try with_reducible rfl)
          try simp only [Act.put, List.setIfInBounds_toArray, List.set_cons_zero, List.set_cons_succ]
          refine' wpAnyH_take (i := 3) (oi := ⟨_, _, _, _, _, _⟩) (v := undef) rfl (by kernel_rfl) (by kernel_rfl) (by kernel_rfl) (fun _ _ _ h => h) (Or.inr ⟨by rfl, rfl⟩) (by assumption) ?_
          try simp only [Act.put, List.setIfInBounds_toArray, List.set_cons_zero, List.set_cons_succ]
          refine' wpAnyH_take (i := 4) (oi := ⟨_, _, _, _, _, _⟩) (v := undef) rfl (by kernel_rfl) (by kernel_rfl) (by kernel_rfl) (fun _ _ _ h => h) (Or.inr ⟨by rfl, rfl⟩) (by assumption) ?_
          try simp only [Act.put, List.setIfInBounds_toArray, List.set_cons_zero, List.set_cons_succ]
          refine' wpAnyH_take (i := 5) (oi := ⟨_, _, _, _, _, _⟩) (v := undef) rfl (by kernel_rfl) (by kernel_rfl) (by kernel_rfl) (fun _ _ _ h => h) (Or.inr ⟨by rfl, rfl⟩) (by assumption) ?_
          try simp only [Act.put, List.setIfInBounds_toArray, List.set_cons_zero, List.set_cons_succ]
          refine' wpAnyH_take (i := 6) (oi := ⟨_, _, _, _, _, _⟩) (v := undef) rfl (by kernel_rfl) (by kernel_rfl) (by kernel_rfl) (fun _ _ _ h => h) (Or.inr ⟨by rfl, rfl⟩) (by assumption) ?_
          try simp only [Act.put, List.setIfInBounds_toArray, List.set_cons_zero, List.set_cons_succ]
          refine' wpAnyH_take (i := 7) (oi := ⟨_, _, _, _, _, _⟩) (v := undef) rfl (by kernel_rfl) (by kernel_rfl) (by kernel_rfl) (fun _ _ _ h => h) (Or.inr ⟨by rfl, rfl⟩) (by assumption) ?_
          try simp only [Act.put, List.setIfInBounds_toArray, List.set_cons_zero, List.set_cons_succ]
          refine' wpAnyH_take (i := 8) (oi := ⟨_, _, _, _, _, _⟩) (v := _) rfl (by kernel_rfl) (by kernel_rfl) (by kernel_rfl) (fun _ _ _ h => h) (Or.inl ⟨by rfl, ?hyu28⟩) (by assumption) ?restu28
          case hyu28 => (intro w hSw; (try dsimp only at hSw); go_simp; try with_reducible rfl)
          try simp only [Act.put, List.setIfInBounds_toArray, List.set_cons_zero, List.set_cons_succ]
          refine' wpAnyH_take (i := 9) (oi := ⟨_, _, _, _, _, _⟩) (v := _) rfl (by kernel_rfl) (by kernel_rfl) (by kernel_rfl) (fun _ _ _ h => h) (Or.inl ⟨by rfl, ?hyu29⟩) (by assumption) ?restu29
          case hyu29 => (intro w hSw; (try dsimp only at hSw); go_simp; try with_reducible rfl)
          try simp only [Act.put, List.setIfInBounds_toArray, List.set_cons_zero, List.set_cons_succ]
          refine' wpAnyH_take (i := 10) (oi := ⟨_, _, _, _, _, _⟩) (v := undef) rfl (by kernel_rfl) (by kernel_rfl) (by kernel_rfl) (fun _ _ _ h => h) (Or.inr ⟨by rfl, rfl⟩) (by assumption) ?_
          try simp only [Act.put, List.setIfInBounds_toArray, List.set_cons_zero, List.set_cons_succ]
          refine' wpAnyH_take (i := 11) (oi := ⟨_, _, _, _, _, _⟩) (v := undef) rfl (by kernel_rfl) (by kernel_rfl) (by kernel_rfl) (fun _ _ _ h => h) (Or.inr ⟨by rfl, rfl⟩) (by assumption) ?_
          try simp only [Act.put, List.setIfInBounds_toArray, List.set_cons_zero, List.set_cons_succ]
          refine' wpAnyH_take (i := 12) (oi := ⟨_, _, _, _, _, _⟩) (v := undef) rfl (by kernel_rfl) (by kernel_rfl) (by kernel_rfl) (fun _ _ _ h => h) (Or.inr ⟨by rfl, rfl⟩) (by assumption) ?_
          try simp only [Act.put, List.setIfInBounds_toArray, List.set_cons_zero, List.set_cons_succ]
          refine' wpAnyH_take (i := 13) (oi := ⟨_, _, _, _, _, _⟩) (v := undef) rfl (by kernel_rfl) (by kernel_rfl) (by kernel_rfl) (fun _ _ _ h => h) (Or.inr ⟨by rfl, rfl⟩) (by assumption) ?_
          try simp only [Act.put, List.setIfInBounds_toArray, List.set_cons_zero, List.set_cons_succ]
          refine' wpAnyH_take (i := 14) (oi := ⟨_, _, _, _, _, _⟩) (v := undef) rfl (by kernel_rfl) (by kernel_rfl) (by kernel_rfl) (fun _ _ _ h => h) (Or.inr ⟨by rfl, rfl⟩) (by assumption) ?_
          try simp only [Act.put, List.setIfInBounds_toArray, List.set_cons_zero, List.set_cons_succ]
          refine' wpAnyH_take (i := 15) (oi := ⟨_, _, _, _, _, _⟩) (v := undef) rfl (by kernel_rfl) (by kernel_rfl) (by kernel_rfl) (fun _ _ _ h => h) (Or.inr ⟨by rfl, rfl⟩) (by assumption) ?_
          try simp only [Act.put, List.setIfInBounds_toArray, List.set_cons_zero, List.set_cons_succ]
          refine' wpAnyH_take (i := 16) (oi := ⟨_, _, _, _, _, _⟩) (v := undef) rfl (by kernel_rfl) (by kernel_rfl) (by kernel_rfl) (fun _ _ _ h => h) (Or.inr ⟨by rfl, rfl⟩) (by assumption) ?_
          try simp only [Act.put, List.setIfInBounds_toArray, List.set_cons_zero, List.set_cons_succ]
          refine' wpAnyH_take (i := 17) (oi := ⟨_, _, _, _, _, _⟩) (v := undef) rfl (by kernel_rfl) (by kernel_rfl) (by kernel_rfl) (fun _ _ _ h => h) (Or.inr ⟨by rfl, rfl⟩) (by assumption) ?_
          try simp only [Act.put, List.setIfInBounds_toArray, List.set_cons_zero, List.set_cons_succ]
          refine' wpAnyH_take (i := 18) (oi := ⟨_, _, _, _, _, _⟩) (v := undef) rfl (by kernel_rfl) (by kernel_rfl) (by kernel_rfl) (fun _ _ _ h => h) (Or.inr ⟨by rfl, rfl⟩) (by assumption) ?_
          try simp only [Act.put, List.setIfInBounds_toArray, List.set_cons_zero, List.set_cons_succ]
          refine' wpAnyH_take (i := 19) (oi := ⟨_, _, _, _, _, _⟩) (v := _) rfl (by kernel_rfl) (by kernel_rfl) (by kernel_rfl) (fun _ _ _ h => h) (Or.inl ⟨by rfl, ?hyv319⟩) (by assumption) ?restv319
          case hyv319 => (intro w hSw; (try dsimp only at hSw); go_simp; try with_reducible rfl)
          try simp only [Act.put, List.setIfInBounds_toArray, List.set_cons_zero, List.set_cons_succ]
          refine wpAnyH_done (by kernel_rfl) ?_ _
          refine NoPanic.normal ?_
          clear hHeld
          obtain ⟨W9, hW9⟩ : ∃ X, X = W8.drew := ⟨_, rfl⟩
          have HH9 := Lib.hid (show HBun w W9 rb gc g b s7 ⟨#[]⟩ 0 0 0 ⟨#[]⟩ dv D by rw [hW9]; exact HH8.out.drew)
          have HB9 := Lib.hid (show Blk W9 h 67 .u8 hv by rw [hW9]; exact HB8.out)
          rw [← hW9]
          clear hW9
          go_upto_region 10 with fail
          have HBv := Lib.hid (show ∀ j, j < 32 → W9.cell? ⟨h, 0 + j, none⟩ = some (.int .u8 (rd hv j)) from fun j hj => by rw [Nat.zero_add]; exact HB9.cell (by rw [Hhv.out.1]; exact hj))
          have q5 : W9.cell? ⟨gc, 5, none⟩ = some dv := HH9.out.cell 5
          have HO := Lib.hid (show W9.ownsRow w.heap.size 67 32 dv k (ints .u8 D.flatten) by have := HH9.out.own; rw [HDk.out] at this; exact this)
          have hB9s := HH9.out.bel.size
          go_wp2_with (first
            | (refine wpList_loadHash rfl _ rfl rfl Hhv.out.1 HBv.out ?_)
            | (refine wpList_oneHash rfl _ rfl rfl Hhv.out.1 ?_)
            | (at_builtin; refine wpList_appHash rfl _ _ rfl HO.out rfl rfl rfl Hhv.out.1 (by omega) hB9s ?_; intro gq cap w4 hown4 hfr4 hat4 hlt4; have Hown4 := Lib.hid hown4; have Hfr4 := Lib.hid hfr4; have Hat4 := Lib.hid hat4; have hrow4 := (hfr4.block gc HH9.out.ltc (fun o ho e => by simp at ho; subst ho; exact HH9.out.apart_c gc e rfl)).trans HH9.out.chg; have c5 := cell_of_row w4 gc 5 _ _ (0, 0) hrow4; have f5 := frozen_of_row w4 gc 5 _ _ hrow4; simp only [chgC, List.getElem?_toArray, List.getElem?_cons_succ, List.getElem?_cons_zero] at c5; clear hown4 hfr4 hat4 hrow4))
          go_roundw
          case rel =>
            have hM := HBun.more HH9.out Hhv.out.1 Hhv.out.2 (by rw [HDk.out]; exact Hown4.out) Hfr4.out Hat4.out
            rw [HDk.out] at hM
            refine ⟨k + 1, s7, _, D ++ [hv], by omega, by go_num, by rw [List.length_append, HDk.out]; rfl, Lib.hid hM, Lib.hid ⟨fun f hf => ?_, fun p0 hp0 => ?_⟩⟩
            · exact absurd (HN1.out f hf) (by omega)
            · exact HDR.out p0 hp0
          case measure => simp [intOf]; omega
        · have hk9 : 0 < k := by omega
          clear hk0
          go_upto_region 8 with fail
          refine wp_region_noPanic ?_
          refine wp_region_held_drew (S := fun W' => W'.cell? ⟨rb, 1, none⟩ = some (.int .i64 e8) ∧ W'.cell? ⟨gc, 5, none⟩ = some dv) (by kernel_rfl) (⟨r1, q5⟩) (fun hHeld => ?_)
          refine' wpAnyH_take (i := 0) (oi := ⟨_, _, _, _, _, _⟩) (v := _) rfl (by kernel_rfl) (by kernel_rfl) (by kernel_rfl) (fun _ _ _ h => h) (Or.inl ⟨by rfl, ?hyt40⟩) (by assumption) ?restt40
          case hyt40 => (intro w hSw; (try dsimp only at hSw); go_simp; try with_reducible rfl)
          try simp only [Act.put, List.setIfInBounds_toArray, List.set_cons_zero, List.set_cons_succ]
          refine' wpAnyH_take (i := 1) (oi := ⟨_, _, _, _, _, _⟩) (v := _) rfl (by kernel_rfl) (by kernel_rfl) (by kernel_rfl) (fun _ _ _ h => h) (Or.inl ⟨by rfl, ?hyt41⟩) (by assumption) ?restt41
          case hyt41 => (intro w hSw; (try dsimp only at hSw); go_simp; try with_reducible rfl)
          try simp only [Act.put, List.setIfInBounds_toArray, List.set_cons_zero, List.set_cons_succ]
          refine' wpAnyH_take (i := 2) (oi := ⟨_, _, _, _, _, _⟩) (v := _) rfl (by kernel_rfl) (by kernel_rfl) (by kernel_rfl) (fun _ _ _ h => h) (Or.inl ⟨by rfl, ?hyt42⟩) (by assumption) ?restt42
          case hyt42 => (intro w hSw; (try dsimp only at hSw); go_simp; try with_reducible rfl)
          try simp only [Act.put, List.setIfInBounds_toArray, List.set_cons_zero, List.set_cons_succ]
          refine' wpAnyH_take (i := 3) (oi := ⟨_, _, _, _, _, _⟩) (v := _) rfl (by kernel_rfl) (by kernel_rfl) (by kernel_rfl) (fun _ _ _ h => h) (Or.inl ⟨by rfl, ?hyt43⟩) (by assumption) ?restt43
          case hyt43 => (intro w hSw; (try dsimp only at hSw); go_simp; try with_reducible rfl)
          try simp only [Act.put, List.setIfInBounds_toArray, List.set_cons_zero, List.set_cons_succ]
          refine' wpAnyH_take (i := 4) (oi := ⟨_, _, _, _, _, _⟩) (v := _) rfl (by kernel_rfl) (by kernel_rfl) (by kernel_rfl) (fun _ _ _ h => h) (Or.inl ⟨by rfl, ?hyt44⟩) (by assumption) ?restt44
          case hyt44 => (intro w hSw; (try dsimp only at hSw); go_simp; try with_reducible rfl)
          try simp only [Act.put, List.setIfInBounds_toArray, List.set_cons_zero, List.set_cons_succ]
          refine' wpAnyH_take (i := 5) (oi := ⟨_, _, _, _, _, _⟩) (v := _) rfl (by kernel_rfl) (by kernel_rfl) (by kernel_rfl) (fun _ _ _ h => h) (Or.inl ⟨by rfl, ?hyt45⟩) (by assumption) ?restt45
          case hyt45 => (intro w hSw; (try dsimp only at hSw); go_simp; try with_reducible rfl)
          try simp only [Act.put, List.setIfInBounds_toArray, List.set_cons_zero, List.set_cons_succ]
          refine' wpAnyH_take (i := 6) (oi := ⟨_, _, _, _, _, _⟩) (v := _) rfl (by kernel_rfl) (by kernel_rfl) (by kernel_rfl) (fun _ _ _ h => h) (Or.inl ⟨by rfl, ?hyt46⟩) (by assumption) ?restt46
          case hyt46 => (intro w hSw; (try dsimp only at hSw); go_simp; try with_reducible rfl)
          try simp only [Act.put, List.setIfInBounds_toArray, List.set_cons_zero, List.set_cons_succ]
          refine' wpAnyH_take (i := 7) (oi := ⟨_, _, _, _, _, _⟩) (v := _) rfl (by kernel_rfl) (by kernel_rfl) (by kernel_rfl) (fun _ _ _ h => h) (Or.inl ⟨by rfl, ?hyt47⟩) (by assumption) ?restt47
          case hyt47 => (intro w hSw; (try dsimp only at hSw); go_simp; try with_reducible rfl)
          try simp only [Act.put, List.setIfInBounds_toArray, List.set_cons_zero, List.set_cons_succ]
          refine' wpAnyH_take (i := 8) (oi := ⟨_, _, _, _, _, _⟩) (v := _) rfl (by kernel_rfl) (by kernel_rfl) (by kernel_rfl) (fun _ _ _ h => h) (Or.inl ⟨by rfl, ?hyt48⟩) (by assumption) ?restt48
          case hyt48 => (intro w hSw; (try dsimp only at hSw); go_simp; try with_reducible rfl)
          try simp only [Act.put, List.setIfInBounds_toArray, List.set_cons_zero, List.set_cons_succ]
          refine' wpAnyH_take (i := 9) (oi := ⟨_, _, _, _, _, _⟩) (v := _) rfl (by kernel_rfl) (by kernel_rfl) (by kernel_rfl) (fun _ _ _ h => h) (Or.inl ⟨by rfl, ?hyt49⟩) (by assumption) ?restt49
          case hyt49 => (intro w hSw; (try dsimp only at hSw); go_simp; try with_reducible rfl)
          try simp only [Act.put, List.setIfInBounds_toArray, List.set_cons_zero, List.set_cons_succ]
          refine' wpAnyH_take (i := 10) (oi := ⟨_, _, _, _, _, _⟩) (v := undef) rfl (by kernel_rfl) (by kernel_rfl) (by kernel_rfl) (fun _ _ _ h => h) (Or.inr ⟨by rfl, rfl⟩) (by assumption) ?_
          try simp only [Act.put, List.setIfInBounds_toArray, List.set_cons_zero, List.set_cons_succ]
          refine' wpAnyH_take (i := 11) (oi := ⟨_, _, _, _, _, _⟩) (v := undef) rfl (by kernel_rfl) (by kernel_rfl) (by kernel_rfl) (fun _ _ _ h => h) (Or.inr ⟨by rfl, rfl⟩) (by assumption) ?_
          try simp only [Act.put, List.setIfInBounds_toArray, List.set_cons_zero, List.set_cons_succ]
          refine' wpAnyH_take (i := 12) (oi := ⟨_, _, _, _, _, _⟩) (v := undef) rfl (by kernel_rfl) (by kernel_rfl) (by kernel_rfl) (fun _ _ _ h => h) (Or.inr ⟨by rfl, rfl⟩) (by assumption) ?_
          try simp only [Act.put, List.setIfInBounds_toArray, List.set_cons_zero, List.set_cons_succ]
          refine' wpAnyH_take (i := 13) (oi := ⟨_, _, _, _, _, _⟩) (v := undef) rfl (by kernel_rfl) (by kernel_rfl) (by kernel_rfl) (fun _ _ _ h => h) (Or.inr ⟨by rfl, rfl⟩) (by assumption) ?_
          try simp only [Act.put, List.setIfInBounds_toArray, List.set_cons_zero, List.set_cons_succ]
          refine' wpAnyH_take (i := 14) (oi := ⟨_, _, _, _, _, _⟩) (v := undef) rfl (by kernel_rfl) (by kernel_rfl) (by kernel_rfl) (fun _ _ _ h => h) (Or.inr ⟨by rfl, rfl⟩) (by assumption) ?_
          try simp only [Act.put, List.setIfInBounds_toArray, List.set_cons_zero, List.set_cons_succ]
          refine' wpAnyH_take (i := 15) (oi := ⟨_, _, _, _, _, _⟩) (v := undef) rfl (by kernel_rfl) (by kernel_rfl) (by kernel_rfl) (fun _ _ _ h => h) (Or.inr ⟨by rfl, rfl⟩) (by assumption) ?_
          try simp only [Act.put, List.setIfInBounds_toArray, List.set_cons_zero, List.set_cons_succ]
          refine' wpAnyH_take (i := 16) (oi := ⟨_, _, _, _, _, _⟩) (v := undef) rfl (by kernel_rfl) (by kernel_rfl) (by kernel_rfl) (fun _ _ _ h => h) (Or.inr ⟨by rfl, rfl⟩) (by assumption) ?_
          try simp only [Act.put, List.setIfInBounds_toArray, List.set_cons_zero, List.set_cons_succ]
          refine' wpAnyH_take (i := 17) (oi := ⟨_, _, _, _, _, _⟩) (v := undef) rfl (by kernel_rfl) (by kernel_rfl) (by kernel_rfl) (fun _ _ _ h => h) (Or.inr ⟨by rfl, rfl⟩) (by assumption) ?_
          try simp only [Act.put, List.setIfInBounds_toArray, List.set_cons_zero, List.set_cons_succ]
          refine' wpAnyH_take (i := 18) (oi := ⟨_, _, _, _, _, _⟩) (v := undef) rfl (by kernel_rfl) (by kernel_rfl) (by kernel_rfl) (fun _ _ _ h => h) (Or.inr ⟨by rfl, rfl⟩) (by assumption) ?_
          try simp only [Act.put, List.setIfInBounds_toArray, List.set_cons_zero, List.set_cons_succ]
          refine' wpAnyH_take (i := 19) (oi := ⟨_, _, _, _, _, _⟩) (v := _) rfl (by kernel_rfl) (by kernel_rfl) (by kernel_rfl) (fun _ _ _ h => h) (Or.inl ⟨by rfl, ?hyv519⟩) (by assumption) ?restv519
          case hyv519 => (intro w hSw; (try dsimp only at hSw); go_simp; try with_reducible rfl)
          try simp only [Act.put, List.setIfInBounds_toArray, List.set_cons_zero, List.set_cons_succ]
          refine wpAnyH_done (by kernel_rfl) ?_ _
          refine NoPanic.normal ?_
          clear hHeld
          obtain ⟨W9, hW9⟩ : ∃ X, X = W8.drew := ⟨_, rfl⟩
          have HH9 := Lib.hid (show HBun w W9 rb gc g b s7 ⟨#[]⟩ 0 0 0 ⟨#[]⟩ dv D by rw [hW9]; exact HH8.out.drew)
          have HB9 := Lib.hid (show Blk W9 h 67 .u8 hv by rw [hW9]; exact HB8.out)
          rw [← hW9]
          clear hW9
          go_upto_region 10 with fail
          have HBv := Lib.hid (show ∀ j, j < 32 → W9.cell? ⟨h, 0 + j, none⟩ = some (.int .u8 (rd hv j)) from fun j hj => by rw [Nat.zero_add]; exact HB9.cell (by rw [Hhv.out.1]; exact hj))
          have q5 : W9.cell? ⟨gc, 5, none⟩ = some dv := HH9.out.cell 5
          have HO := Lib.hid (show W9.ownsRow w.heap.size 67 32 dv k (ints .u8 D.flatten) by have := HH9.out.own; rw [HDk.out] at this; exact this)
          have hB9s := HH9.out.bel.size
          go_wp2_with (first
            | (refine wpList_loadHash rfl _ rfl rfl Hhv.out.1 HBv.out ?_)
            | (refine wpList_oneHash rfl _ rfl rfl Hhv.out.1 ?_)
            | (at_builtin; refine wpList_appHash rfl _ _ rfl HO.out rfl rfl rfl Hhv.out.1 (by omega) hB9s ?_; intro gq cap w4 hown4 hfr4 hat4 hlt4; have Hown4 := Lib.hid hown4; have Hfr4 := Lib.hid hfr4; have Hat4 := Lib.hid hat4; have hrow4 := (hfr4.block gc HH9.out.ltc (fun o ho e => by simp at ho; subst ho; exact HH9.out.apart_c gc e rfl)).trans HH9.out.chg; have c5 := cell_of_row w4 gc 5 _ _ (0, 0) hrow4; have f5 := frozen_of_row w4 gc 5 _ _ hrow4; simp only [chgC, List.getElem?_toArray, List.getElem?_cons_succ, List.getElem?_cons_zero] at c5; clear hown4 hfr4 hat4 hrow4))
          go_roundw
          case rel =>
            have hM := HBun.more HH9.out Hhv.out.1 Hhv.out.2 (by rw [HDk.out]; exact Hown4.out) Hfr4.out Hat4.out
            rw [HDk.out] at hM
            refine ⟨k + 1, s7, _, D ++ [hv], by omega, by go_num, by rw [List.length_append, HDk.out]; rfl, Lib.hid hM, Lib.hid ⟨fun f hf => ?_, fun p0 hp0 => ?_⟩⟩
            · exact absurd (HN1.out f hf) (by omega)
            · exact HDR.out p0 hp0
          case measure => simp [intOf]; omega
      · obtain ⟨hv, hhv⟩ : ∃ hv, hv = l := ⟨_, rfl⟩
        rw [← hhv] at hl32 htk Haf7
        have Hhv : Hid (hv.length = 32 ∧ ∀ x ∈ hv, 0 ≤ x ∧ x ≤ 255) := Lib.hid ⟨hl32, (takeE_just 32 b p8 hv q8 Hb.out (takeE_le htk) htk).2.2.2.1⟩
        have hcp := copy_hash (c := c7) (by decide) HB7.out (by rw [← hhv]; exact hl32) HS7.out.rd
        refine wpAnyH_ready (rs := [3]) (by kernel_rfl) (by simp) ?_
        refine AllReadyH.cons (o := ⟨_, _, _, _, _, _⟩) rfl (fun K hK => ?_) AllReadyH.nil
        go_simp
        refine hK.out _ _ ((hF7.trans (setRow_fr w7 h _) (fun o ho => .inl (by simp at ho; simp [ho])))) (fun hHeldN => ?_)
        clear hK K hHeld
        have hHeld := hHeldN
        clear hHeldN
        try simp only [Act.put, List.setIfInBounds_toArray, List.set_cons_zero, List.set_cons_succ]
        refine wpAnyH_done (by kernel_rfl) ?_ _
        refine NoPanic.normal ?_
        clear hF7 hHeld hcp
        obtain ⟨W8, hW8⟩ : ∃ X, X = w7.setRow h (ints .u8 l).toArray := ⟨_, rfl⟩
        have HH8 := Lib.hid (show HBun w W8 rb gc g b s7 ⟨#[]⟩ 0 0 0 ⟨#[]⟩ dv D by rw [hW8]; exact (HH7.out.fr (setRow_fr w7 h _) (fun j hj => by simp at hj; subst hj; obtain ⟨x1, x2, x3, x4, x5⟩ := Hhr.out; exact ⟨x4, x3, x1, x2, x5⟩)))
        have HB8 := Lib.hid (show Blk W8 h 67 .u8 hv by rw [hW8]; exact (by have := setRow_heap w7 h _ (ints .u8 l).toArray 67 _ HB7.out; rw [hhv]; exact this))
        rw [← hW8]
        clear hW8
        obtain ⟨A8, n8, c8, e8, hRd8⟩ := HH8.out.rd
        have HRd8 := Lib.hid hRd8
        have r1 := hRd8.c1
        have q5 : W8.cell? ⟨gc, 5, none⟩ = some dv := HH8.out.cell 5
        clear hRd8
        have he9 := (HRd8.out.ok q8 hs8).1
        subst he9
        have Htk := Lib.hid htk
        have Hsp := Lib.hid hsp
        have Hs8 := Lib.hid hs8
        have HDp : Hid (∀ p0, s1 = .ok p0 → DRel N p0 b k D (.ok p8)) := Lib.hid (fun p0 hp0 => by have := HD.out.2 p0 hp0; rw [hsp] at this; exact this)
        clear hl32 hhv htk hsp hs8
        by_cases hk0 : k = 0
        · have hk9 : ¬ 0 < k := by omega
          have Hgd : Hid (¬ (0 < D.length ∧ ¬ lastH D < hv)) := Lib.hid (fun h => by rw [HDk.out] at h; omega)
          clear hk0
          go_upto_region 8 with fail
          refine wp_region_noPanic ?_
          refine wp_region_held_drew (S := fun W' => W'.cell? ⟨rb, 1, none⟩ = some (.int .i64 0) ∧ W'.cell? ⟨gc, 5, none⟩ = some dv) (by kernel_rfl) (⟨r1, q5⟩) (fun hHeld => ?_)
          refine' wpAnyH_take (i := 0) (oi := ⟨_, _, _, _, _, _⟩) (v := _) rfl (by kernel_rfl) (by kernel_rfl) (by kernel_rfl) (fun _ _ _ h => h) (Or.inl ⟨by rfl, ?hyt60⟩) (by assumption) ?restt60
          case hyt60 => (intro w hSw; (try dsimp only at hSw); go_simp; try with_reducible rfl)
          try simp only [Act.put, List.setIfInBounds_toArray, List.set_cons_zero, List.set_cons_succ]
          refine' wpAnyH_take (i := 1) (oi := ⟨_, _, _, _, _, _⟩) (v := _) rfl (by kernel_rfl) (by kernel_rfl) (by kernel_rfl) (fun _ _ _ h => h) (Or.inl ⟨by rfl, ?hyt61⟩) (by assumption) ?restt61
          case hyt61 => (intro w hSw; (try dsimp only at hSw); go_simp; try with_reducible rfl)
          try simp only [Act.put, List.setIfInBounds_toArray, List.set_cons_zero, List.set_cons_succ]
          refine' wpAnyH_take (i := 2) (oi := ⟨_, _, _, _, _, _⟩) (v := _) rfl (by kernel_rfl) (by kernel_rfl) (by kernel_rfl) (fun _ _ _ h => h) (Or.inl ⟨by rfl, ?hyt62⟩) (by assumption) ?restt62
          case hyt62 => (intro w hSw; (try dsimp only at hSw); go_simp; try with_reducible rfl)
          try simp only [Act.put, List.setIfInBounds_toArray, List.set_cons_zero, List.set_cons_succ]
          refine' wpAnyH_take (i := 3) (oi := ⟨_, _, _, _, _, _⟩) (v := undef) rfl (by kernel_rfl) (by kernel_rfl) (by kernel_rfl) (fun _ _ _ h => h) (Or.inr ⟨by rfl, rfl⟩) (by assumption) ?_
          try simp only [Act.put, List.setIfInBounds_toArray, List.set_cons_zero, List.set_cons_succ]
          refine' wpAnyH_take (i := 4) (oi := ⟨_, _, _, _, _, _⟩) (v := undef) rfl (by kernel_rfl) (by kernel_rfl) (by kernel_rfl) (fun _ _ _ h => h) (Or.inr ⟨by rfl, rfl⟩) (by assumption) ?_
          try simp only [Act.put, List.setIfInBounds_toArray, List.set_cons_zero, List.set_cons_succ]
          refine' wpAnyH_take (i := 5) (oi := ⟨_, _, _, _, _, _⟩) (v := undef) rfl (by kernel_rfl) (by kernel_rfl) (by kernel_rfl) (fun _ _ _ h => h) (Or.inr ⟨by rfl, rfl⟩) (by assumption) ?_
          try simp only [Act.put, List.setIfInBounds_toArray, List.set_cons_zero, List.set_cons_succ]
          refine' wpAnyH_take (i := 6) (oi := ⟨_, _, _, _, _, _⟩) (v := undef) rfl (by kernel_rfl) (by kernel_rfl) (by kernel_rfl) (fun _ _ _ h => h) (Or.inr ⟨by rfl, rfl⟩) (by assumption) ?_
          try simp only [Act.put, List.setIfInBounds_toArray, List.set_cons_zero, List.set_cons_succ]
          refine' wpAnyH_take (i := 7) (oi := ⟨_, _, _, _, _, _⟩) (v := undef) rfl (by kernel_rfl) (by kernel_rfl) (by kernel_rfl) (fun _ _ _ h => h) (Or.inr ⟨by rfl, rfl⟩) (by assumption) ?_
          try simp only [Act.put, List.setIfInBounds_toArray, List.set_cons_zero, List.set_cons_succ]
          refine' wpAnyH_take (i := 8) (oi := ⟨_, _, _, _, _, _⟩) (v := _) rfl (by kernel_rfl) (by kernel_rfl) (by kernel_rfl) (fun _ _ _ h => h) (Or.inl ⟨by rfl, ?hyu78⟩) (by assumption) ?restu78
          case hyu78 => (intro w hSw; (try dsimp only at hSw); go_simp; try with_reducible rfl)
          try simp only [Act.put, List.setIfInBounds_toArray, List.set_cons_zero, List.set_cons_succ]
          refine' wpAnyH_take (i := 9) (oi := ⟨_, _, _, _, _, _⟩) (v := _) rfl (by kernel_rfl) (by kernel_rfl) (by kernel_rfl) (fun _ _ _ h => h) (Or.inl ⟨by rfl, ?hyu79⟩) (by assumption) ?restu79
          case hyu79 => (intro w hSw; (try dsimp only at hSw); go_simp; try with_reducible rfl)
          try simp only [Act.put, List.setIfInBounds_toArray, List.set_cons_zero, List.set_cons_succ]
          refine' wpAnyH_take (i := 10) (oi := ⟨_, _, _, _, _, _⟩) (v := undef) rfl (by kernel_rfl) (by kernel_rfl) (by kernel_rfl) (fun _ _ _ h => h) (Or.inr ⟨by rfl, rfl⟩) (by assumption) ?_
          try simp only [Act.put, List.setIfInBounds_toArray, List.set_cons_zero, List.set_cons_succ]
          refine' wpAnyH_take (i := 11) (oi := ⟨_, _, _, _, _, _⟩) (v := undef) rfl (by kernel_rfl) (by kernel_rfl) (by kernel_rfl) (fun _ _ _ h => h) (Or.inr ⟨by rfl, rfl⟩) (by assumption) ?_
          try simp only [Act.put, List.setIfInBounds_toArray, List.set_cons_zero, List.set_cons_succ]
          refine' wpAnyH_take (i := 12) (oi := ⟨_, _, _, _, _, _⟩) (v := undef) rfl (by kernel_rfl) (by kernel_rfl) (by kernel_rfl) (fun _ _ _ h => h) (Or.inr ⟨by rfl, rfl⟩) (by assumption) ?_
          try simp only [Act.put, List.setIfInBounds_toArray, List.set_cons_zero, List.set_cons_succ]
          refine' wpAnyH_take (i := 13) (oi := ⟨_, _, _, _, _, _⟩) (v := undef) rfl (by kernel_rfl) (by kernel_rfl) (by kernel_rfl) (fun _ _ _ h => h) (Or.inr ⟨by rfl, rfl⟩) (by assumption) ?_
          try simp only [Act.put, List.setIfInBounds_toArray, List.set_cons_zero, List.set_cons_succ]
          refine' wpAnyH_take (i := 14) (oi := ⟨_, _, _, _, _, _⟩) (v := undef) rfl (by kernel_rfl) (by kernel_rfl) (by kernel_rfl) (fun _ _ _ h => h) (Or.inr ⟨by rfl, rfl⟩) (by assumption) ?_
          try simp only [Act.put, List.setIfInBounds_toArray, List.set_cons_zero, List.set_cons_succ]
          refine' wpAnyH_take (i := 15) (oi := ⟨_, _, _, _, _, _⟩) (v := undef) rfl (by kernel_rfl) (by kernel_rfl) (by kernel_rfl) (fun _ _ _ h => h) (Or.inr ⟨by rfl, rfl⟩) (by assumption) ?_
          try simp only [Act.put, List.setIfInBounds_toArray, List.set_cons_zero, List.set_cons_succ]
          refine' wpAnyH_take (i := 16) (oi := ⟨_, _, _, _, _, _⟩) (v := undef) rfl (by kernel_rfl) (by kernel_rfl) (by kernel_rfl) (fun _ _ _ h => h) (Or.inr ⟨by rfl, rfl⟩) (by assumption) ?_
          try simp only [Act.put, List.setIfInBounds_toArray, List.set_cons_zero, List.set_cons_succ]
          refine' wpAnyH_take (i := 17) (oi := ⟨_, _, _, _, _, _⟩) (v := undef) rfl (by kernel_rfl) (by kernel_rfl) (by kernel_rfl) (fun _ _ _ h => h) (Or.inr ⟨by rfl, rfl⟩) (by assumption) ?_
          try simp only [Act.put, List.setIfInBounds_toArray, List.set_cons_zero, List.set_cons_succ]
          refine' wpAnyH_take (i := 18) (oi := ⟨_, _, _, _, _, _⟩) (v := undef) rfl (by kernel_rfl) (by kernel_rfl) (by kernel_rfl) (fun _ _ _ h => h) (Or.inr ⟨by rfl, rfl⟩) (by assumption) ?_
          try simp only [Act.put, List.setIfInBounds_toArray, List.set_cons_zero, List.set_cons_succ]
          refine' wpAnyH_take (i := 19) (oi := ⟨_, _, _, _, _, _⟩) (v := _) rfl (by kernel_rfl) (by kernel_rfl) (by kernel_rfl) (fun _ _ _ h => h) (Or.inl ⟨by rfl, ?hyv819⟩) (by assumption) ?restv819
          case hyv819 => (intro w hSw; (try dsimp only at hSw); go_simp; try with_reducible rfl)
          try simp only [Act.put, List.setIfInBounds_toArray, List.set_cons_zero, List.set_cons_succ]
          refine wpAnyH_done (by kernel_rfl) ?_ _
          refine NoPanic.normal ?_
          clear hHeld
          obtain ⟨W9, hW9⟩ : ∃ X, X = W8.drew := ⟨_, rfl⟩
          have HH9 := Lib.hid (show HBun w W9 rb gc g b s7 ⟨#[]⟩ 0 0 0 ⟨#[]⟩ dv D by rw [hW9]; exact HH8.out.drew)
          have HB9 := Lib.hid (show Blk W9 h 67 .u8 hv by rw [hW9]; exact HB8.out)
          rw [← hW9]
          clear hW9
          go_upto_region 10 with fail
          have HBv := Lib.hid (show ∀ j, j < 32 → W9.cell? ⟨h, 0 + j, none⟩ = some (.int .u8 (rd hv j)) from fun j hj => by rw [Nat.zero_add]; exact HB9.cell (by rw [Hhv.out.1]; exact hj))
          have q5 : W9.cell? ⟨gc, 5, none⟩ = some dv := HH9.out.cell 5
          have HO := Lib.hid (show W9.ownsRow w.heap.size 67 32 dv k (ints .u8 D.flatten) by have := HH9.out.own; rw [HDk.out] at this; exact this)
          have hB9s := HH9.out.bel.size
          go_wp2_with (first
            | (refine wpList_loadHash rfl _ rfl rfl Hhv.out.1 HBv.out ?_)
            | (refine wpList_oneHash rfl _ rfl rfl Hhv.out.1 ?_)
            | (at_builtin; refine wpList_appHash rfl _ _ rfl HO.out rfl rfl rfl Hhv.out.1 (by omega) hB9s ?_; intro gq cap w4 hown4 hfr4 hat4 hlt4; have Hown4 := Lib.hid hown4; have Hfr4 := Lib.hid hfr4; have Hat4 := Lib.hid hat4; have hrow4 := (hfr4.block gc HH9.out.ltc (fun o ho e => by simp at ho; subst ho; exact HH9.out.apart_c gc e rfl)).trans HH9.out.chg; have c5 := cell_of_row w4 gc 5 _ _ (0, 0) hrow4; have f5 := frozen_of_row w4 gc 5 _ _ hrow4; simp only [chgC, List.getElem?_toArray, List.getElem?_cons_succ, List.getElem?_cons_zero] at c5; clear hown4 hfr4 hat4 hrow4))
          go_roundw
          case rel =>
            have hM := HBun.more HH9.out Hhv.out.1 Hhv.out.2 (by rw [HDk.out]; exact Hown4.out) Hfr4.out Hat4.out
            rw [HDk.out] at hM
            refine ⟨k + 1, s7, _, D ++ [hv], by omega, by go_num, by rw [List.length_append, HDk.out]; rfl, Lib.hid hM, Lib.hid ⟨fun f hf => ?_, fun p0 hp0 => ?_⟩⟩
            · exact absurd (HN1.out f hf) (by omega)
            · exact by rw [Hs8.out]; exact (HDp.out p0 hp0).next hlt Htk.out Hgd.out
          case measure => simp [intOf]; omega
        · obtain ⟨j, hj⟩ : ∃ j, k = j + 1 := ⟨k - 1, by omega⟩
          subst hj
          clear hk0
          have hown := HH8.out.own
          rw [HDk.out] at hown
          obtain ⟨gd, cd, hdv, _, hgd, hcd, _, _⟩ := own_form hown (by omega)
          subst hdv
          have HRj := Lib.hid (own_hash hown HH8.out.hs HDk.out (j := j) (by omega))
          have HRv : Hid (Rd W8.drew .u8 (some ⟨h, 0, none⟩) 32 hv) := Lib.hid ⟨Hhv.out.1, fun _ => ⟨h, 0, rfl, fun i hi => by rw [Nat.zero_add]; exact HB8.out.cell (by rw [Hhv.out.1]; exact hi)⟩⟩
          have HbL : Hid (∀ x ∈ lastH D, 0 ≤ x ∧ x ≤ 255) := Lib.hid (fun x hx => (HH8.out.hs (lastH D) (lastH_mem (by rw [HDk.out]; omega))).2 x hx)
          have hj1 : ((j + 1 : Nat) : Int) - 1 = (j : Int) := by omega
          have hj2 : (j : Int) + 1 - 1 = (j : Int) := by omega
          have hj3 : IntKind.i64.wrap (j : Int) = (j : Int) := i64_id ⟨by omega, by omega⟩
          have hj4 : (j : Int) < (j : Int) + 1 := by omega
          have hk9 : 0 < j + 1 := by omega
          clear hown hgd
          go_upto_region 8 with fail
          refine wp_region_noPanic ?_
          refine wp_region_held_drew (S := fun W' => W'.cell? ⟨rb, 1, none⟩ = some (.int .i64 0) ∧ W'.cell? ⟨gc, 5, none⟩ = some (.slice (some ⟨gd, 0, none⟩) (j + 1) cd)) (by kernel_rfl) (⟨r1, q5⟩) (fun hHeld => ?_)
          refine' wpAnyH_take (i := 0) (oi := ⟨_, _, _, _, _, _⟩) (v := _) rfl (by kernel_rfl) (by kernel_rfl) (by kernel_rfl) (fun _ _ _ h => h) (Or.inl ⟨by rfl, ?hyc0⟩) (by assumption) ?restc0
          case hyc0 => (intro w hSw; (try dsimp only at hSw); go_simp; try with_reducible rfl)
          try simp only [Act.put, List.setIfInBounds_toArray, List.set_cons_zero, List.set_cons_succ]
          refine' wpAnyH_take (i := 1) (oi := ⟨_, _, _, _, _, _⟩) (v := _) rfl (by kernel_rfl) (by kernel_rfl) (by kernel_rfl) (fun _ _ _ h => h) (Or.inl ⟨by rfl, ?hyc1⟩) (by assumption) ?restc1
          case hyc1 => (intro w hSw; (try dsimp only at hSw); go_simp; try with_reducible rfl)
          try simp only [Act.put, List.setIfInBounds_toArray, List.set_cons_zero, List.set_cons_succ]
          refine' wpAnyH_take (i := 2) (oi := ⟨_, _, _, _, _, _⟩) (v := _) rfl (by kernel_rfl) (by kernel_rfl) (by kernel_rfl) (fun _ _ _ h => h) (Or.inl ⟨by rfl, ?hyc2⟩) (by assumption) ?restc2
          case hyc2 => (intro w hSw; (try dsimp only at hSw); go_simp; try with_reducible rfl)
          try simp only [Act.put, List.setIfInBounds_toArray, List.set_cons_zero, List.set_cons_succ]
          refine' wpAnyH_take (i := 3) (oi := ⟨_, _, _, _, _, _⟩) (v := _) rfl (by kernel_rfl) (by kernel_rfl) (by kernel_rfl) (fun _ _ _ h => h) (Or.inl ⟨by rfl, ?hyc3⟩) (by assumption) ?restc3
          case hyc3 => (intro w hSw; (try dsimp only at hSw); go_simp; try with_reducible rfl)
          try simp only [Act.put, List.setIfInBounds_toArray, List.set_cons_zero, List.set_cons_succ]
          refine' wpAnyH_take (i := 4) (oi := ⟨_, _, _, _, _, _⟩) (v := _) rfl (by kernel_rfl) (by kernel_rfl) (by kernel_rfl) (fun _ _ _ h => h) (Or.inl ⟨by rfl, ?hyc4⟩) (by assumption) ?restc4
          case hyc4 => (intro w hSw; (try dsimp only at hSw); go_simp; try with_reducible rfl)
          try simp only [Act.put, List.setIfInBounds_toArray, List.set_cons_zero, List.set_cons_succ]
          refine' wpAnyH_take (i := 5) (oi := ⟨_, _, _, _, _, _⟩) (v := _) rfl (by kernel_rfl) (by kernel_rfl) (by kernel_rfl) (fun _ _ _ h => h) (Or.inl ⟨by rfl, ?hyc5⟩) (by assumption) ?restc5
          case hyc5 => (intro w hSw; (try dsimp only at hSw); go_simp; try with_reducible rfl)
          try simp only [Act.put, List.setIfInBounds_toArray, List.set_cons_zero, List.set_cons_succ]
          refine' wpAnyH_take (i := 6) (oi := ⟨_, _, _, _, _, _⟩) (v := _) rfl (by kernel_rfl) (by kernel_rfl) (by kernel_rfl) (fun _ _ _ h => h) (Or.inl ⟨by rfl, ?hyc6⟩) (by assumption) ?restc6
          case hyc6 => (intro w hSw; (try dsimp only at hSw); go_simp; try with_reducible rfl)
          try simp only [Act.put, List.setIfInBounds_toArray, List.set_cons_zero, List.set_cons_succ]
          refine' wpAnyH_take (i := 7) (oi := ⟨_, _, _, _, _, _⟩) (v := _) rfl (by kernel_rfl) (by kernel_rfl) (by kernel_rfl) (fun _ _ _ h => h) (Or.inl ⟨by rfl, ?hyc7⟩) (by assumption) ?restc7
          case hyc7 => (intro w hSw; (try dsimp only at hSw); go_simp; try with_reducible rfl)
          try simp only [Act.put, List.setIfInBounds_toArray, List.set_cons_zero, List.set_cons_succ]
          refine' wpAnyH_take (i := 8) (oi := ⟨_, _, _, _, _, _⟩) (v := _) rfl (by kernel_rfl) (by kernel_rfl) (by kernel_rfl) (fun _ _ _ h => h) (Or.inl ⟨by rfl, ?hyc8⟩) (by assumption) ?restc8
          case hyc8 => (intro w hSw; (try dsimp only at hSw); go_simp; try with_reducible rfl)
          try simp only [Act.put, List.setIfInBounds_toArray, List.set_cons_zero, List.set_cons_succ]
          refine' wpAnyH_take (i := 9) (oi := ⟨_, _, _, _, _, _⟩) (v := _) rfl (by kernel_rfl) (by kernel_rfl) (by kernel_rfl) (fun _ _ _ h => h) (Or.inl ⟨by rfl, ?hyc9⟩) (by assumption) ?restc9
          case hyc9 => (intro w hSw; (try dsimp only at hSw); go_simp; try with_reducible rfl)
          try simp only [Act.put, List.setIfInBounds_toArray, List.set_cons_zero, List.set_cons_succ]
          refine' wpAnyH_take (i := 10) (oi := ⟨_, _, _, _, _, _⟩) (v := _) rfl (by kernel_rfl) (by kernel_rfl) (by kernel_rfl) (fun _ _ _ h => h) (Or.inl ⟨by rfl, ?hyc10⟩) (by assumption) ?restc10
          case hyc10 => (intro w hSw; (try dsimp only at hSw); go_simp; try with_reducible rfl)
          try simp only [Act.put, List.setIfInBounds_toArray, List.set_cons_zero, List.set_cons_succ]
          refine' wpAnyH_take (i := 11) (oi := ⟨_, _, _, _, _, _⟩) (v := _) rfl (by kernel_rfl) (by kernel_rfl) (by kernel_rfl) (fun _ _ _ h => h) (Or.inl ⟨by rfl, ?hyc11⟩) (by assumption) ?restc11
          case hyc11 => (intro w hSw; (try dsimp only at hSw); go_simp; try with_reducible rfl)
          try simp only [Act.put, List.setIfInBounds_toArray, List.set_cons_zero, List.set_cons_succ]
          refine' wpAnyH_take (i := 12) (oi := ⟨_, _, _, _, _, _⟩) (v := _) rfl (by kernel_rfl) (by kernel_rfl) (by kernel_rfl) (fun _ _ _ h => h) (Or.inl ⟨by rfl, ?hyc12⟩) (by assumption) ?restc12
          case hyc12 => (intro w hSw; (try dsimp only at hSw); go_simp; try with_reducible rfl)
          try simp only [Act.put, List.setIfInBounds_toArray, List.set_cons_zero, List.set_cons_succ]
          refine' wpAnyH_take (i := 13) (oi := ⟨_, _, _, _, _, _⟩) (v := _) rfl (by kernel_rfl) (by kernel_rfl) (by kernel_rfl) (fun _ _ _ h => h) (Or.inl ⟨by rfl, ?hyc13⟩) (by assumption) ?restc13
          case hyc13 => (intro w hSw; (try dsimp only at hSw); go_simp; try with_reducible rfl)
          try simp only [Act.put, List.setIfInBounds_toArray, List.set_cons_zero, List.set_cons_succ]
          refine' wpAnyH_take (i := 14) (oi := ⟨_, _, _, _, _, _⟩) (v := _) rfl (by kernel_rfl) (by kernel_rfl) (by kernel_rfl) (fun _ _ _ h => h) (Or.inl ⟨by rfl, ?hyc14⟩) (by assumption) ?restc14
          case hyc14 => (intro w hSw; (try dsimp only at hSw); go_simp; try with_reducible rfl)
          try simp only [Act.put, List.setIfInBounds_toArray, List.set_cons_zero, List.set_cons_succ]
          refine' wpAnyH_take (i := 15) (oi := ⟨_, _, _, _, _, _⟩) (v := _) rfl (by kernel_rfl) (by kernel_rfl) (by kernel_rfl) (fun _ _ _ h => h) (Or.inl ⟨by rfl, ?hyc15⟩) (by assumption) ?restc15
          case hyc15 => (intro w hSw; (try dsimp only at hSw); go_simp; try with_reducible rfl)
          try simp only [Act.put, List.setIfInBounds_toArray, List.set_cons_zero, List.set_cons_succ]
          refine' wpAnyH_take (i := 16) (oi := ⟨_, _, _, _, _, _⟩) (v := _) rfl (by kernel_rfl) (by kernel_rfl) (by kernel_rfl) (fun _ _ _ h => h) (Or.inl ⟨by rfl, ?hyc16⟩) (by assumption) ?restc16
          case hyc16 => (intro w hSw; (try dsimp only at hSw); go_simp; try with_reducible rfl)
          try simp only [Act.put, List.setIfInBounds_toArray, List.set_cons_zero, List.set_cons_succ]
          refine wpAnyH_ready (rs := [17]) (by kernel_rfl) (by simp) ?_
          refine AllReadyH.cons (o := ⟨_, _, _, _, _, _⟩) rfl (fun K hK => ?_) AllReadyH.nil
          go_simp
          go_at_call 28
          refine (cmp_calls (some ⟨gd, j * 32, none⟩) (some ⟨h, 0, none⟩) 32 32 32 32 (lastH D) hv W8.drew HRj.out HRv.out HbL.out Hhv.out.2).mono ?_
          rintro e9 w9 ⟨r, rfl, Hr, hr0, hr1, rfl⟩
          by_cases hr : 0 ≤ r
          · refine hK.out _ _ (⟨r1, q5⟩) (fun hHeldN => ?_)
            clear hK K hHeld
            have hHeld := hHeldN
            clear hHeldN
            try simp only [Act.put, List.setIfInBounds_toArray, List.set_cons_zero, List.set_cons_succ]
            refine' wpAnyH_take (i := 18) (oi := ⟨_, _, _, _, _, _⟩) (v := _) rfl (by kernel_rfl) (by kernel_rfl) (by kernel_rfl) (fun _ _ _ h => h) (Or.inl ⟨by rfl, ?hyd18⟩) (by assumption) ?restd18
            case hyd18 => (intro w hSw; (try dsimp only at hSw); go_simp; try with_reducible rfl)
            try simp only [Act.put, List.setIfInBounds_toArray, List.set_cons_zero, List.set_cons_succ]
            refine' wpAnyH_take (i := 19) (oi := ⟨_, _, _, _, _, _⟩) (v := _) rfl (by kernel_rfl) (by kernel_rfl) (by kernel_rfl) (fun _ _ _ h => h) (Or.inl ⟨by rfl, ?hyd19⟩) (by assumption) ?restd19
            case hyd19 => (intro w hSw; (try dsimp only at hSw); go_simp; try with_reducible rfl)
            try simp only [Act.put, List.setIfInBounds_toArray, List.set_cons_zero, List.set_cons_succ]
            refine wpAnyH_done (by kernel_rfl) ?_ _
            refine NoPanic.normal ?_
            clear hHeld
            have Hbad : Hid (0 < D.length ∧ ¬ lastH D < hv) := Lib.hid ⟨by rw [HDk.out]; omega, fun h => by have := Hr.out.1.2 h; omega⟩
            clear hr
            have HH8d := Lib.hid HH8.out.drew
            obtain ⟨A9, n9, c9, e9, hRd9⟩ := HH8d.out.rd
            have he99 := (hRd9.ok q8 Hs8.out).1
            subst he99
            have HRd9 := Lib.hid hRd9
            clear hRd9
            go_wp2_with fail
            refine (hFail_calls rb 3 0 A9 n9 c9 W8.drew HRd9.out.at').mono ?_
            rintro e10 w10 ⟨rfl, ⟨-, rfl⟩ | ⟨h9, _⟩⟩
            · have HE9 := Lib.hid (HEnd.of (w := W8.drew) (HRd9.out.setErr (f := 3) (by decide)) ((Fr.refl W8.drew [some rb]).set _ _ (.inl (by simp))))
              obtain ⟨W9, hW9⟩ : ∃ X, X = W8.drew.setCell ⟨rb, 1, none⟩ (.int .i64 3) := ⟨_, rfl⟩
              have HH9 := Lib.hid (show HBun w W9 rb gc g b (.error 3) ⟨#[]⟩ 0 0 0 ⟨#[]⟩ (.slice (some ⟨gd, 0, none⟩) (j + 1) cd) D by rw [hW9]; exact HH8d.out.read HE9.out)
              have HB9 := Lib.hid (show Blk W9 h 67 .u8 hv by rw [hW9]; exact (HE9.out.fr.block h (show h < W8.drew.heap.size from HB8.out.lt) (fun o ho e => by simp at ho; subst ho; have := Hhr.out.1; simp at e; omega)).trans HB8.out)
              rw [← hW9]
              clear hW9
              go_upto_region 10 with fail
              have HBv := Lib.hid (show ∀ j, j < 32 → W9.cell? ⟨h, 0 + j, none⟩ = some (.int .u8 (rd hv j)) from fun j hj => by rw [Nat.zero_add]; exact HB9.cell (by rw [Hhv.out.1]; exact hj))
              have q5 : W9.cell? ⟨gc, 5, none⟩ = some (.slice (some ⟨gd, 0, none⟩) (j + 1) cd) := HH9.out.cell 5
              have HO := Lib.hid (show W9.ownsRow w.heap.size 67 32 (.slice (some ⟨gd, 0, none⟩) (j + 1) cd) (j + 1) (ints .u8 D.flatten) by have := HH9.out.own; rw [HDk.out] at this; exact this)
              have hB9s := HH9.out.bel.size
              go_wp2_with (first
                | (refine wpList_loadHash rfl _ rfl rfl Hhv.out.1 HBv.out ?_)
                | (refine wpList_oneHash rfl _ rfl rfl Hhv.out.1 ?_)
                | (at_builtin; refine wpList_appHash rfl _ _ rfl HO.out rfl rfl rfl Hhv.out.1 (by omega) hB9s ?_; intro gq cap w4 hown4 hfr4 hat4 hlt4; have Hown4 := Lib.hid hown4; have Hfr4 := Lib.hid hfr4; have Hat4 := Lib.hid hat4; have hrow4 := (hfr4.block gc HH9.out.ltc (fun o ho e => by simp at ho; subst ho; exact HH9.out.apart_c gc e rfl)).trans HH9.out.chg; have c5 := cell_of_row w4 gc 5 _ _ (0, 0) hrow4; have f5 := frozen_of_row w4 gc 5 _ _ hrow4; simp only [chgC, List.getElem?_toArray, List.getElem?_cons_succ, List.getElem?_cons_zero] at c5; clear hown4 hfr4 hat4 hrow4))
              go_roundw
              case rel =>
                have hM := HBun.more HH9.out Hhv.out.1 Hhv.out.2 (by rw [HDk.out]; exact Hown4.out) Hfr4.out Hat4.out
                rw [HDk.out] at hM
                refine ⟨j + 1 + 1, .error 3, _, D ++ [hv], by omega, by go_num, by rw [List.length_append, HDk.out]; rfl, Lib.hid hM, Lib.hid ⟨fun f hf => ?_, fun p0 hp0 => ?_⟩⟩
                · exact absurd (HN1.out f hf) (by omega)
                · exact (HDp.out p0 hp0).bad hlt Htk.out Hbad.out _ _
              case measure => simp [intOf]; omega
            · exact absurd rfl h9
          · refine hK.out _ _ (⟨r1, q5⟩) (fun hHeldN => ?_)
            clear hK K hHeld
            have hHeld := hHeldN
            clear hHeldN
            try simp only [Act.put, List.setIfInBounds_toArray, List.set_cons_zero, List.set_cons_succ]
            refine' wpAnyH_take (i := 18) (oi := ⟨_, _, _, _, _, _⟩) (v := _) rfl (by kernel_rfl) (by kernel_rfl) (by kernel_rfl) (fun _ _ _ h => h) (Or.inl ⟨by rfl, ?hye18⟩) (by assumption) ?reste18
            case hye18 => (intro w hSw; (try dsimp only at hSw); go_simp; try with_reducible rfl)
            try simp only [Act.put, List.setIfInBounds_toArray, List.set_cons_zero, List.set_cons_succ]
            refine' wpAnyH_take (i := 19) (oi := ⟨_, _, _, _, _, _⟩) (v := _) rfl (by kernel_rfl) (by kernel_rfl) (by kernel_rfl) (fun _ _ _ h => h) (Or.inl ⟨by rfl, ?hye19⟩) (by assumption) ?reste19
            case hye19 => (intro w hSw; (try dsimp only at hSw); go_simp; try with_reducible rfl)
            try simp only [Act.put, List.setIfInBounds_toArray, List.set_cons_zero, List.set_cons_succ]
            refine wpAnyH_done (by kernel_rfl) ?_ _
            refine NoPanic.normal ?_
            clear hHeld
            have Hgd : Hid (¬ (0 < D.length ∧ ¬ lastH D < hv)) := Lib.hid (fun h => h.2 (Hr.out.1.1 (by omega)))
            clear hr
            obtain ⟨W9, hW9⟩ : ∃ X, X = W8.drew := ⟨_, rfl⟩
            have HH9 := Lib.hid (show HBun w W9 rb gc g b s7 ⟨#[]⟩ 0 0 0 ⟨#[]⟩ (.slice (some ⟨gd, 0, none⟩) (j + 1) cd) D by rw [hW9]; exact HH8.out.drew)
            have HB9 := Lib.hid (show Blk W9 h 67 .u8 hv by rw [hW9]; exact HB8.out)
            rw [← hW9]
            clear hW9
            go_upto_region 10 with fail
            have HBv := Lib.hid (show ∀ j, j < 32 → W9.cell? ⟨h, 0 + j, none⟩ = some (.int .u8 (rd hv j)) from fun j hj => by rw [Nat.zero_add]; exact HB9.cell (by rw [Hhv.out.1]; exact hj))
            have q5 : W9.cell? ⟨gc, 5, none⟩ = some (.slice (some ⟨gd, 0, none⟩) (j + 1) cd) := HH9.out.cell 5
            have HO := Lib.hid (show W9.ownsRow w.heap.size 67 32 (.slice (some ⟨gd, 0, none⟩) (j + 1) cd) (j + 1) (ints .u8 D.flatten) by have := HH9.out.own; rw [HDk.out] at this; exact this)
            have hB9s := HH9.out.bel.size
            go_wp2_with (first
              | (refine wpList_loadHash rfl _ rfl rfl Hhv.out.1 HBv.out ?_)
              | (refine wpList_oneHash rfl _ rfl rfl Hhv.out.1 ?_)
              | (at_builtin; refine wpList_appHash rfl _ _ rfl HO.out rfl rfl rfl Hhv.out.1 (by omega) hB9s ?_; intro gq cap w4 hown4 hfr4 hat4 hlt4; have Hown4 := Lib.hid hown4; have Hfr4 := Lib.hid hfr4; have Hat4 := Lib.hid hat4; have hrow4 := (hfr4.block gc HH9.out.ltc (fun o ho e => by simp at ho; subst ho; exact HH9.out.apart_c gc e rfl)).trans HH9.out.chg; have c5 := cell_of_row w4 gc 5 _ _ (0, 0) hrow4; have f5 := frozen_of_row w4 gc 5 _ _ hrow4; simp only [chgC, List.getElem?_toArray, List.getElem?_cons_succ, List.getElem?_cons_zero] at c5; clear hown4 hfr4 hat4 hrow4))
            go_roundw
            case rel =>
              have hM := HBun.more HH9.out Hhv.out.1 Hhv.out.2 (by rw [HDk.out]; exact Hown4.out) Hfr4.out Hat4.out
              rw [HDk.out] at hM
              refine ⟨j + 1 + 1, s7, _, D ++ [hv], by omega, by go_num, by rw [List.length_append, HDk.out]; rfl, Lib.hid hM, Lib.hid ⟨fun f hf => ?_, fun p0 hp0 => ?_⟩⟩
              · exact absurd (HN1.out f hf) (by omega)
              · exact by rw [Hs8.out]; exact (HDp.out p0 hp0).next hlt Htk.out Hgd.out
            case measure => simp [intOf]; omega
    · obtain rfl : k = N := by omega
      have HDR : Hid (∀ g : List (List Int) → Psr (HdV × List ByteArray), run s1 (thenP (depsE k []) g b) = run s (g D b)) := Lib.hid (fun g => run_deps HD.out.1 HD.out.2 rfl)
      have HH2 := HHk
      clear HHk hDk hk hlt HH1 HN1
      obtain ⟨a2, n2, c2, e2, hRd2⟩ := HH2.out.rd
      have HRd2 := Lib.hid hRd2
      clear hRd2
      go_wp2_with fail
      refine (hNum_calls rb w.heap.size b s a2 n2 c2 e2 1 16 _ HRd2.out Hb.out Hlen.out (by omega) (by omega)).mono ?_
      rintro ee3 w3 ⟨x3, s3, rfl, Haf3, hE3⟩
      have HH3 := Lib.hid (HH2.out.read hE3)
      have hx3 : x3 ≤ 16 := after_le Haf3.out
      clear hE3
      obtain ⟨a3, n3, c3, e3, hRd3⟩ := HH3.out.rd
      have HRd3 := Lib.hid hRd3
      clear hRd3
      go_wp2_with fail
      refine (hTake_calls rb w.heap.size b s3 a3 n3 c3 e3 x3 _ HRd3.out Hlen.out (by omega)).mono ?_
      rintro ee4 w4 ⟨v4, l4, s4, rfl, ⟨A4, k4, rfl, hS4, -⟩, Haf4, hE4⟩
      have HH4 := Lib.hid (HH3.out.read hE4)
      have cv := conv_all (c := k4) hS4.rd
      clear hE4 hS4
      have Hact := Lib.hid (After.text Haf3.out Haf4.out)
      have q0 : w4.cell? ⟨gc, 0, none⟩ = some (.string ⟨#[]⟩) := HH4.out.cell 0
      have f0 : w4.frozen? ⟨gc, 0, none⟩ = false := HH4.out.frozen 0
      go_upto_region 13 with fail
      have HH5 := Lib.hid (HH4.out.put 0 (.string (strOfNums l4)) rfl)
      clear cv
      obtain ⟨a5, n5, c5, e5, hRd5⟩ := HH5.out.rd
      have HRd5 := Lib.hid hRd5
      clear hRd5
      go_wp2_with fail
      refine (hNum_calls rb w.heap.size b s4 a5 n5 c5 e5 1 9007199254740991 _ HRd5.out Hb.out Hlen.out (by omega) (by omega)).mono ?_
      rintro ee6 w6 ⟨x6, s6, rfl, Haf6, hE6⟩
      have HH6 := Lib.hid (HH5.out.read hE6)
      have hx6 : x6 ≤ 9007199254740991 := after_le Haf6.out
      clear hE6
      have q1 : w6.cell? ⟨gc, 1, none⟩ = some (.int .i64 0) := HH6.out.cell 1
      have f1 : w6.frozen? ⟨gc, 1, none⟩ = false := HH6.out.frozen 1
      go_upto_region 14 with fail
      have HH7 := Lib.hid (HH6.out.put 1 (.int .i64 x6) rfl)
      obtain ⟨a7, n7, c7, e7, hRd7⟩ := HH7.out.rd
      have HRd7 := Lib.hid hRd7
      clear hRd7
      go_wp2_with fail
      refine (hNum_calls rb w.heap.size b s6 a7 n7 c7 e7 1 9007199254740991 _ HRd7.out Hb.out Hlen.out (by omega) (by omega)).mono ?_
      rintro ee8 w8 ⟨x8, s8, rfl, Haf8, hE8⟩
      have HH8 := Lib.hid (HH7.out.read hE8)
      have hx8 : x8 ≤ 9007199254740991 := after_le Haf8.out
      clear hE8
      have q2 : w8.cell? ⟨gc, 2, none⟩ = some (.int .i64 0) := HH8.out.cell 2
      have f2 : w8.frozen? ⟨gc, 2, none⟩ = false := HH8.out.frozen 2
      go_upto_region 15 with fail
      have HH9 := Lib.hid (HH8.out.put 2 (.int .i64 x8) rfl)
      obtain ⟨a9, n9, c9, e9, hRd9⟩ := HH9.out.rd
      have HRd9 := Lib.hid hRd9
      clear hRd9
      go_wp2_with fail
      refine (hTime_calls rb w.heap.size b s8 a9 n9 c9 e9 _ HRd9.out Hb.out Hlen.out).mono ?_
      rintro ee10 w10 ⟨x10, s10, rfl, Haf10, hE10⟩
      have HH10 := Lib.hid (HH9.out.read hE10)
      clear hE10
      have q3 : w10.cell? ⟨gc, 3, none⟩ = some (.int .i64 0) := HH10.out.cell 3
      have f3 : w10.frozen? ⟨gc, 3, none⟩ = false := HH10.out.frozen 3
      go_upto_region 16 with fail
      have HH11 := Lib.hid (HH10.out.put 3 (.int .i64 x10) rfl)
      obtain ⟨a11, n11, c11, e11, hRd11⟩ := HH11.out.rd
      have HRd11 := Lib.hid hRd11
      clear hRd11
      go_wp2_with fail
      refine (hNum_calls rb w.heap.size b s10 a11 n11 c11 e11 0 1000 _ HRd11.out Hb.out Hlen.out (by omega) (by omega)).mono ?_
      rintro ee12 w12 ⟨x12, s12, rfl, Haf12, hE12⟩
      have HH12 := Lib.hid (HH11.out.read hE12)
      have hx12 : x12 ≤ 1000 := after_le Haf12.out
      clear hE12
      obtain ⟨a12, n12, c12, e12, hRd12⟩ := HH12.out.rd
      have HRd12 := Lib.hid hRd12
      clear hRd12
      go_wp2_with fail
      refine (hTake_calls rb w.heap.size b s12 a12 n12 c12 e12 x12 _ HRd12.out Hlen.out (by omega)).mono ?_
      rintro ee13 w13 ⟨v13, l13, s13, rfl, ⟨A13, k13, rfl, hS13, -⟩, Haf13, hE13⟩
      have HH13 := Lib.hid (HH12.out.read hE13)
      have cv := conv_all (c := k13) hS13.rd
      clear hE13 hS13
      have Hmsg := Lib.hid (After.text Haf12.out Haf13.out)
      have q4 : w13.cell? ⟨gc, 4, none⟩ = some (.string ⟨#[]⟩) := HH13.out.cell 4
      have f4 : w13.frozen? ⟨gc, 4, none⟩ = false := HH13.out.frozen 4
      go_upto_region 17 with fail
      have HH14 := Lib.hid (HH13.out.put 4 (.string (strOfNums l13)) rfl)
      clear cv
      have HE0 : Hid (headE b 0 = run s13 ((fun msg => if ¬ Utf msg then failP 3 else thenP (tabE (strOfNums l4)) fun T => retP ((⟨strOfNums l4, x6, x8, x10, msg, D⟩ : HdV), T)) (strOfNums l13) b)) := Lib.hid (by
        show run (.ok 0) (headE b) = _
        refine (run_then Haf1.out).trans ?_
        refine (HDR.out _).trans ?_
        refine (run_then Hact.out).trans ?_
        refine (run_then Haf6.out).trans ?_
        refine (run_then Haf8.out).trans ?_
        refine (run_then Haf10.out).trans ?_
        refine (run_then Hmsg.out).trans ?_
        rfl)
      obtain ⟨ms, hms⟩ : ∃ x, x = strOfNums l13 := ⟨_, rfl⟩
      obtain ⟨Wz, hWz⟩ : ∃ X, X = w13.setCell ⟨gc, 4, none⟩ (.string (strOfNums l13)) := ⟨_, rfl⟩
      have HHz := Lib.hid (show HBun w Wz rb gc g b s13 (strOfNums l4) x6 x8 x10 ms dv D by rw [hWz, hms]; exact HH14.out)
      rw [← hms] at HE0
      rw [← hWz, ← hms]
      have HMS : Hid (ms.size ≤ 140737488355328) := Lib.hid (by rw [hms]; exact after_size Hmsg.out (by decide))
      clear hms hWz q0 f0 q1 f1 q2 f2 q3 f3 q4 f4
      obtain ⟨ac, hac⟩ : ∃ x, x = strOfNums l4 := ⟨_, rfl⟩
      rw [← hac] at HHz HE0
      rw [← hac]
      clear hac
      obtain ⟨az, nz, cz, ez, hRdz⟩ := HHz.out.rd
      have HRdz := Lib.hid hRdz
      have r1 := hRdz.c1
      have r0 := hRdz.c0
      have q4 : Wz.cell? ⟨gc, 4, none⟩ = some (.string ms) := HHz.out.cell 4
      clear hRdz
      obtain ⟨sz, hsz⟩ : ∃ x, x = s13 := ⟨_, rfl⟩
      rw [← hsz] at HHz HE0 HRdz
      clear hsz
      cases sz with
      | error f =>
        have hez := (HRdz.out.no f rfl).1
        have hez0 := (HRdz.out.no f rfl).2
        subst hez
        have hezb : (ez == 0) = false := by simpa using hez0
        have hezc : (ez != 0) = true := by simpa using hez0
        have HE1 : Hid (headE b 0 = .error ez) := Lib.hid HE0.out
        have Hez := Lib.hid hez0
        clear hez0
        have g0 : Wz.cell? ⟨g, 0, none⟩ = some (.string ⟨#[]⟩) := cell_of_row Wz g 0 _ _ (0, 0) HHz.out.res
        have g1 : Wz.cell? ⟨g, 1, none⟩ = some (.int .i64 0) := cell_of_row Wz g 1 _ _ (0, 0) HHz.out.res
        have g2 : Wz.cell? ⟨g, 2, none⟩ = some (.int .i64 0) := cell_of_row Wz g 2 _ _ (0, 0) HHz.out.res
        have g3 : Wz.cell? ⟨g, 3, none⟩ = some (.int .i64 0) := cell_of_row Wz g 3 _ _ (0, 0) HHz.out.res
        have g4 : Wz.cell? ⟨g, 4, none⟩ = some (.string ⟨#[]⟩) := cell_of_row Wz g 4 _ _ (0, 0) HHz.out.res
        have g5 : Wz.cell? ⟨g, 5, none⟩ = some (.slice none 0 0) := cell_of_row Wz g 5 _ _ (0, 0) HHz.out.res
        have g6 : Wz.cell? ⟨g, 6, none⟩ = some (.slice none 0 0) := cell_of_row Wz g 6 _ _ (0, 0) HHz.out.res
        have gf : ∀ j, Wz.frozen? ⟨g, j, none⟩ = false := fun j => frozen_of_row Wz g j _ _ HHz.out.res
        have hne1 : ¬ g = rb := HHz.out.ord.2.2.2.1
        have hne2 : ¬ rb = g := fun h => hne1 h.symm
        go_wp2_with fail
        go_region
        all_goals go_wp2_with fail
        obtain ⟨Wf, hWf⟩ : ∃ X, X = (((((((Wz.setCell ⟨g, 0, none⟩ (.string ⟨#[]⟩)).setCell ⟨g, 1, none⟩ (.int .i64 0)).setCell ⟨g, 2, none⟩ (.int .i64 0)).setCell ⟨g, 3, none⟩ (.int .i64 0)).setCell ⟨g, 4, none⟩ (.string ⟨#[]⟩)).setCell ⟨g, 5, none⟩ (.slice none 0 0)).setCell ⟨g, 6, none⟩ (.slice none 0 0)).drew := ⟨_, rfl⟩
        have hres : Wz.heap[g]? = some (.cells #[.string ⟨#[]⟩, .int .i64 0, .int .i64 0, .int .i64 0, .string ⟨#[]⟩, .slice none 0 0, .slice none 0 0] 27 (0, 0)) := HHz.out.res
        obtain ⟨hrow9, hFf⟩ := out7 hres hWf
        rw [← hWf]
        clear hWf
        have hl := run_loadVar_row (P := Try.prog) Wf g 27 27 _ _ _ hrow9 Try.underlying27 rfl (by kernel_rfl)
        refine bodyPost_ret (v := .tuple #[.agg chg0, .slice none 0 0, .int .i64 0, .int .i64 ez]) ?_ rfl ⟨HHz.out.bel.trans (hFf.below HHz.out.bel.size (fun o ho j e => ?_)), .inl ⟨ez, HE1.out, Hez.out, rfl⟩⟩
        · simp [results, Try.results10, asAddr, hl, chg0, chgC]
        · simp at ho; subst ho; simp at e; subst e; exact HHz.out.ord.1
      | ok p =>
        have hez := (HRdz.out.ok p rfl).1
        subst hez
        have hmsz : ms.size ≤ 140737488355328 := HMS.out
        have ca : (Wz.alloc (.cells #[.string ms] 9)).cell? ⟨Wz.heap.size, 0, none⟩ = some (.string ms) := news_at Wz #[.string ms] _ 0 _ rfl
        go_wp2_with fail
        refine (uValid_calls ms Wz.heap.size _ hmsz ca).mono ?_
        rintro ev wv ⟨rfl, hwv⟩
        obtain ⟨Wv, hWv⟩ : ∃ X, X = wv := ⟨_, rfl⟩
        have HHv := Lib.hid (show HBun w Wv rb gc g b (.ok p) ac x6 x8 x10 ms dv D by rw [hWv, hwv]; exact HHz.out.below ((Below.refl _ _).alloc (Nat.le_refl _) _))
        have HRdv := Lib.hid (show RdSt Wv rb w.heap.size b (.ok p) az nz cz 0 by rw [hWv, hwv]; exact HRdz.out.below ((Below.refl _ _).alloc (Nat.le_refl _) _))
        rw [← hWv]
        clear hwv hWv ca r1 r0 q4 HHz HRdz
        have r1 := HRdv.out.c1
        have r0 := HRdv.out.c0
        by_cases hu : Utf ms
        · have hdu : decide (Utf ms) = true := decide_eq_true hu
          have HE1 : Hid (headE b 0 = thenP (tabE ac) (fun T => retP ((⟨ac, x6, x8, x10, ms, D⟩ : HdV), T)) b p) := Lib.hid (by rw [HE0.out]; show (if ¬ Utf ms then failP 3 else _) b p = _; rw [if_neg (fun h => h hu)])
          clear hu
          have q0 : Wv.cell? ⟨gc, 0, none⟩ = some (.string ac) := HHv.out.cell 0
          obtain ⟨-, hp, hnp, hSz⟩ := HRdv.out.ok p rfl
          have HSz := Lib.hid hSz
          have Hnp := Lib.hid hnp
          have hnz : nz ≤ 100000 := by have := Hlen.out; omega
          clear hSz
          go_upto_region 21 with fail
          refine wp_region_noPanic ?_
          refine wp_region_held_drew (S := fun W' => W'.cell? ⟨gc, 0, none⟩ = some (.string ac) ∧ W'.cell? ⟨rb, 0, none⟩ = some (.slice az nz cz)) (by kernel_rfl) (⟨q0, r0⟩) (fun hHeld => ?_)
          refine' wpAnyH_take (i := 0) (oi := ⟨_, _, _, _, _, _⟩) (v := _) rfl (by kernel_rfl) (by kernel_rfl) (by kernel_rfl) (fun _ _ _ h => h) (Or.inl ⟨by rfl, ?hyg0⟩) (by assumption) ?restg0
          case hyg0 => (intro w hSw; (try dsimp only at hSw); go_simp; try with_reducible rfl)
          try simp only [Act.put, List.setIfInBounds_toArray, List.set_cons_zero, List.set_cons_succ]
          refine' wpAnyH_take (i := 1) (oi := ⟨_, _, _, _, _, _⟩) (v := _) rfl (by kernel_rfl) (by kernel_rfl) (by kernel_rfl) (fun _ _ _ h => h) (Or.inl ⟨by rfl, ?hyg1⟩) (by assumption) ?restg1
          case hyg1 => (intro w hSw; (try dsimp only at hSw); go_simp; try with_reducible rfl)
          try simp only [Act.put, List.setIfInBounds_toArray, List.set_cons_zero, List.set_cons_succ]
          refine' wpAnyH_take (i := 2) (oi := ⟨_, _, _, _, _, _⟩) (v := _) rfl (by kernel_rfl) (by kernel_rfl) (by kernel_rfl) (fun _ _ _ h => h) (Or.inl ⟨by rfl, ?hyg2⟩) (by assumption) ?restg2
          case hyg2 => (intro w hSw; (try dsimp only at hSw); go_simp; try with_reducible rfl)
          try simp only [Act.put, List.setIfInBounds_toArray, List.set_cons_zero, List.set_cons_succ]
          refine' wpAnyH_take (i := 3) (oi := ⟨_, _, _, _, _, _⟩) (v := _) rfl (by kernel_rfl) (by kernel_rfl) (by kernel_rfl) (fun _ _ _ h => h) (Or.inl ⟨by rfl, ?hyg3⟩) (by assumption) ?restg3
          case hyg3 => (intro w hSw; (try dsimp only at hSw); go_simp; try with_reducible rfl)
          try simp only [Act.put, List.setIfInBounds_toArray, List.set_cons_zero, List.set_cons_succ]
          refine' wpAnyH_take (i := 4) (oi := ⟨_, _, _, _, _, _⟩) (v := _) rfl (by kernel_rfl) (by kernel_rfl) (by kernel_rfl) (fun _ _ _ h => h) (Or.inl ⟨by rfl, ?hyg4⟩) (by assumption) ?restg4
          case hyg4 => (intro w hSw; (try dsimp only at hSw); go_simp; try with_reducible rfl)
          try simp only [Act.put, List.setIfInBounds_toArray, List.set_cons_zero, List.set_cons_succ]
          refine' wpAnyH_take (i := 5) (oi := ⟨_, _, _, _, _, _⟩) (v := _) rfl (by kernel_rfl) (by kernel_rfl) (by kernel_rfl) (fun _ _ _ h => h) (Or.inl ⟨by rfl, ?hyg5⟩) (by assumption) ?restg5
          case hyg5 => (intro w hSw; (try dsimp only at hSw); go_simp; try with_reducible rfl)
          try simp only [Act.put, List.setIfInBounds_toArray, List.set_cons_zero, List.set_cons_succ]
          refine wpAnyH_ready (rs := [6]) (by kernel_rfl) (by simp) ?_
          refine AllReadyH.cons (o := ⟨_, _, _, _, _, _⟩) rfl (fun K hK => ?_) AllReadyH.nil
          go_simp
          go_at_call 32
          refine (Get_calls ac az nz cz (b.drop p) _ (HSz.out.below (Below.refl _ _).drew) (fun x hx => Hb.out x (List.mem_of_mem_drop hx)) hnz).mono ?_
          rintro eg wg ⟨hbg, T, kk, f, tv, hT, hTl, rfl, hog⟩
          have HHg := Lib.hid (HHv.out.drew.below hbg)
          have HRdg := Lib.hid (HRdv.out.below ((Below.refl _ _).drew.trans hbg))
          have HOg := Lib.hid (own_mono hog (show w.heap.size ≤ Wv.drew.heap.size from HHv.out.bel.size))
          have HT := Lib.hid hT
          have HTl := Lib.hid hTl
          have q0g := kept_cell hbg q0
          have r0g := kept_cell hbg r0
          clear hbg hog hT hTl
          refine hK.out _ _ (⟨q0g, r0g⟩) (fun hHeldN => ?_)
          clear hK K hHeld
          have hHeld := hHeldN
          clear hHeldN
          try simp only [Act.put, List.setIfInBounds_toArray, List.set_cons_zero, List.set_cons_succ]
          refine' wpAnyH_take (i := 7) (oi := ⟨_, _, _, _, _, _⟩) (v := _) rfl (by kernel_rfl) (by kernel_rfl) (by kernel_rfl) (fun _ _ _ h => h) (Or.inl ⟨by rfl, ?hyk7⟩) (by assumption) ?restk7
          case hyk7 => (intro w hSw; (try dsimp only at hSw); go_simp; try with_reducible rfl)
          try simp only [Act.put, List.setIfInBounds_toArray, List.set_cons_zero, List.set_cons_succ]
          refine' wpAnyH_take (i := 8) (oi := ⟨_, _, _, _, _, _⟩) (v := _) rfl (by kernel_rfl) (by kernel_rfl) (by kernel_rfl) (fun _ _ _ h => h) (Or.inl ⟨by rfl, ?hyk8⟩) (by assumption) ?restk8
          case hyk8 => (intro w hSw; (try dsimp only at hSw); go_simp; try with_reducible rfl)
          try simp only [Act.put, List.setIfInBounds_toArray, List.set_cons_zero, List.set_cons_succ]
          refine' wpAnyH_take (i := 9) (oi := ⟨_, _, _, _, _, _⟩) (v := _) rfl (by kernel_rfl) (by kernel_rfl) (by kernel_rfl) (fun _ _ _ h => h) (Or.inl ⟨by rfl, ?hyk9⟩) (by assumption) ?restk9
          case hyk9 => (intro w hSw; (try dsimp only at hSw); go_simp; try with_reducible rfl)
          try simp only [Act.put, List.setIfInBounds_toArray, List.set_cons_zero, List.set_cons_succ]
          refine' wpAnyH_take (i := 10) (oi := ⟨_, _, _, _, _, _⟩) (v := _) rfl (by kernel_rfl) (by kernel_rfl) (by kernel_rfl) (fun _ _ _ h => h) (Or.inl ⟨by rfl, ?hyk10⟩) (by assumption) ?restk10
          case hyk10 => (intro w hSw; (try dsimp only at hSw); go_simp; try with_reducible rfl)
          try simp only [Act.put, List.setIfInBounds_toArray, List.set_cons_zero, List.set_cons_succ]
          refine' wpAnyH_take (i := 11) (oi := ⟨_, _, _, _, _, _⟩) (v := _) rfl (by kernel_rfl) (by kernel_rfl) (by kernel_rfl) (fun _ _ _ h => h) (Or.inl ⟨by rfl, ?hyk11⟩) (by assumption) ?restk11
          case hyk11 => (intro w hSw; (try dsimp only at hSw); go_simp; try with_reducible rfl)
          try simp only [Act.put, List.setIfInBounds_toArray, List.set_cons_zero, List.set_cons_succ]
          refine' wpAnyH_take (i := 12) (oi := ⟨_, _, _, _, _, _⟩) (v := _) rfl (by kernel_rfl) (by kernel_rfl) (by kernel_rfl) (fun _ _ _ h => h) (Or.inl ⟨by rfl, ?hyk12⟩) (by assumption) ?restk12
          case hyk12 => (intro w hSw; (try dsimp only at hSw); go_simp; try with_reducible rfl)
          try simp only [Act.put, List.setIfInBounds_toArray, List.set_cons_zero, List.set_cons_succ]
          refine' wpAnyH_take (i := 13) (oi := ⟨_, _, _, _, _, _⟩) (v := _) rfl (by kernel_rfl) (by kernel_rfl) (by kernel_rfl) (fun _ _ _ h => h) (Or.inl ⟨by rfl, ?hyk13⟩) (by assumption) ?restk13
          case hyk13 => (intro w hSw; (try dsimp only at hSw); go_simp; try with_reducible rfl)
          try simp only [Act.put, List.setIfInBounds_toArray, List.set_cons_zero, List.set_cons_succ]
          refine wpAnyH_done (by kernel_rfl) ?_ _
          refine NoPanic.normal ?_
          clear hHeld q0 r0 r1 q0g r0g
          obtain ⟨Ad, cd, hdv⟩ := own_slice HHg.out.own
          subst hdv
          obtain ⟨At, ct, htv⟩ := own_slice HOg.out
          subst htv
          have g0 : wg.cell? ⟨g, 0, none⟩ = some (.string ⟨#[]⟩) := cell_of_row wg g 0 _ _ (0, 0) HHg.out.res
          have g1 : wg.cell? ⟨g, 1, none⟩ = some (.int .i64 0) := cell_of_row wg g 1 _ _ (0, 0) HHg.out.res
          have g2 : wg.cell? ⟨g, 2, none⟩ = some (.int .i64 0) := cell_of_row wg g 2 _ _ (0, 0) HHg.out.res
          have g3 : wg.cell? ⟨g, 3, none⟩ = some (.int .i64 0) := cell_of_row wg g 3 _ _ (0, 0) HHg.out.res
          have g4 : wg.cell? ⟨g, 4, none⟩ = some (.string ⟨#[]⟩) := cell_of_row wg g 4 _ _ (0, 0) HHg.out.res
          have g5 : wg.cell? ⟨g, 5, none⟩ = some (.slice none 0 0) := cell_of_row wg g 5 _ _ (0, 0) HHg.out.res
          have g6 : wg.cell? ⟨g, 6, none⟩ = some (.slice none 0 0) := cell_of_row wg g 6 _ _ (0, 0) HHg.out.res
          have gf : ∀ j, wg.frozen? ⟨g, j, none⟩ = false := fun j => frozen_of_row wg g j _ _ HHg.out.res
          have hres : wg.heap[g]? = some (.cells #[.string ⟨#[]⟩, .int .i64 0, .int .i64 0, .int .i64 0, .string ⟨#[]⟩, .slice none 0 0, .slice none 0 0] 27 (0, 0)) := HHg.out.res
          by_cases hf : f = 0
          · subst hf
            have hkk : kk ≤ 100000 := by
              have := (tab_just (fun x hx => Hb.out x (List.mem_of_mem_drop hx)) HT.out).choose_spec.2.2.2.1
              rw [List.length_drop] at this
              have := Hlen.out
              omega
            have HE2 : Hid (headE b 0 = .ok ((⟨ac, x6, x8, x10, ms, D⟩, T), p + kk)) := Lib.hid (by rw [HE1.out]; refine (thenP_ok (q := p + kk) (v := T) ?_).trans rfl; rw [tabE_of HT.out, if_neg (by decide)])
            have r0 := HRdg.out.c0
            have hp9 : p ≤ 100000 := by have := Hlen.out; omega
            have c0 : wg.cell? ⟨gc, 0, none⟩ = some (.string ac) := HHg.out.cell 0
            have c1 : wg.cell? ⟨gc, 1, none⟩ = some (.int .i64 x6) := HHg.out.cell 1
            have c2 : wg.cell? ⟨gc, 2, none⟩ = some (.int .i64 x8) := HHg.out.cell 2
            have c3 : wg.cell? ⟨gc, 3, none⟩ = some (.int .i64 x10) := HHg.out.cell 3
            have c4 : wg.cell? ⟨gc, 4, none⟩ = some (.string ms) := HHg.out.cell 4
            have c5 : wg.cell? ⟨gc, 5, none⟩ = some (.slice Ad D.length cd) := HHg.out.cell 5
            have c6 : wg.cell? ⟨gc, 6, none⟩ = some (.slice none 0 0) := HHg.out.cell 6
            have hq1 : (n : Int) - (nz : Int) = (p : Int) := by have := Hnp.out; have := Hl.out; omega
            have hne1 : ¬ g = rb := HHg.out.ord.2.2.2.1
            have hne2 : ¬ rb = g := fun h => hne1 h.symm
            have hne3 : ¬ g = gc := HHg.out.ord.2.2.2.2.1
            have hne4 : ¬ gc = g := fun h => hne3 h.symm
            go_wp2_with fail
            go_region
            all_goals go_wp2_with fail
            obtain ⟨Wf, hWf⟩ : ∃ X, X = (((((((wg.setCell ⟨g, 0, none⟩ (.string ac)).setCell ⟨g, 1, none⟩ (.int .i64 x6)).setCell ⟨g, 2, none⟩ (.int .i64 x8)).setCell ⟨g, 3, none⟩ (.int .i64 x10)).setCell ⟨g, 4, none⟩ (.string ms)).setCell ⟨g, 5, none⟩ (.slice Ad D.length cd)).setCell ⟨g, 6, none⟩ (.slice none 0 0)).drew := ⟨_, rfl⟩
            obtain ⟨hrow9, hFf⟩ := out7 hres hWf
            rw [← hWf]
            clear hWf
            have hl := run_loadVar_row (P := Try.prog) Wf g 27 27 _ _ _ hrow9 Try.underlying27 rfl (by kernel_rfl)
            refine bodyPost_ret (v := .tuple #[.agg #[.string ac, .int .i64 x6, .int .i64 x8, .int .i64 x10, .string ms, .slice Ad D.length cd, .slice none 0 0], .slice At T.length ct, .int .i64 ((p : Int) + kk), .int .i64 0]) ?_ rfl ⟨HHg.out.bel.trans (hFf.below HHg.out.bel.size (fun o ho j e => ?_)), .inr ⟨⟨ac, x6, x8, x10, ms, D⟩, T, p + kk, _, _, HE2.out, rfl, own_fr HHg.out.own hFf (fun o ho => by simp at ho; subst ho; exact HHg.out.apart_g), HHg.out.hs, own_fr HOg.out hFf (fun o ho => by simp at ho; subst ho; exact own_apart HHg.out.res (by decide) HOg.out), HTl.out⟩⟩
            · simp [results, Try.results10, asAddr, hl]
            · simp at ho; subst ho; simp at e; subst e; exact HHg.out.ord.1
          · have HE2 : Hid (headE b 0 = .error f) := Lib.hid (by rw [HE1.out]; refine thenP_err ?_; rw [tabE_of HT.out, if_pos hf])
            have hfb : (f != 0) = true := by simpa using hf
            have Hf := Lib.hid hf
            clear hf
            go_wp2_with fail
            obtain ⟨Wf, hWf⟩ : ∃ X, X = (((((((wg.setCell ⟨g, 0, none⟩ (.string ⟨#[]⟩)).setCell ⟨g, 1, none⟩ (.int .i64 0)).setCell ⟨g, 2, none⟩ (.int .i64 0)).setCell ⟨g, 3, none⟩ (.int .i64 0)).setCell ⟨g, 4, none⟩ (.string ⟨#[]⟩)).setCell ⟨g, 5, none⟩ (.slice none 0 0)).setCell ⟨g, 6, none⟩ (.slice none 0 0)) := ⟨_, rfl⟩
            obtain ⟨hrow9, hFf⟩ := out7n hres hWf
            rw [← hWf]
            clear hWf
            have hl := run_loadVar_row (P := Try.prog) Wf g 27 27 _ _ _ hrow9 Try.underlying27 rfl (by kernel_rfl)
            refine bodyPost_ret (v := .tuple #[.agg chg0, .slice none 0 0, .int .i64 0, .int .i64 f]) ?_ rfl ⟨HHg.out.bel.trans (hFf.below HHg.out.bel.size (fun o ho j e => ?_)), .inl ⟨f, HE2.out, Hf.out, rfl⟩⟩
            · simp [results, Try.results10, asAddr, hl, chg0, chgC]
            · simp at ho; subst ho; simp at e; subst e; exact HHg.out.ord.1
        · have hdu : decide (Utf ms) = false := decide_eq_false hu
          have HE1 : Hid (headE b 0 = .error 3) := Lib.hid (by rw [HE0.out]; show (if ¬ Utf ms then failP 3 else _) b p = _; rw [if_pos hu]; rfl)
          clear hu
          go_wp2_with fail
          refine (hFail_calls rb 3 0 az nz cz Wv HRdv.out.at').mono ?_
          rintro e10 w10 ⟨rfl, ⟨-, rfl⟩ | ⟨h9, _⟩⟩
          · have HE9 := Lib.hid (HEnd.of (w := Wv) (HRdv.out.setErr (f := 3) (by decide)) ((Fr.refl Wv [some rb]).set _ _ (.inl (by simp))))
            obtain ⟨Wy, hWy⟩ : ∃ X, X = Wv.setCell ⟨rb, 1, none⟩ (.int .i64 3) := ⟨_, rfl⟩
            have HHy := Lib.hid (show HBun w Wy rb gc g b (.error 3) ac x6 x8 x10 ms dv D by rw [hWy]; exact HHv.out.read HE9.out)
            have r1y : Wy.cell? ⟨rb, 1, none⟩ = some (.int .i64 3) := by rw [hWy]; exact (HRdv.out.setErr (f := 3) (by decide)).c1
            rw [← hWy]
            clear hWy r1 r0
            have g0 : Wy.cell? ⟨g, 0, none⟩ = some (.string ⟨#[]⟩) := cell_of_row Wy g 0 _ _ (0, 0) HHy.out.res
            have g1 : Wy.cell? ⟨g, 1, none⟩ = some (.int .i64 0) := cell_of_row Wy g 1 _ _ (0, 0) HHy.out.res
            have g2 : Wy.cell? ⟨g, 2, none⟩ = some (.int .i64 0) := cell_of_row Wy g 2 _ _ (0, 0) HHy.out.res
            have g3 : Wy.cell? ⟨g, 3, none⟩ = some (.int .i64 0) := cell_of_row Wy g 3 _ _ (0, 0) HHy.out.res
            have g4 : Wy.cell? ⟨g, 4, none⟩ = some (.string ⟨#[]⟩) := cell_of_row Wy g 4 _ _ (0, 0) HHy.out.res
            have g5 : Wy.cell? ⟨g, 5, none⟩ = some (.slice none 0 0) := cell_of_row Wy g 5 _ _ (0, 0) HHy.out.res
            have g6 : Wy.cell? ⟨g, 6, none⟩ = some (.slice none 0 0) := cell_of_row Wy g 6 _ _ (0, 0) HHy.out.res
            have gf : ∀ j, Wy.frozen? ⟨g, j, none⟩ = false := fun j => frozen_of_row Wy g j _ _ HHy.out.res
            have hne1 : ¬ g = rb := HHy.out.ord.2.2.2.1
            have hne2 : ¬ rb = g := fun h => hne1 h.symm
            go_wp2_with fail
            go_region
            all_goals go_wp2_with fail
            obtain ⟨Wf, hWf⟩ : ∃ X, X = (((((((Wy.setCell ⟨g, 0, none⟩ (.string ⟨#[]⟩)).setCell ⟨g, 1, none⟩ (.int .i64 0)).setCell ⟨g, 2, none⟩ (.int .i64 0)).setCell ⟨g, 3, none⟩ (.int .i64 0)).setCell ⟨g, 4, none⟩ (.string ⟨#[]⟩)).setCell ⟨g, 5, none⟩ (.slice none 0 0)).setCell ⟨g, 6, none⟩ (.slice none 0 0)).drew := ⟨_, rfl⟩
            have hres : Wy.heap[g]? = some (.cells #[.string ⟨#[]⟩, .int .i64 0, .int .i64 0, .int .i64 0, .string ⟨#[]⟩, .slice none 0 0, .slice none 0 0] 27 (0, 0)) := HHy.out.res
            obtain ⟨hrow9, hFf⟩ := out7 hres hWf
            rw [← hWf]
            clear hWf
            have hl := run_loadVar_row (P := Try.prog) Wf g 27 27 _ _ _ hrow9 Try.underlying27 rfl (by kernel_rfl)
            refine bodyPost_ret (v := .tuple #[.agg chg0, .slice none 0 0, .int .i64 0, .int .i64 3]) ?_ rfl ⟨HHy.out.bel.trans (hFf.below HHy.out.bel.size (fun o ho j e => ?_)), .inl ⟨3, HE1.out, (by decide), rfl⟩⟩
            · simp [results, Try.results10, asAddr, hl, chg0, chgC]
            · simp at ho; subst ho; simp at e; subst e; exact HHy.out.ord.1
          · exact absurd rfl h9
end Go.Proofs.Ytdbkbeojedndbaa
