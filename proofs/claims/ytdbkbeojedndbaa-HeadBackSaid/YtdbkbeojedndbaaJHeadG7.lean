/-
  Texts joined into one file: HeadR, HashK, CmpW, HeadS, StrE.
-/
import Derived.Test.YtdbkbeojedndbaaJHeadG5
import Derived.Test.YtdbkbeojedndbaaJHeadG6
import Derived.Test.YtdbkbeojedndbaaJHeadG1
import Derived.Test.YtdbkbeojedndbaaJHeadG2
import Derived.Great.BuildSlice
import Derived.Laws.IdiomCopy
import Derived.Laws.CopyRow
import Derived.Lib.Bytealg
import Derived.Lib.BytesEntry
import Derived.Deep.RegionWith
/-
  The walks of head's reader.
-/
namespace Go.Proofs.Ytdbkbeojedndbaa
open Go.RowKit

/-- What a reader tells of bytes, from a state (a place, or an error) on. -/
def After {α : Type} (f : Psr α) (b : List Int) (s : Except Int Nat) (d v : α) (s' : Except Int Nat) : Prop :=
  match s with
  | .error e => v = d ∧ s' = .error e
  | .ok p => match f b p with
    | .error e => v = d ∧ s' = .error e
    | .ok x => v = x.1 ∧ s' = .ok x.2
theorem After.err {α : Type} {f : Psr α} {b : List Int} {e : Int} {d : α} : After f b (.error e) d d (.error e) := ⟨rfl, rfl⟩
theorem After.bad {α : Type} {f : Psr α} {b : List Int} {p : Nat} {e : Int} {d : α} (h : f b p = .error e) : After f b (.ok p) d d (.error e) := by
  unfold After
  simp only [h]
  exact ⟨trivial, trivial⟩
theorem After.good {α : Type} {f : Psr α} {b : List Int} {p q : Nat} {d v : α} (h : f b p = .ok (v, q)) : After f b (.ok p) d v (.ok q) := by
  unfold After
  simp only [h]
  exact ⟨trivial, trivial⟩
theorem Fr.cellH {w w' : World} {S : List (Option Nat)} (h : Fr w w' S) {a : Addr} {v : Value} (hc : w.cell? a = some v) (ha : ∀ o ∈ S, o ≠ some a.block) : w'.cell? a = some v := by
  simp only [World.cell?] at hc ⊢
  rw [h.block a.block (World.block_lt_of_cell? w a hc) ha]
  exact hc
theorem BSl.fr {w w' : World} {A : Option Addr} {n c : Nat} {b : List Int} {S : List (Option Nat)} (h : BSl w A n c b) (hf : Fr w w' S) (hS : 0 < n → ∀ b1 o1, A = some ⟨b1, o1, none⟩ → ∀ o ∈ S, o ≠ some b1) : BSl w' A n c b :=
  ⟨⟨h.rd.1, fun h0 => by
    obtain ⟨b1, o1, e, hc⟩ := h.rd.2 h0
    exact ⟨b1, o1, e, fun j hj => hf.cellH (hc j hj) (hS h0 b1 o1 e)⟩⟩, h.nil, h.cap⟩
/-- A reader at a block: its bytes lie in older ones. -/
structure RdSt (w : World) (rb gb : Nat) (b : List Int) (s : Except Int Nat) (A : Option Addr) (n c : Nat) (e : Int) : Prop where
  at' : w.heap[rb]? = some (.cells #[.slice A n c, .int .i64 e] 64 (0, 0))
  ok : ∀ p, s = .ok p → e = 0 ∧ p ≤ b.length ∧ n + p = b.length ∧ BSl w A n c (b.drop p)
  no : ∀ f, s = .error f → e = f ∧ f ≠ 0
  apart : 0 < n → ∀ b1 o1, A = some ⟨b1, o1, none⟩ → b1 < gb
  sep : gb ≤ rb
theorem RdSt.lt {w : World} {rb gb : Nat} {b : List Int} {s : Except Int Nat} {A : Option Addr} {n c : Nat} {e : Int} (h : RdSt w rb gb b s A n c e) : rb < w.heap.size := (Array.getElem?_eq_some_iff.1 h.at').1
theorem RdSt.c0 {w : World} {rb gb : Nat} {b : List Int} {s : Except Int Nat} {A : Option Addr} {n c : Nat} {e : Int} (h : RdSt w rb gb b s A n c e) : w.cell? ⟨rb, 0, none⟩ = some (.slice A n c) := by rw [cell_of_row w rb 0 _ _ (0, 0) h.at']; rfl
theorem RdSt.c1 {w : World} {rb gb : Nat} {b : List Int} {s : Except Int Nat} {A : Option Addr} {n c : Nat} {e : Int} (h : RdSt w rb gb b s A n c e) : w.cell? ⟨rb, 1, none⟩ = some (.int .i64 e) := by rw [cell_of_row w rb 1 _ _ (0, 0) h.at']; rfl
theorem RdSt.frozen {w : World} {rb gb : Nat} {b : List Int} {s : Except Int Nat} {A : Option Addr} {n c : Nat} {e : Int} (h : RdSt w rb gb b s A n c e) (j : Nat) : w.frozen? ⟨rb, j, none⟩ = false := frozen_of_row w rb j _ _ h.at'
theorem RdSt.fr {w w1 : World} {rb gb : Nat} {b : List Int} {s : Except Int Nat} {A : Option Addr} {n c : Nat} {e : Int} {S : List (Option Nat)} (h : RdSt w rb gb b s A n c e) (hf : Fr w w1 S) (h1 : some rb ∉ S) (h2 : ∀ k, some k ∈ S → gb ≤ k) : RdSt w1 rb gb b s A n c e :=
  ⟨(hf.block rb h.lt (fun o ho e => h1 (by rw [← e]; exact ho))).trans h.at', fun p hp => ⟨(h.ok p hp).1, (h.ok p hp).2.1, (h.ok p hp).2.2.1, (h.ok p hp).2.2.2.fr hf (fun h0 b1 o1 e o ho e2 => by
    have h3 := h.apart h0 b1 o1 e
    have h4 := h2 b1 (by rw [← e2]; exact ho)
    omega)⟩, h.no, h.apart, h.sep⟩
theorem RdSt.below {w w1 : World} {rb gb : Nat} {b : List Int} {s : Except Int Nat} {A : Option Addr} {n c : Nat} {e : Int} (h : RdSt w rb gb b s A n c e) (hb : Below w.heap.size w w1) : RdSt w1 rb gb b s A n c e := h.fr (Fr.ofBelow hb []) (by simp) (fun k hk => by cases hk)
/-- An error is kept. -/
theorem RdSt.setErr {w : World} {rb gb : Nat} {b : List Int} {s : Except Int Nat} {A : Option Addr} {n c : Nat} {e : Int} (h : RdSt w rb gb b s A n c e) {f : Int} (hf : f ≠ 0) : RdSt (w.setCell ⟨rb, 1, none⟩ (.int .i64 f)) rb gb b (.error f) A n c f :=
  ⟨heap_setCell_same w rb 1 _ _ _ h.at', fun p hp => (by cases hp), fun g hg => (by cases hg; exact ⟨rfl, hf⟩), h.apart, h.sep⟩
/-- The reader goes on. -/
theorem RdSt.setRest {w : World} {rb gb : Nat} {b : List Int} {p : Nat} {A A' : Option Addr} {n c n' c' : Nat} {e : Int} (h : RdSt w rb gb b (.ok p) A n c e) {q : Nat} (hq : q ≤ b.length) (hn : n' + q = b.length) (hS : BSl w A' n' c' (b.drop q)) (hA : 0 < n' → ∀ b1 o1, A' = some ⟨b1, o1, none⟩ → b1 < gb) : RdSt (w.setCell ⟨rb, 0, none⟩ (.slice A' n' c')) rb gb b (.ok q) A' n' c' e :=
  ⟨heap_setCell_same w rb 0 _ _ _ h.at', fun x hx => (by
    cases hx
    refine ⟨(h.ok p rfl).1, hq, hn, hS.fr ((Fr.refl w [some rb]).set _ _ (.inl (by simp))) (fun h0 b1 o1 e o ho e2 => ?_)⟩
    simp at ho
    subst ho
    have := hA h0 b1 o1 e
    have h9 := h.sep
    simp at e2
    omega), fun g hg => (by cases hg), hA, h.sep⟩
set_option maxHeartbeats 400000 in
theorem hFail_calls (rb : Nat) (f e : Int) (A : Option Addr) (n c : Nat) (w : World) (H : w.heap[rb]? = some (.cells #[.slice A n c, .int .i64 e] 64 (0, 0))) :
    Calls Try.prog 29 #[.pointer (some ⟨rb, 0, none⟩), .int .i64 f] w fun x w' => x = .returned (.tuple #[]) ∧ (e = 0 ∧ w' = w.setCell ⟨rb, 1, none⟩ (.int .i64 f) ∨ e ≠ 0 ∧ w' = w) := by
  have c1 : w.cell? ⟨rb, 1, none⟩ = some (.int .i64 e) := by rw [cell_of_row w rb 1 _ _ (0, 0) H]; rfl
  have f1 := frozen_of_row w rb 1 _ _ H
  clear H
  go_enter Try.func29, Try.ntmps29
  by_cases he : e = 0
  · subst he
    go_wp2
    go_end0
    exact ⟨rfl, rfl⟩
  · have heb : (e == 0) = false := by simpa using he
    go_wp2
    go_end0
    exact ⟨rfl, .inr ⟨he, rfl⟩⟩
/-- What a reader's method ends with. -/
structure HEnd (w w' : World) (rb gb : Nat) (b : List Int) (s' : Except Int Nat) : Prop where
  st : ∃ A n c e, RdSt w' rb gb b s' A n c e
  fr : Fr w w' [some rb]
theorem HEnd.of {w w' : World} {rb gb : Nat} {b : List Int} {s' : Except Int Nat} {A : Option Addr} {n c : Nat} {e : Int} (h : RdSt w' rb gb b s' A n c e) (hf : Fr w w' [some rb]) : HEnd w w' rb gb b s' := ⟨⟨A, n, c, e, h⟩, hf⟩
theorem drop_len {b : List Int} {p n : Nat} (h : n + p = b.length) : (b.drop p).length = n := by rw [List.length_drop]; omega
set_option maxHeartbeats 1000000 in
set_option maxRecDepth 100000 in
theorem hNum_calls (rb gb : Nat) (b : List Int) (s : Except Int Nat) (A : Option Addr) (n c : Nat) (e : Int) (low high : Nat) (w : World) (H : RdSt w rb gb b s A n c e) (hb : ∀ x ∈ b, 0 ≤ x ∧ x ≤ 255) (hl : b.length ≤ 100000) (_hlo : low ≤ 9007199254740991) (hhi : high ≤ 9007199254740991) :
    Calls Try.prog 26 #[.pointer (some ⟨rb, 0, none⟩), .int .u64 low, .int .u64 high] w fun x w' => ∃ (v : Nat) (s' : Except Int Nat), x = .returned (.int .i64 v) ∧ Hid (After (numE low high) b s 0 v s') ∧ HEnd w w' rb gb b s' := by
  have HH := Lib.hid H
  have c0 := H.c0
  have c1 := H.c1
  have f0 := H.frozen 0
  have Hb := Lib.hid hb
  clear hb
  go_enter Try.func26, Try.ntmps26
  cases s with
  | error f =>
    obtain ⟨rfl, hf⟩ := H.no f rfl
    clear H
    have hfb : (e != 0) = true := by simpa using hf
    go_wp2_with fail
    go_ret
    exact ⟨0, .error e, rfl, ⟨rfl, rfl⟩, HEnd.of HH.out (Fr.refl _ _)⟩
  | ok p =>
    obtain ⟨rfl, hp, hn, hS⟩ := H.ok p rfl
    have Hn := Lib.hid hn
    have HS := Lib.hid hS
    have hlt := H.lt
    have hcap := hS.cap
    have hn9 : n ≤ 1000000 := by omega
    clear H hn hS
    go_wp2_with fail
    refine (GetU_calls A n c (b.drop p) w HS.out.rd HS.out.nil hcap (fun x hx => Hb.out x (List.mem_of_mem_drop hx)) hn9).mono ?_
    rintro e1 w1 ⟨v, k, f, rfl, Hg, hb1⟩
    have HH1 := Lib.hid (HH.out.below hb1)
    have HF1 : Hid (Fr w w1 [some rb]) := Lib.hid (Fr.ofBelow hb1 _)
    have c0 := HH1.out.c0
    have c1 := HH1.out.c1
    have f0 := HH1.out.frozen 0
    clear hb1
    by_cases hf : f = 0
    · subst hf
      have hk := isGet_rng Hg.out
      rw [drop_len Hn.out] at hk
      obtain ⟨hk1, hk10, hkn, hv64⟩ := hk
      by_cases h1 : v < low
      · have HE := Lib.hid (numE_of (low := low) (high := high) Hg.out)
        rw [if_neg (by decide), if_pos h1] at HE
        go_wp2_with fail
        refine (hFail_calls rb 3 0 A n c w1 HH1.out.at').mono ?_
        rintro e2 w2 ⟨rfl, ⟨-, rfl⟩ | ⟨h9, _⟩⟩
        · have HR2 := Lib.hid (HH1.out.setErr (f := 3) (by decide))
          go_wp2_with fail
          go_ret
          exact ⟨0, .error 3, rfl, After.bad HE.out, HEnd.of HR2.out (HF1.out.set _ _ (.inl (by simp)))⟩
        · exact absurd rfl h9
      · by_cases h2 : high < v
        · have HE := Lib.hid (numE_of (low := low) (high := high) Hg.out)
          rw [if_neg (by decide), if_neg h1, if_pos h2] at HE
          go_wp2_with fail
          refine (hFail_calls rb 4 0 A n c w1 HH1.out.at').mono ?_
          rintro e2 w2 ⟨rfl, ⟨-, rfl⟩ | ⟨h9, _⟩⟩
          · have HR2 := Lib.hid (HH1.out.setErr (f := 4) (by decide))
            go_wp2_with fail
            go_ret
            exact ⟨0, .error 4, rfl, After.bad HE.out, HEnd.of HR2.out (HF1.out.set _ _ (.inl (by simp)))⟩
          · exact absurd rfl h9
        · have HE := Lib.hid (numE_of (low := low) (high := high) Hg.out)
          rw [if_neg (by decide), if_neg h1, if_neg h2] at HE
          have hv9 : v ≤ 9007199254740991 := by omega
          obtain ⟨b0, o0, eA, hcell⟩ := HS.out.rd.2 (by omega)
          subst eA
          have hgb := HH.out.apart (by omega) b0 o0 rfl
          have Hgb := Lib.hid hgb
          clear hcell hgb hv64
          have hrest : ∀ o' c', (o' = o0 + k ∨ n - k = 0) → n - k ≤ c' → BSl w1 (some ⟨b0, o', none⟩) (n - k) c' (b.drop (p + k)) := fun o' c' ho hc' => by
            have hS1 := (HH1.out.ok p rfl).2.2.2
            refine ⟨?_, (fun e => by cases e), hc'⟩
            rcases ho with rfl | h0
            · have := rd_drop_at hS1.rd (by omega) hkn
              rw [List.drop_drop] at this
              exact this
            · exact ⟨by rw [List.length_drop]; have := Hn.out; omega, fun h => by omega⟩
          have Hrest := Lib.hid hrest
          clear hrest
          by_cases hkc : k < c
          · go_wp2_with fail
            go_ret
            refine ⟨v, .ok (p + k), rfl, After.good HE.out, HEnd.of (HH1.out.setRest (q := p + k) (by have := Hn.out; omega) (by have := Hn.out; omega) (Hrest.out _ _ (.inl rfl) (by omega)) (fun _ b1 o1 e => by cases e; exact Hgb.out)) (HF1.out.set _ _ (.inl (by simp)))⟩
          · go_wp2_with fail
            go_ret
            refine ⟨v, .ok (p + k), rfl, After.good HE.out, HEnd.of (HH1.out.setRest (q := p + k) (by have := Hn.out; omega) (by have := Hn.out; omega) (Hrest.out _ _ (.inr (by omega)) (by omega)) (fun _ b1 o1 e => by cases e; exact Hgb.out)) (HF1.out.set _ _ (.inl (by simp)))⟩
    · have HE := Lib.hid (numE_of (low := low) (high := high) Hg.out)
      rw [if_pos hf] at HE
      have hfb : (f != 0) = true := by simpa using hf
      have Hf := Lib.hid hf
      clear hf
      go_wp2_with fail
      refine (hFail_calls rb f 0 A n c w1 HH1.out.at').mono ?_
      rintro e2 w2 ⟨rfl, ⟨-, rfl⟩ | ⟨h9, _⟩⟩
      · have HR2 := Lib.hid (HH1.out.setErr (f := f) Hf.out)
        go_wp2_with fail
        go_ret
        exact ⟨0, .error f, rfl, After.bad HE.out, HEnd.of HR2.out (HF1.out.set _ _ (.inl (by simp)))⟩
      · exact absurd rfl h9
set_option maxHeartbeats 1000000 in
set_option maxRecDepth 100000 in
theorem hTime_calls (rb gb : Nat) (b : List Int) (s : Except Int Nat) (A : Option Addr) (n c : Nat) (e : Int) (w : World) (H : RdSt w rb gb b s A n c e) (hb : ∀ x ∈ b, 0 ≤ x ∧ x ≤ 255) (hl : b.length ≤ 100000) :
    Calls Try.prog 30 #[.pointer (some ⟨rb, 0, none⟩)] w fun x w' => ∃ (v : Int) (s' : Except Int Nat), x = .returned (.int .i64 v) ∧ Hid (After timeE b s 0 v s') ∧ HEnd w w' rb gb b s' := by
  have HH := Lib.hid H
  have c0 := H.c0
  have c1 := H.c1
  have f0 := H.frozen 0
  have Hb := Lib.hid hb
  clear hb
  go_enter Try.func30, Try.ntmps30
  cases s with
  | error f =>
    obtain ⟨rfl, hf⟩ := H.no f rfl
    clear H
    have hfb : (e != 0) = true := by simpa using hf
    go_wp2_with fail
    go_ret
    exact ⟨0, .error e, rfl, ⟨rfl, rfl⟩, HEnd.of HH.out (Fr.refl _ _)⟩
  | ok p =>
    obtain ⟨rfl, hp, hn, hS⟩ := H.ok p rfl
    have Hn := Lib.hid hn
    have HS := Lib.hid hS
    have hlt := H.lt
    have hcap := hS.cap
    have hn9 : n ≤ 1000000 := by omega
    clear H hn hS
    go_wp2_with fail
    refine (GetS_calls A n c (b.drop p) w HS.out.rd HS.out.nil hcap (fun x hx => Hb.out x (List.mem_of_mem_drop hx)) hn9).mono ?_
    rintro e1 w1 ⟨v, k, f, rfl, Hg, hb1⟩
    have HH1 := Lib.hid (HH.out.below hb1)
    have HF1 : Hid (Fr w w1 [some rb]) := Lib.hid (Fr.ofBelow hb1 _)
    have c0 := HH1.out.c0
    have c1 := HH1.out.c1
    have f0 := HH1.out.frozen 0
    clear hb1
    by_cases hf : f = 0
    · subst hf
      have hk := isGetS_rng Hg.out
      rw [drop_len Hn.out] at hk
      obtain ⟨hk1, hk10, hkn, hv64⟩ := hk
      have HE := Lib.hid (timeE_of Hg.out)
      rw [if_neg (by decide)] at HE
      obtain ⟨b0, o0, eA, hcell⟩ := HS.out.rd.2 (by omega)
      subst eA
      have hgb := HH.out.apart (by omega) b0 o0 rfl
      have Hgb := Lib.hid hgb
      clear hcell hgb hv64
      have hrest : ∀ o' c', (o' = o0 + k ∨ n - k = 0) → n - k ≤ c' → BSl w1 (some ⟨b0, o', none⟩) (n - k) c' (b.drop (p + k)) := fun o' c' ho hc' => by
        have hS1 := (HH1.out.ok p rfl).2.2.2
        refine ⟨?_, (fun e => by cases e), hc'⟩
        rcases ho with rfl | h0
        · have := rd_drop_at hS1.rd (by omega) hkn
          rw [List.drop_drop] at this
          exact this
        · exact ⟨by rw [List.length_drop]; have := Hn.out; omega, fun h => by omega⟩
      have Hrest := Lib.hid hrest
      clear hrest
      by_cases hkc : k < c
      · go_wp2_with fail
        go_ret
        refine ⟨v, .ok (p + k), rfl, After.good HE.out, HEnd.of (HH1.out.setRest (q := p + k) (by have := Hn.out; omega) (by have := Hn.out; omega) (Hrest.out _ _ (.inl rfl) (by omega)) (fun _ b1 o1 e => by cases e; exact Hgb.out)) (HF1.out.set _ _ (.inl (by simp)))⟩
      · go_wp2_with fail
        go_ret
        refine ⟨v, .ok (p + k), rfl, After.good HE.out, HEnd.of (HH1.out.setRest (q := p + k) (by have := Hn.out; omega) (by have := Hn.out; omega) (Hrest.out _ _ (.inr (by omega)) (by omega)) (fun _ b1 o1 e => by cases e; exact Hgb.out)) (HF1.out.set _ _ (.inl (by simp)))⟩
    · have HE := Lib.hid (timeE_of Hg.out)
      rw [if_pos hf] at HE
      have hfb : (f != 0) = true := by simpa using hf
      have Hf := Lib.hid hf
      clear hf
      go_wp2_with fail
      refine (hFail_calls rb f 0 A n c w1 HH1.out.at').mono ?_
      rintro e2 w2 ⟨rfl, ⟨-, rfl⟩ | ⟨h9, _⟩⟩
      · have HR2 := Lib.hid (HH1.out.setErr (f := f) Hf.out)
        go_wp2_with fail
        go_ret
        exact ⟨0, .error f, rfl, After.bad HE.out, HEnd.of HR2.out (HF1.out.set _ _ (.inl (by simp)))⟩
      · exact absurd rfl h9
/-- What is taken: a slice of the bytes. -/
structure Taken (w' : World) (gb : Nat) (l : List Int) (v : Value) : Prop where
  is : ∃ A c, v = .slice A l.length c ∧ BSl w' A l.length c l ∧ (0 < l.length → ∀ b1 o1, A = some ⟨b1, o1, none⟩ → b1 < gb)
theorem Taken.none (w : World) (gb : Nat) : Taken w gb [] (.slice none 0 0) := ⟨Option.none, 0, rfl, ⟨⟨rfl, fun h => by cases h⟩, fun _ => ⟨rfl, rfl⟩, Nat.le_refl _⟩, fun h => by cases h⟩
set_option maxHeartbeats 1000000 in
set_option maxRecDepth 100000 in
theorem hTake_calls (rb gb : Nat) (b : List Int) (s : Except Int Nat) (A : Option Addr) (n c : Nat) (e : Int) (m : Nat) (w : World) (H : RdSt w rb gb b s A n c e) (hl : b.length ≤ 100000) (hm : m ≤ 1000000) :
    Calls Try.prog 27 #[.pointer (some ⟨rb, 0, none⟩), .int .i64 m] w fun x w' => ∃ (v : Value) (l : List Int) (s' : Except Int Nat), x = .returned v ∧ Taken w' gb l v ∧ Hid (After (takeE m) b s [] l s') ∧ HEnd w w' rb gb b s' := by
  have HH := Lib.hid H
  have c0 := H.c0
  have c1 := H.c1
  have f0 := H.frozen 0
  go_enter Try.func27, Try.ntmps27
  cases s with
  | error f =>
    obtain ⟨rfl, hf⟩ := H.no f rfl
    clear H
    have hfb : (e != 0) = true := by simpa using hf
    have hfb2 : (e == 0) = false := by simpa using hf
    go_wp2_with fail
    go_ret
    exact ⟨.slice none 0 0, [], .error e, rfl, Taken.none _ _, ⟨rfl, rfl⟩, HEnd.of HH.out (Fr.refl _ _)⟩
  | ok p =>
    obtain ⟨rfl, hp, hn, hS⟩ := H.ok p rfl
    have Hn := Lib.hid hn
    have HS := Lib.hid hS
    have hcap := hS.cap
    have hn9 : n ≤ 1000000 := by omega
    clear H hn hS
    by_cases hmn : m ≤ n
    · have HE : Hid (takeE m b p = .ok ((b.drop p).take m, p + m)) := Lib.hid (by unfold takeE; rw [if_neg (by have := Hn.out; omega)])
      have hll : ((b.drop p).take m).length = m := by rw [List.length_take, drop_len Hn.out]; omega
      have Hll := Lib.hid hll
      clear hll
      cases A with
      | none =>
        obtain ⟨rfl, rfl⟩ := HS.out.nil rfl
        obtain rfl : m = 0 := by omega
        go_wp2_with fail
        go_ret
        refine ⟨_, (b.drop p).take 0, .ok (p + 0), rfl, Taken.none _ _, After.good HE.out, HEnd.of (HH.out.setRest (q := p + 0) (by omega) (by have := Hn.out; omega) HS.out (fun h => by omega)) ((Fr.refl w [some rb]).set _ _ (.inl (by simp)))⟩
      | some a =>
        obtain ⟨b0, o0, so⟩ := a
        by_cases hm0 : 0 < n
        · obtain ⟨b9, o9, eA, hcell⟩ := HS.out.rd.2 hm0
          cases eA
          have hgb := HH.out.apart (by omega) b0 o0 rfl
          have Hgb := Lib.hid hgb
          have hne : b0 ≠ rb := by have := HH.out.sep; omega
          have Hne := Lib.hid hne
          clear hcell hgb hne
          have hrest : ∀ o' c', (o' = o0 + m ∨ n - m = 0) → n - m ≤ c' → BSl w (some ⟨b0, o', none⟩) (n - m) c' (b.drop (p + m)) := fun o' c' ho hc' => by
            refine ⟨?_, (fun e => by cases e), hc'⟩
            rcases ho with rfl | h0
            · have := rd_drop_at HS.out.rd hm0 hmn
              rw [List.drop_drop] at this
              exact this
            · exact ⟨by rw [List.length_drop]; have := Hn.out; omega, fun h => by omega⟩
          have Hrest := Lib.hid hrest
          have htk : ∀ u, Taken (w.setCell ⟨rb, 0, none⟩ u) gb ((b.drop p).take m) (.slice (some ⟨b0, o0, none⟩) m c) := fun u => by
            refine ⟨some ⟨b0, o0, none⟩, c, by rw [Hll.out], ?_, fun _ b1 o1 e => by cases e; exact Hgb.out⟩
            rw [Hll.out]
            refine BSl.fr (S := [some rb]) ⟨rd_take_at HS.out.rd hmn, (fun e => by cases e), by omega⟩ ((Fr.refl w [some rb]).set _ _ (.inl (by simp))) (fun _ b1 o1 e o ho e2 => ?_)
            cases e
            simp at ho
            subst ho
            simp at e2
            exact Hne.out e2.symm
          have Htk := Lib.hid htk
          clear hrest htk
          by_cases hkc : m < c
          · go_wp2_with fail
            go_ret
            refine ⟨_, (b.drop p).take m, .ok (p + m), rfl, Htk.out _, After.good HE.out, HEnd.of (HH.out.setRest (q := p + m) (by have := Hn.out; omega) (by have := Hn.out; omega) (Hrest.out _ _ (.inl rfl) (by omega)) (fun _ b1 o1 e => by cases e; exact Hgb.out)) ((Fr.refl w [some rb]).set _ _ (.inl (by simp)))⟩
          · go_wp2_with fail
            go_ret
            refine ⟨_, (b.drop p).take m, .ok (p + m), rfl, Htk.out _, After.good HE.out, HEnd.of (HH.out.setRest (q := p + m) (by have := Hn.out; omega) (by have := Hn.out; omega) (Hrest.out _ _ (.inr (by omega)) (by omega)) (fun _ b1 o1 e => by cases e; exact Hgb.out)) ((Fr.refl w [some rb]).set _ _ (.inl (by simp)))⟩
        · obtain rfl : n = 0 := by omega
          obtain rfl : m = 0 := by omega
          have Hnil : ∀ (W : World) A' c', (A' = none → c' = 0) → BSl W A' 0 c' (b.drop (p + 0)) := fun W A' c' hA' => ⟨⟨by rw [List.length_drop]; have := Hn.out; omega, fun h => by omega⟩, fun e => ⟨rfl, hA' e⟩, by omega⟩
          have HN := Lib.hid Hnil
          clear Hnil
          go_wp2_with fail
          go_ret
          refine ⟨_, (b.drop p).take 0, .ok (p + 0), rfl, ⟨some ⟨b0, o0, so⟩, c, by rw [Hll.out]; rfl, ?_, fun h => by rw [Hll.out] at h; omega⟩, After.good HE.out, HEnd.of (HH.out.setRest (q := p + 0) (by have := Hn.out; omega) (by have := Hn.out; omega) (HN.out _ _ _ (fun e => by cases e)) (fun h => by omega)) ((Fr.refl w [some rb]).set _ _ (.inl (by simp)))⟩
          rw [Hll.out]
          exact ⟨⟨Hll.out, fun h => by cases h⟩, (fun e => by cases e), Nat.zero_le _⟩
    · have HE : Hid (takeE m b p = .error 2) := Lib.hid (by unfold takeE; rw [if_pos (by have := Hn.out; omega)])
      have hmn2 : n < m := by omega
      go_wp2_with fail
      refine (hFail_calls rb 2 0 A n c w HH.out.at').mono ?_
      rintro e2 w2 ⟨rfl, ⟨-, rfl⟩ | ⟨h9, _⟩⟩
      · have HR2 := Lib.hid (HH.out.setErr (f := 2) (by decide))
        have c0 := HR2.out.c0
        have c1 := HR2.out.c1
        go_wp2_with fail
        go_ret
        exact ⟨.slice none 0 0, [], .error 2, rfl, Taken.none _ _, After.bad HE.out, HEnd.of HR2.out ((Fr.refl w [some rb]).set _ _ (.inl (by simp)))⟩
      · exact absurd rfl h9
end Go.Proofs.Ytdbkbeojedndbaa
/-
  Arrays of 32 bytes as values: loads, slice literals, appends, copies.
-/
namespace Go.Proofs.Ytdbkbeojedndbaa
open Go.RowKit

abbrev agg32 (l : List Int) : Value := .agg (ints .u8 l).toArray
theorem size32 (l : List Int) : (ints .u8 l).toArray.size = l.length := by rw [List.size_toArray, ints_length]
theorem elHash : ElT Try.prog 24 67 (agg32 (List.replicate 32 0)) 32 32 := ⟨Try.underlying24, by kernel_rfl, by decide, by decide, by decide⟩
theorem run_loadHash {w : World} {b off : Nat} {l : List Int} (hl : l.length = 32) (hc : ∀ j, j < 32 → w.cell? ⟨b, off + j, none⟩ = some (.int .u8 (rd l j))) :
    (loadVar 67 ⟨b, off, none⟩).run Try.prog w = .ok (agg32 l) w := by
  have h := run_loadCells_list (P := Try.prog) w ⟨b, off, none⟩ (ints .u8 l) (fun j v hv => by
    have hj : j < l.length := by have := (List.getElem?_eq_some_iff.1 hv).1; rwa [ints_length] at this
    rw [ints_get hj] at hv
    cases hv
    rw [addr_add]
    exact hc j (by omega))
  rw [ints_length, hl] at h
  have hi : (Try.prog.info? 67).map (·.size) = some 32 := by kernel_rfl
  have hu := Try.underlying67
  cases hq : Try.prog.info? 67 with
  | none => rw [hq] at hi; cases hi
  | some i =>
    have hs : i.size = 32 := by rw [hq] at hi; simpa using hi
    have hagg : (isAgg 67).run Try.prog w = .ok true w := by
      unfold isAgg
      rw [Sem.run_bind, run_underlying hu w]
      rfl
    simp [loadVar, Sem.run_bind, hagg, sizeOf, typeInfo, hq, hs, h]
theorem wpList_loadHash {ops : Array Oper} {rest : List Oper} {o : Oper} {a : Act} {w : World} {Q : Exit → Act → World → Prop} (hgd : o.guard = none) (x : Operand) (ho : o.op = .load 67 x)
    {b off : Nat} (hx : a.eval x = .pointer (some ⟨b, off, none⟩)) {l : List Int} (hl : l.length = 32) (hc : ∀ j, j < 32 → w.cell? ⟨b, off + j, none⟩ = some (.int .u8 (rd l j)))
    (h : wpList Try.prog ops Q rest (a.put o.dst (agg32 l)) w) : wpList Try.prog ops Q (o :: rest) a w :=
  wpList_plain hgd fun _ hK => by
    unfold Oper.wp execOp
    simp only [ho, hx, Instr.loadAt, Instr.sureAddr, Sem.run_bind, Sem.run_pure, Result.andThen_ok, run_loadHash hl hc]
    exact hK _ _ h
theorem fill32 (z X : Array Value) (hX : X.size = 32) : Instr.fill (fun i => some (i * 32, 32)) ((Array.range (1 * 32)).map (z[· % z.size]!)) [(0, .agg X)] = some X := by
  obtain ⟨r, hr, hs, hk⟩ := Great.fill_dense (s := 32) (by decide) [.agg X] 0 ((Array.range (1 * 32)).map (z[· % z.size]!)) (by
    intro v hv
    simp at hv
    subst hv
    exact hX) (by simp)
  have e : (([.agg X] : List Value).zipIdx 0).map (fun x => (x.2, x.1)) = [(0, .agg X)] := rfl
  rw [e] at hr
  rw [hr]
  congr 1
  apply Array.ext_getElem?
  intro k
  rw [hk k]
  by_cases h : k < 32
  · rw [if_pos (by simp; exact h)]
    have e0 : k / 32 - 0 = 0 := by omega
    have e1 : k % 32 = k := by omega
    rw [e0, e1]
    rfl
  · rw [if_neg (by simp; omega), Array.getElem?_eq_none (by simp; omega), Array.getElem?_eq_none (by omega)]
theorem wpList_oneHash {ops : Array Oper} {rest : List Oper} {o : Oper} {a : Act} {w : World} {Q : Exit → Act → World → Prop} (hgd : o.guard = none) (x : Operand) (ho : o.op = .buildSlice 24 1 #[(0, x)])
    {l : List Int} (hx : a.eval x = agg32 l) (hl : l.length = 32)
    (h : wpList Try.prog ops Q rest (a.put o.dst (.slice (some ⟨w.heap.size, 0, none⟩) 1 1)) (w.alloc (.cells (ints .u8 l).toArray 67))) : wpList Try.prog ops Q (o :: rest) a w := by
  have hi : (Try.prog.info? 67).map (fun i => (i.zero, i.size)) = some (some (agg32 (List.replicate 32 0)), 32) := by kernel_rfl
  cases hq : Try.prog.info? 67 with
  | none => rw [hq] at hi; cases hi
  | some i =>
    rw [hq] at hi
    simp only [Option.map_some, Option.some.injEq, Prod.mk.injEq] at hi
    obtain ⟨hz, hs⟩ := hi
    refine wpList_buildSlice hgd 24 67 1 #[(0, x)] ho (ints .u8 l).toArray i (agg32 (List.replicate 32 0)) Try.underlying24 hq hz (by rw [hs]; decide) (by rw [hs]; decide) ?_ h
    rw [hs]
    have e : (#[(0, x)].map fun (i, x) => (i, a.eval x)).toList = [(0, agg32 l)] := by
      simp [hx]
    rw [e]
    exact fill32 _ _ (by rw [size32, hl])
/-- 'append' of one hash that is built right ahead of it. -/
theorem wpList_appHash {wr : World} {ops : Array Oper} {rest : List Oper} {o : Oper} {a : Act} {Q : Exit → Act → World → Prop} (hgd : o.guard = none) (s x : Operand)
    (ho : o.op = .call { callee := .builtin .append, args := #[s, x], argTypes := #[24, 24] })
    {base : Nat} {v : Value} {n : Nat} {D : List (List Int)} (hown : wr.ownsRow base 67 32 v n (ints .u8 D.flatten))
    (hs : a.eval s = v) {l : List Int} {bx : Nat} (hx : a.eval x = .slice (some ⟨bx, 0, none⟩) 1 1) (hbx : bx = wr.heap.size) (hl : l.length = 32) (hn : n ≤ 1000000) (hbase : base ≤ wr.heap.size)
    (h : ∀ g cap w', w'.ownsRow base 67 32 (.slice (some ⟨g, 0, none⟩) (n + 1) cap) (n + 1) (ints .u8 (D ++ [l]).flatten) → Fr wr w' [v.ownBlock] → (v.ownBlock = some g ∨ wr.heap.size ≤ g) → g < w'.heap.size → wpList Try.prog ops Q rest (a.put o.dst (.slice (some ⟨g, 0, none⟩) (n + 1) cap)) w') :
    wpList Try.prog ops Q (o :: rest) a (wr.alloc (.cells (ints .u8 l).toArray 67)) := by
  refine wpList_app3 hgd s x ho elHash hown hs hx hbx (vs := (ints .u8 l).toArray) (by rw [size32, hl]) ?_ (by omega) hbase ?_
  · rw [List.toList_toArray, List.all_eq_true]
    intro u hu
    obtain ⟨y, _, rfl⟩ := List.mem_map.1 hu
    rfl
  · intro g cap w' h1 h2 h3 h4
    refine h g cap w' ?_ h2 h3 h4
    rw [List.flatten_append, List.flatten_singleton, ints_append]
    exact h1
theorem copy_hash {w : World} {g : Nat} {z l : List Int} {A : Option Addr} {c : Nat} (hz : z.length = 32) (hB : Blk w g 67 .u8 z) (hl : l.length = 32) (hR : Rd w .u8 A l.length l) :
    (Builtin.copy_ #[22, 22] 3 #[.slice (some ⟨g, 0, none⟩) 32 32, .slice A l.length c]).run Try.prog w = .ok (.int .i64 32) (w.setRow g (ints .u8 l).toArray) := by
  obtain ⟨b, o, rfl, hc⟩ := hR.2 (by omega)
  have e := run_copy_row Try.prog w 22 22 3 5 g 0 32 32 ⟨b, o, none⟩ l.length c (ints .u8 z).toArray 67 (ints .u8 l) Try.underlying22 (by kernel_rfl) hB (by rw [ints_length, hl]; rfl) ?_ (by rw [size32, ints_length]; omega) ?_
  · rw [e, ints_length, hl]
    have e2 : ((ints .u8 z).toArray.toList.take 0 ++ ints .u8 l ++ (ints .u8 z).toArray.toList.drop (0 + 32)) = ints .u8 l := by
      rw [List.toList_toArray, List.take_zero, List.nil_append, List.drop_of_length_le (by rw [ints_length]; omega), List.append_nil]
    rw [e2]
    rfl
  · intro j v hv
    have hj : j < l.length := by have := (List.getElem?_eq_some_iff.1 hv).1; rwa [ints_length] at this
    rw [ints_get hj] at hv
    cases hv
    rw [addr_add]
    exact hc j hj
  · intro v hv
    obtain ⟨y, _, rfl⟩ := List.mem_map.1 hv
    rfl
theorem copy_hash0 (w : World) (g : Nat) (A : Option Addr) (c : Nat) : (Builtin.copy_ #[22, 22] 3 #[.slice (some ⟨g, 0, none⟩) 32 32, .slice A 0 c]).run Try.prog w = .ok (.int .i64 0) w :=
  run_copy_none w 22 22 3 5 _ _ _ _ _ _ Try.underlying22 (by kernel_rfl) rfl
/-- Hashes of 32 bytes each, one behind the other. -/
def Hashes (D : List (List Int)) : Prop := ∀ h ∈ D, h.length = 32 ∧ ∀ x ∈ h, 0 ≤ x ∧ x ≤ 255
theorem Hashes.app {D : List (List Int)} {l : List Int} (h : Hashes D) (hl : l.length = 32) (hb : ∀ x ∈ l, 0 ≤ x ∧ x ≤ 255) : Hashes (D ++ [l]) := by
  intro x hx
  rcases List.mem_append.1 hx with hx | hx
  · exact h x hx
  · simp at hx; subst hx; exact ⟨hl, hb⟩
theorem flat_rd : ∀ (D : List (List Int)), Hashes D → ∀ (i j : Nat), i < D.length → j < 32 → rd D.flatten (i * 32 + j) = rd (D.getD i []) j ∧ D.flatten.length = D.length * 32 := by
  intro D
  induction D with
  | nil => intro _ i j hi; cases hi
  | cons h D ih =>
    intro hD i j hi hj
    have h1 := (hD h List.mem_cons_self).1
    have hD2 : Hashes D := fun x hx => hD x (List.mem_cons_of_mem _ hx)
    have hlen : (h :: D).flatten.length = (h :: D).length * 32 := by
      cases D with
      | nil => simp [h1]
      | cons h2 D2 =>
        have := (ih hD2 0 0 (by simp) (by omega)).2
        rw [List.flatten_cons, List.length_append, this, h1, List.length_cons (a := h)]
        omega
    refine ⟨?_, hlen⟩
    rw [List.flatten_cons]
    cases i with
    | zero =>
      unfold rd
      rw [Nat.zero_mul, Nat.zero_add, List.getD_eq_getElem?_getD, List.getElem?_append_left (by omega), ← List.getD_eq_getElem?_getD]
      rfl
    | succ i =>
      have h2 := (ih hD2 i j (by simp at hi; omega) hj).1
      unfold rd at h2 ⊢
      rw [List.getD_eq_getElem?_getD, List.getElem?_append_right (by omega), show (i + 1) * 32 + j - h.length = i * 32 + j by omega, ← List.getD_eq_getElem?_getD, h2]
      rfl
theorem flat_len {D : List (List Int)} (hD : Hashes D) : D.flatten.length = D.length * 32 := by
  cases D with
  | nil => rfl
  | cons h D => exact (flat_rd (h :: D) hD 0 0 (by simp) (by omega)).2
end Go.Proofs.Ytdbkbeojedndbaa
/-
  The walks of bytes.Compare and of the reference's Less of two hashes.
-/
namespace Go.Proofs.Ytdbkbeojedndbaa
open Go.RowKit

theorem lt_cons {x y : Int} {l m : List Int} : x :: l < y :: m ↔ x < y ∨ (x = y ∧ l < m) := List.cons_lt_cons_iff
theorem int_pre_lt (p : List Int) {x y : List Int} : p ++ x < p ++ y ↔ x < y := by
  induction p with
  | nil => rfl
  | cons a p ih =>
    rw [List.cons_append, List.cons_append, lt_cons]
    constructor
    · rintro (h | ⟨_, h⟩)
      · omega
      · exact ih.1 h
    · intro h; exact .inr ⟨rfl, ih.2 h⟩
theorem int_less_here {l m : List Int} {k : Nat} (hl : k < l.length) (hm : k < m.length) (h : l.take k = m.take k) (hne : rd l k ≠ rd m k) : (l < m ↔ rd l k < rd m k) := by
  have e1 : l = l.take k ++ rd l k :: l.drop (k + 1) := by rw [rd_getElem hl, ← List.drop_eq_getElem_cons hl, List.take_append_drop]
  have e2 : m = l.take k ++ rd m k :: m.drop (k + 1) := by rw [h, rd_getElem hm, ← List.drop_eq_getElem_cons hm, List.take_append_drop]
  have := int_pre_lt (l.take k) (x := rd l k :: l.drop (k + 1)) (y := rd m k :: m.drop (k + 1))
  rw [← e1, ← e2, lt_cons] at this
  rw [this]
  constructor
  · rintro (h | ⟨h, _⟩)
    · exact h
    · exact absurd h hne
  · exact .inl
/-- What comparing bytes tells. -/
theorem cmp_is : ∀ (xs ys : List Int), (∀ x ∈ xs, 0 ≤ x ∧ x ≤ 255) → (∀ x ∈ ys, 0 ≤ x ∧ x ≤ 255) → (Lib.compareBytes (Lib.bytesOf xs) (Lib.bytesOf ys) < 0 ↔ xs < ys) ∧ (Lib.compareBytes (Lib.bytesOf xs) (Lib.bytesOf ys) = 0 ↔ xs = ys) ∧ -1 ≤ Lib.compareBytes (Lib.bytesOf xs) (Lib.bytesOf ys) ∧ Lib.compareBytes (Lib.bytesOf xs) (Lib.bytesOf ys) ≤ 1 := by
  intro xs
  induction xs with
  | nil =>
    intro ys _ _
    cases ys with
    | nil =>
      have e : Lib.compareBytes (Lib.bytesOf []) (Lib.bytesOf []) = 0 := rfl
      rw [e]
      exact ⟨⟨fun h => by omega, fun h => absurd h (List.lt_irrefl _)⟩, ⟨fun _ => rfl, fun _ => rfl⟩, by omega, by omega⟩
    | cons y ys =>
      have e : Lib.compareBytes (Lib.bytesOf []) (Lib.bytesOf (y :: ys)) = -1 := rfl
      rw [e]
      exact ⟨⟨fun _ => List.nil_lt_cons .., fun _ => by omega⟩, ⟨fun h => by omega, fun h => by cases h⟩, by omega, by omega⟩
  | cons x xs ih =>
    intro ys hx hy
    cases ys with
    | nil =>
      have e : Lib.compareBytes (Lib.bytesOf (x :: xs)) (Lib.bytesOf []) = 1 := rfl
      rw [e]
      exact ⟨⟨fun h => by omega, fun h => absurd h (List.not_lt_nil _)⟩, ⟨fun h => by omega, fun h => by cases h⟩, by omega, by omega⟩
    | cons y ys =>
      have h1 := hx x List.mem_cons_self
      have h2 := hy y List.mem_cons_self
      obtain ⟨i1, i2, i3, i4⟩ := ih ys (fun z hz => hx z (List.mem_cons_of_mem _ hz)) (fun z hz => hy z (List.mem_cons_of_mem _ hz))
      have e : Lib.compareBytes (Lib.bytesOf (x :: xs)) (Lib.bytesOf (y :: ys)) = if x.toNat.toUInt8 < y.toNat.toUInt8 then -1 else if y.toNat.toUInt8 < x.toNat.toUInt8 then 1 else Lib.compareBytes (Lib.bytesOf xs) (Lib.bytesOf ys) := rfl
      have nx : (x.toNat.toUInt8).toNat = x.toNat := by rw [Nat.toUInt8_eq, UInt8.toNat_ofNat_of_lt' (by show _ < 256; omega)]
      have ny : (y.toNat.toUInt8).toNat = y.toNat := by rw [Nat.toUInt8_eq, UInt8.toNat_ofNat_of_lt' (by show _ < 256; omega)]
      rw [e, lt_cons]
      simp only [UInt8.lt_iff_toNat_lt, nx, ny]
      by_cases a1 : x < y
      · rw [if_pos (by omega)]
        exact ⟨⟨fun _ => .inl a1, fun _ => by omega⟩, ⟨fun h => by omega, fun h => by cases h; omega⟩, by omega, by omega⟩
      · rw [if_neg (by omega)]
        by_cases a2 : y < x
        · rw [if_pos (by omega)]
          exact ⟨⟨fun h => by omega, fun h => by rcases h with h | ⟨h, _⟩ <;> omega⟩, ⟨fun h => by omega, fun h => by cases h; omega⟩, by omega, by omega⟩
        · rw [if_neg (by omega)]
          obtain rfl : x = y := by omega
          exact ⟨⟨fun h => .inr ⟨rfl, i1.1 h⟩, fun h => i1.2 (by rcases h with h | ⟨_, h⟩; exact absurd h a1; exact h)⟩, ⟨fun h => by rw [i2.1 h], fun h => i2.2 (by cases h; rfl)⟩, i3, i4⟩
theorem run_cmpSlice {P : Program} (w : World) {A B : Option Addr} {n c m d : Nat} {xs ys : List Int} (hA : Rd w .u8 A n xs) (hB : Rd w .u8 B m ys) :
    (Extern.BytealgCompare.compare #[.slice A n c, .slice B m d]).run P w = .ok (.int .i64 (Lib.compareBytes (Lib.bytesOf xs) (Lib.bytesOf ys))) w := by
  have load : ∀ (A : Option Addr) (n c : Nat) (zs : List Int), Rd w .u8 A n zs → (Extern.Bytes.bytesOf (.slice A n c)).run P w = .ok ⟨(Lib.bytesOf zs).toArray⟩ w := by
    intro A n c zs hz
    rcases Nat.eq_zero_or_pos n with h0 | h0
    · subst h0
      have : zs = [] := List.length_eq_zero_iff.1 hz.1
      subst this
      cases A <;> rfl
    · obtain ⟨b, o, rfl, hc⟩ := hz.2 h0
      have h := Lib.run_loadBytesX (P := P) w zs ⟨b, o, none⟩ .empty (fun j x hj => by
        have hjl : j < zs.length := (List.getElem?_eq_some_iff.1 hj).1
        rw [addr_add, hc j (by rw [← hz.1]; exact hjl)]
        unfold rd
        rw [List.getD_eq_getElem?_getD, hj]
        rfl)
      rw [hz.1] at h
      have he : (⟨ByteArray.empty.data ++ (Lib.bytesOf zs).toArray⟩ : ByteArray) = ⟨(Lib.bytesOf zs).toArray⟩ := by
        apply ByteArray.ext
        show (#[] : Array UInt8) ++ (Lib.bytesOf zs).toArray = (Lib.bytesOf zs).toArray
        simp
      rw [he] at h
      exact h
  have hl1 := load A n c xs hA
  have hl2 := load B m d ys hB
  change Sem.run P (do pure (goInt (Extern.BytealgCompare.cmp (← Extern.Bytes.bytesOf (.slice A n c)) (← Extern.Bytes.bytesOf (.slice B m d))))) w = _
  simp only [Sem.run_bind, Sem.run_pure, Result.andThen, hl1, hl2]
  rw [Lib.cmp_eq]
  rfl
set_option maxRecDepth 100000 in
theorem cmp_calls (A B : Option Addr) (n c m d : Nat) (xs ys : List Int) (w : World) (hA : Rd w .u8 A n xs) (hB : Rd w .u8 B m ys) (hx : ∀ x ∈ xs, 0 ≤ x ∧ x ≤ 255) (hy : ∀ x ∈ ys, 0 ≤ x ∧ x ≤ 255) :
    Calls Try.prog 28 #[.slice A n c, .slice B m d] w fun e w' => ∃ r : Int, e = .returned (.int .i64 r) ∧ Hid ((r < 0 ↔ xs < ys) ∧ (r = 0 ↔ xs = ys)) ∧ -1 ≤ r ∧ r ≤ 1 ∧ w' = w := by
  have hc := cmp_is xs ys hx hy
  have hr := run_cmpSlice (P := Try.prog) (c := c) (d := d) w hA hB
  obtain ⟨r, hr0⟩ : ∃ r, r = Lib.compareBytes (Lib.bytesOf xs) (Lib.bytesOf ys) := ⟨_, rfl⟩
  rw [← hr0] at hc hr
  have Hc := Lib.hid hc
  have Hr := Lib.hid hr
  clear hA hB hx hy hc hr hr0
  go_enter Try.func28, Try.ntmps28
  go_wp2
  rw [run_callFunc_extern Try.func66 (by kernel_rfl) (by kernel_rfl) (by kernel_rfl) (e := Extern.BytealgCompare.compare) (by kernel_rfl), Hr.out]
  simp only [Result.andThen]
  rw [Oper.upon_value]
  go_wp2
  go_ret
  exact ⟨r, rfl, ⟨Hc.out.1, Hc.out.2.1⟩, Hc.out.2.2.1, Hc.out.2.2.2, rfl⟩
set_option maxHeartbeats 1000000 in
set_option maxRecDepth 100000 in
theorem rLess20_calls (x y : List Int) (w : World) (hx : x.length = 32) (hy : y.length = 32) (hxb : ∀ z ∈ x, 0 ≤ z ∧ z ≤ 255) (hyb : ∀ z ∈ y, 0 ≤ z ∧ z ≤ 255) :
    Calls Try.prog 34 #[.agg (ints .u8 x).toArray, .agg (ints .u8 y).toArray] w fun e w' => ∃ c, e = .returned (.bool c) ∧ Hid (c = true ↔ x < y) ∧ Below w.heap.size w w' := by
  have cell : ∀ (w0 : World) (l : List Int) (T : TypeId) (j : Nat), j < l.length → (w0.alloc (.cells (ints .u8 l).toArray T)).cell? ⟨w0.heap.size, j, none⟩ = some (.int .u8 (rd l j)) := by
    intro w0 l T j hj
    have h := news_at w0 (ints .u8 l).toArray T j (.int .u8 (rd l j)) (by
      rw [List.toList_toArray]
      unfold ints rd
      rw [List.getElem?_map, List.getD_eq_getElem?_getD, List.getElem?_eq_getElem hj]
      rfl)
    rw [addr_add, Nat.zero_add] at h
    exact h
  go_enter Try.func34, Try.ntmps34
  obtain ⟨X, hX⟩ : ∃ X, X = (ints .u8 x).toArray := ⟨_, rfl⟩
  obtain ⟨Y, hY⟩ : ∃ Y, Y = (ints .u8 y).toArray := ⟨_, rfl⟩
  rw [← hX, ← hY]
  obtain ⟨W, hW⟩ : ∃ W, W = (w.alloc (.cells X 67)).alloc (.cells Y 67) := ⟨_, rfl⟩
  have c1 : ∀ j, j < 32 → W.cell? ⟨w.heap.size, j, none⟩ = some (.int .u8 (rd x j)) := fun j hj => by
    rw [hW, hX]
    exact kept_new (cell w x _ j (by omega)) _
  have c2 : ∀ j, j < 32 → W.cell? ⟨w.heap.size + 1, j, none⟩ = some (.int .u8 (rd y j)) := fun j hj => by
    rw [hW, hY]
    have := cell (w.alloc (.cells X 67)) y 67 j (by omega)
    simpa using this
  have hB : Below w.heap.size w W := by rw [hW]; exact ((Below.refl _ _).alloc (Nat.le_refl _) _).alloc (by simp) _
  have HC1 := Lib.hid c1
  have HC2 := Lib.hid c2
  have HB := Lib.hid hB
  have HX := Lib.hid hx
  have HY := Lib.hid hy
  have Hxb := Lib.hid hxb
  have Hyb := Lib.hid hyb
  clear cell c1 c2 hB hx hy hxb hyb hX hY
  have HW := Lib.hid hW
  clear hW
  go_upto_region 1 with fail
  rw [← HW.out]
  clear HW
  go_wp2_with fail
  go_loopw [5] (fun i wr => ∃ k : Nat, k ≤ 32 ∧ i = .int .i64 k ∧ Hid (x.take k = y.take k) ∧ Hid (Below W.heap.size W wr)) (fun i _ => 32 - (intOf i).toNat)
  case atStart => exact ⟨0, by omega, rfl, Lib.hid rfl, Below.refl _ _⟩
  case round =>
    obtain ⟨k, hk, rfl, HT, HBr⟩ := hrel
    obtain ⟨W2, hW2⟩ : ∃ W, W = wr := ⟨_, rfl⟩
    subst hW2
    by_cases hlt : k < 32
    · have c1 := kept_cell HBr.out (HC1.out k hlt)
      have c2 := kept_cell HBr.out (HC2.out k hlt)
      obtain ⟨p, hp⟩ : ∃ p, p = rd x k := ⟨_, rfl⟩
      obtain ⟨q, hq⟩ : ∃ q, q = rd y k := ⟨_, rfl⟩
      rw [← hp] at c1
      rw [← hq] at c2
      have hkx : k < x.length := by rw [HX.out]; exact hlt
      have hky : k < y.length := by rw [HY.out]; exact hlt
      have Hp := Lib.hid hp
      have Hq := Lib.hid hq
      clear hp hq
      by_cases he : p = q
      · have hx : (p != q) = false := by simp [he]
        have HE := Lib.hid he
        clear he
        go_wp2_with fail
        go_region
        go_wp2_with fail
        go_roundw
        case rel =>
          refine ⟨k + 1, by omega, by go_num, Lib.hid ?_, HBr.out.drew⟩
          rw [take_rdn hkx, take_rdn hky, HT.out, ← Hp.out, ← Hq.out, HE.out]
        case measure => simp [intOf]; omega
      · have hx : (p != q) = true := by simp [he]
        have Hlt := Lib.hid (int_less_here hkx hky HT.out (by rw [← Hp.out, ← Hq.out]; exact he))
        rw [← Hp.out, ← Hq.out] at Hlt
        clear he hkx hky
        go_wp2_with fail
        go_region
        go_wp2_with fail
        go_region
        all_goals go_wp2_with fail
        all_goals go_ret
        all_goals refine ⟨_, rfl, Lib.hid ?_, HB.out.trans (HBr.out.drew.drew.mono HB.out.size)⟩
        all_goals
          rw [Hlt.out]
          simp
    · obtain rfl : k = 32 := by omega
      have hxy : x = y := by
        have := HT.out
        rw [List.take_of_length_le (by rw [HX.out]; omega), List.take_of_length_le (by rw [HY.out]; omega)] at this
        exact this
      have Hxy := Lib.hid hxy
      clear hxy
      go_wp2_with fail
      go_ret
      refine ⟨_, rfl, Lib.hid ?_, HB.out.trans (HBr.out.mono HB.out.size)⟩
      rw [Hxy.out]
      exact ⟨fun h => (by cases h), fun h => absurd h (List.lt_irrefl _)⟩
end Go.Proofs.Ytdbkbeojedndbaa
/-
  What head.Get holds while it reads; hashes read one by one.
-/
namespace Go.Proofs.Ytdbkbeojedndbaa
open Go.RowKit

/-- The cells of a change. -/
abbrev chgC (a : ByteArray) (sq st tm : Int) (ms : ByteArray) (dv ov : Value) : Array Value := #[.string a, .int .i64 sq, .int .i64 st, .int .i64 tm, .string ms, dv, ov]
abbrev chg0 : Array Value := chgC ⟨#[]⟩ 0 0 0 ⟨#[]⟩ (.slice none 0 0) (.slice none 0 0)
structure HBun (w W : World) (rb gc g : Nat) (b : List Int) (s : Except Int Nat) (a : ByteArray) (sq st tm : Int) (ms : ByteArray) (dv : Value) (D : List (List Int)) : Prop where
  res : W.heap[g]? = some (.cells chg0 27 (0, 0))
  rd : ∃ A n c e, RdSt W rb w.heap.size b s A n c e
  chg : W.heap[gc]? = some (.cells (chgC a sq st tm ms dv (.slice none 0 0)) 27 (0, 0))
  own : W.ownsRow w.heap.size 67 32 dv D.length (ints .u8 D.flatten)
  hs : Hashes D
  bel : Below w.heap.size w W
  ord : w.heap.size ≤ g ∧ w.heap.size ≤ rb ∧ w.heap.size ≤ gc ∧ g ≠ rb ∧ g ≠ gc ∧ rb ≠ gc
section
variable {w W W1 : World} {rb gc g : Nat} {b : List Int} {s s' : Except Int Nat} {a : ByteArray} {sq st tm : Int} {ms : ByteArray} {dv : Value} {D : List (List Int)}
theorem HBun.ltg (H : HBun w W rb gc g b s a sq st tm ms dv D) : g < W.heap.size := (Array.getElem?_eq_some_iff.1 H.res).1
theorem HBun.ltc (H : HBun w W rb gc g b s a sq st tm ms dv D) : gc < W.heap.size := (Array.getElem?_eq_some_iff.1 H.chg).1
theorem HBun.ltr (H : HBun w W rb gc g b s a sq st tm ms dv D) : rb < W.heap.size := by obtain ⟨A, n, c, e, h⟩ := H.rd; exact h.lt
theorem HBun.apart_r (H : HBun w W rb gc g b s a sq st tm ms dv D) : Apart dv.ownBlock (some rb) := by obtain ⟨A, n, c, e, h⟩ := H.rd; exact own_apart h.at' (by decide) H.own
theorem HBun.apart_c (H : HBun w W rb gc g b s a sq st tm ms dv D) : Apart dv.ownBlock (some gc) := own_apart H.chg (by decide) H.own
theorem HBun.apart_g (H : HBun w W rb gc g b s a sq st tm ms dv D) : Apart dv.ownBlock (some g) := own_apart H.res (by decide) H.own
/-- The reader has read. -/
theorem HBun.read (H : HBun w W rb gc g b s a sq st tm ms dv D) (E : HEnd W W1 rb w.heap.size b s') : HBun w W1 rb gc g b s' a sq st tm ms dv D := by
  obtain ⟨h1, h2, h3, h4, h5, h6⟩ := H.ord
  refine ⟨(E.fr.block g H.ltg (fun o ho e => ?_)).trans H.res, E.st, (E.fr.block gc H.ltc (fun o ho e => ?_)).trans H.chg, own_fr H.own E.fr (fun o ho => ?_), H.hs, H.bel.trans (E.fr.below H.bel.size (fun o ho j e => ?_)), H.ord⟩
  · simp at ho; subst ho; simp at e; omega
  · simp at ho; subst ho; simp at e; omega
  · simp at ho; subst ho; exact H.apart_r
  · simp at ho; subst ho; simp at e; omega
/-- A frame that touches none of the blocks. -/
theorem HBun.fr (H : HBun w W rb gc g b s a sq st tm ms dv D) {S : List (Option Nat)} (hf : Fr W W1 S) (hS : ∀ k, some k ∈ S → w.heap.size ≤ k ∧ k ≠ g ∧ k ≠ rb ∧ k ≠ gc ∧ dv.ownBlock ≠ some k) : HBun w W1 rb gc g b s a sq st tm ms dv D := by
  obtain ⟨A, n, c, e, h⟩ := H.rd
  refine ⟨(hf.block g H.ltg (fun o ho e => ?_)).trans H.res, ⟨A, n, c, e, h.fr hf (fun h => (hS rb h).2.2.1 rfl) (fun k hk => (hS k hk).1)⟩, (hf.block gc H.ltc (fun o ho e => ?_)).trans H.chg, own_fr H.own hf (fun o ho k hk e => ?_), H.hs, H.bel.trans (hf.below H.bel.size (fun o ho j e => ?_)), H.ord⟩
  · subst e; exact (hS g ho).2.1 rfl
  · subst e; exact (hS gc ho).2.2.2.1 rfl
  · subst e; exact (hS k ho).2.2.2.2 hk
  · subst e; exact (hS j ho).1
theorem HBun.below (H : HBun w W rb gc g b s a sq st tm ms dv D) (hb : Below W.heap.size W W1) : HBun w W1 rb gc g b s a sq st tm ms dv D := H.fr (Fr.ofBelow hb []) (fun k hk => by cases hk)
theorem HBun.drew (H : HBun w W rb gc g b s a sq st tm ms dv D) : HBun w W.drew rb gc g b s a sq st tm ms dv D := H.below (Below.refl _ _).drew
theorem HBun.cell (H : HBun w W rb gc g b s a sq st tm ms dv D) (j : Nat) : W.cell? ⟨gc, j, none⟩ = (chgC a sq st tm ms dv (.slice none 0 0))[j]? := cell_of_row W gc j _ _ (0, 0) H.chg
theorem HBun.frozen (H : HBun w W rb gc g b s a sq st tm ms dv D) (j : Nat) : W.frozen? ⟨gc, j, none⟩ = false := frozen_of_row W gc j _ _ H.chg
/-- A field is set. -/
theorem HBun.put (H : HBun w W rb gc g b s a sq st tm ms dv D) (j : Nat) (v : Value) {a' : ByteArray} {sq' st' tm' : Int} {ms' : ByteArray} (he : (chgC a sq st tm ms dv (.slice none 0 0)).setIfInBounds j v = chgC a' sq' st' tm' ms' dv (.slice none 0 0)) : HBun w (W.setCell ⟨gc, j, none⟩ v) rb gc g b s a' sq' st' tm' ms' dv D := by
  obtain ⟨h1, h2, h3, h4, h5, h6⟩ := H.ord
  obtain ⟨A, n, c, e, h⟩ := H.rd
  have hf : Fr W (W.setCell ⟨gc, j, none⟩ v) [some gc] := (Fr.refl W [some gc]).set _ _ (.inl (by simp))
  refine ⟨(hf.block g H.ltg (fun o ho e => ?_)).trans H.res, ⟨A, n, c, e, h.fr hf (by simp; omega) (fun k hk => by simp at hk; omega)⟩, ?_, own_fr H.own hf (fun o ho => ?_), H.hs, H.bel.trans (hf.below H.bel.size (fun o ho j e => ?_)), H.ord⟩
  · simp at ho; subst ho; simp at e; omega
  · rw [← he]; exact heap_setCell_same W gc j _ _ _ H.chg
  · simp at ho; subst ho; exact H.apart_c
  · simp at ho; subst ho; simp at e; omega
/-- One hash more. -/
theorem HBun.more (H : HBun w W rb gc g b s a sq st tm ms dv D) {l : List Int} (hl : l.length = 32) (hb : ∀ x ∈ l, 0 ≤ x ∧ x ≤ 255) {gd cap : Nat} (ho : W1.ownsRow w.heap.size 67 32 (.slice (some ⟨gd, 0, none⟩) (D.length + 1) cap) (D.length + 1) (ints .u8 (D ++ [l]).flatten)) (hf : Fr W W1 [dv.ownBlock]) (_hat : dv.ownBlock = some gd ∨ W.heap.size ≤ gd) :
    HBun w (W1.setCell ⟨gc, 5, none⟩ (.slice (some ⟨gd, 0, none⟩) (D.length + 1) cap)) rb gc g b s a sq st tm ms (.slice (some ⟨gd, 0, none⟩) (D.length + 1) cap) (D ++ [l]) := by
  obtain ⟨h1, h2, h3, h4, h5, h6⟩ := H.ord
  obtain ⟨A, n, c, e, h⟩ := H.rd
  have hg1 : W1.heap[g]? = some (.cells chg0 27 (0, 0)) := (hf.block g H.ltg (fun o ho e => by simp at ho; subst ho; exact H.apart_g g e rfl)).trans H.res
  have hc1 : W1.heap[gc]? = some (.cells (chgC a sq st tm ms dv (.slice none 0 0)) 27 (0, 0)) := (hf.block gc H.ltc (fun o ho e => by simp at ho; subst ho; exact H.apart_c gc e rfl)).trans H.chg
  have hown : ∀ k, dv.ownBlock = some k → w.heap.size ≤ k := fun k hk => (H.own.lt k hk).1
  have hr1 : RdSt W1 rb w.heap.size b s A n c e := h.fr hf (fun hm => by simp at hm; exact H.apart_r rb hm.symm rfl) (fun k hk => by simp at hk; exact hown k hk.symm)
  have hf2 : Fr W1 (W1.setCell ⟨gc, 5, none⟩ (.slice (some ⟨gd, 0, none⟩) (D.length + 1) cap)) [some gc] := (Fr.refl W1 [some gc]).set _ _ (.inl (by simp))
  refine ⟨(hf2.block g (Array.getElem?_eq_some_iff.1 hg1).1 (fun o ho e => ?_)).trans hg1, ⟨A, n, c, e, hr1.fr hf2 (by simp; omega) (fun k hk => by simp at hk; omega)⟩, heap_setCell_same W1 gc 5 _ _ _ hc1, ?_, H.hs.app hl hb, ?_, H.ord⟩
  · simp at ho; subst ho; simp at e; omega
  · rw [List.length_append, List.length_singleton]
    exact own_fr ho hf2 (fun o ho2 => by simp at ho2; subst ho2; exact own_apart hc1 (by decide) ho)
  · refine (H.bel.trans (hf.below H.bel.size (fun o ho j e => ?_))).trans (hf2.below (Nat.le_trans H.bel.size hf.size) (fun o ho j e => ?_))
    · simp at ho; subst ho; exact hown j e
    · simp at ho; subst ho; simp at e; omega
end
/-- What is still to be read of hashes. -/
def DRel (many p0 : Nat) (b : List Int) (k : Nat) (D : List (List Int)) (s : Except Int Nat) : Prop := depsE many [] b p0 = match s with
  | .error f => .error f
  | .ok p => depsE (many - k) D b p
theorem DRel.start (many p0 : Nat) (b : List Int) : DRel many p0 b 0 [] (.ok p0) := rfl
theorem DRel.err {many p0 : Nat} {b : List Int} {k : Nat} {D : List (List Int)} {f : Int} (h : DRel many p0 b k D (.error f)) (k' : Nat) (D' : List (List Int)) : DRel many p0 b k' D' (.error f) := h
theorem DRel.short {many p0 : Nat} {b : List Int} {k p : Nat} {D : List (List Int)} {f : Int} (h : DRel many p0 b k D (.ok p)) (hk : k < many) (ht : takeE 32 b p = .error f) (k' : Nat) (D' : List (List Int)) : DRel many p0 b k' D' (.error f) := by
  obtain ⟨m, hm⟩ : ∃ m, many - k = m + 1 := ⟨many - k - 1, by omega⟩
  unfold DRel at h ⊢
  rw [h]
  simp only [hm]
  exact thenP_err ht
theorem DRel.bad {many p0 : Nat} {b : List Int} {k p q : Nat} {D : List (List Int)} {l : List Int} (h : DRel many p0 b k D (.ok p)) (hk : k < many) (ht : takeE 32 b p = .ok (l, q)) (hb : 0 < D.length ∧ ¬ lastH D < l) (k' : Nat) (D' : List (List Int)) : DRel many p0 b k' D' (.error 3) := by
  obtain ⟨m, hm⟩ : ∃ m, many - k = m + 1 := ⟨many - k - 1, by omega⟩
  unfold DRel at h ⊢
  rw [h]
  simp only [hm]
  unfold depsE
  rw [thenP_ok ht, if_pos hb]
  rfl
theorem DRel.next {many p0 : Nat} {b : List Int} {k p q : Nat} {D : List (List Int)} {l : List Int} (h : DRel many p0 b k D (.ok p)) (hk : k < many) (ht : takeE 32 b p = .ok (l, q)) (hb : ¬ (0 < D.length ∧ ¬ lastH D < l)) : DRel many p0 b (k + 1) (D ++ [l]) (.ok q) := by
  obtain ⟨m, hm⟩ : ∃ m, many - k = m + 1 := ⟨many - k - 1, by omega⟩
  unfold DRel at h ⊢
  rw [h]
  simp only [hm, show many - (k + 1) = m by omega]
  conv => lhs; unfold depsE
  rw [thenP_ok ht, if_neg hb]
/-- After a length and so many bytes: a text. -/
theorem After.text {low high : Nat} {b : List Int} {s s1 s2 : Except Int Nat} {n : Nat} {l : List Int} (h : After (numE low high) b s 0 n s1) (k : After (takeE n) b s1 [] l s2) : After (textE low high) b s ⟨#[]⟩ (strOfNums l) s2 := by
  have e0 : strOfNums [] = ⟨#[]⟩ := rfl
  cases s with
  | error e =>
    obtain ⟨rfl, rfl⟩ := h
    obtain ⟨rfl, rfl⟩ := k
    exact ⟨e0, rfl⟩
  | ok p =>
    unfold After at h
    cases hn : numE low high b p with
    | error e =>
      simp only [hn] at h
      obtain ⟨rfl, rfl⟩ := h
      obtain ⟨rfl, rfl⟩ := k
      have : textE low high b p = .error e := thenP_err hn
      rw [e0]
      exact After.bad this
    | ok x =>
      obtain ⟨v, q⟩ := x
      simp only [hn] at h
      obtain ⟨rfl, rfl⟩ := h
      have ht : textE low high b p = txtE n b q := thenP_ok hn
      unfold After at k
      cases hk : takeE n b q with
      | error e =>
        simp only [hk] at k
        obtain ⟨rfl, rfl⟩ := k
        rw [e0]
        refine After.bad (e := e) ?_
        rw [ht]
        unfold takeE at hk
        unfold txtE
        split at hk
        · next h1 => rw [if_pos h1]; cases hk; rfl
        · cases hk
      | ok y =>
        obtain ⟨l2, q2⟩ := y
        simp only [hk] at k
        obtain ⟨rfl, rfl⟩ := k
        refine After.good ?_
        rw [ht]
        unfold takeE at hk
        unfold txtE
        split at hk
        · cases hk
        · next h1 => rw [if_neg h1]; cases hk; rfl
end Go.Proofs.Ytdbkbeojedndbaa
/-
  Slices of strings: what an append wants to know of their element.
-/
namespace Go.Proofs.Ytdbkbeojedndbaa
open Go.RowKit

theorem elStr : ElT Try.prog 28 9 (.string ByteArray.empty) 1 16 := ⟨Try.underlying28, by kernel_rfl, rfl, by decide, by decide⟩
end Go.Proofs.Ytdbkbeojedndbaa
