/-
  Texts joined into one file: PsrP, HeadP, LebSQ.
-/
import Derived.Test.YtdbkbeojedndbaaJHeadG2
import Derived.Test.YtdbkbeojedndbaaJHeadG4
/-
  Readers of bytes, one behind the other (no program).
-/
namespace Go.Proofs.Ytdbkbeojedndbaa
open Go.RowKit

/-- A reader: bytes, and a place; what is read, and where it ends, or why not. -/
abbrev Psr (α : Type) := List Int → Nat → Except Int (α × Nat)
def thenP {α β : Type} (f : Psr α) (g : α → Psr β) : Psr β := fun b p => match f b p with
  | .error e => .error e
  | .ok x => g x.1 b x.2
def retP {α : Type} (v : α) : Psr α := fun _ p => .ok (v, p)
theorem thenP_ok {α β : Type} {f : Psr α} {g : α → Psr β} {b : List Int} {p q : Nat} {v : α} (h : f b p = .ok (v, q)) : thenP f g b p = g v b q := by unfold thenP; rw [h]
theorem thenP_err {α β : Type} {f : Psr α} {g : α → Psr β} {b : List Int} {p : Nat} {e : Int} (h : f b p = .error e) : thenP f g b p = .error e := by unfold thenP; rw [h]
/-- These bytes are read as this; a front of them is too short. -/
structure Puts {α : Type} (f : Psr α) (P : List Int) (v : α) : Prop where
  full : ∀ X R, f (X ++ (P ++ R)) X.length = .ok (v, X.length + P.length)
  cut : ∀ X k, k < P.length → f (X ++ P.take k) X.length = .error 2
theorem Puts.ret {α : Type} (v : α) : Puts (retP v) [] v := ⟨fun _ _ => rfl, fun _ _ h => by cases h⟩
theorem Puts.then {α β : Type} {f : Psr α} {g : α → Psr β} {P Q : List Int} {v : α} {u : β} (h : Puts f P v) (k : Puts (g v) Q u) : Puts (thenP f g) (P ++ Q) u := by
  constructor
  · intro X R
    have e : X ++ (P ++ Q ++ R) = X ++ (P ++ (Q ++ R)) := by rw [List.append_assoc P]
    have e2 : X ++ (P ++ Q ++ R) = (X ++ P) ++ (Q ++ R) := by simp
    rw [thenP_ok (by rw [e]; exact h.full X (Q ++ R)), e2, ← List.length_append, k.full, List.length_append, List.length_append, Nat.add_assoc]
  · intro X j hj
    by_cases hp : j < P.length
    · rw [List.take_append_of_le_length (by omega)]
      exact thenP_err (h.cut X j hp)
    · obtain ⟨i, rfl⟩ : ∃ i, j = P.length + i := ⟨j - P.length, by omega⟩
      rw [List.take_length_add_append]
      rw [thenP_ok (h.full X _), ← List.length_append, ← List.append_assoc]
      exact k.cut (X ++ P) i (by rw [List.length_append] at hj; omega)
/-- What is read stands in this relation to its bytes. -/
def Just {α : Type} (f : Psr α) (R : α → List Int → Prop) : Prop :=
  ∀ b p v q, (∀ x ∈ b, 0 ≤ x ∧ x ≤ 255) → p ≤ b.length → f b p = .ok (v, q) → p ≤ q ∧ q ≤ b.length ∧ R v ((b.drop p).take (q - p))
theorem Just.ret {α : Type} (v : α) : Just (retP v) (fun u P => u = v ∧ P = []) := by
  intro b p u q _ hp h
  cases h
  exact ⟨Nat.le_refl _, hp, rfl, by rw [Nat.sub_self, List.take_zero]⟩
theorem Just.then {α β : Type} {f : Psr α} {g : α → Psr β} {R : α → List Int → Prop} {S : α → β → List Int → Prop} (h : Just f R) (k : ∀ v, Just (g v) (S v)) : Just (thenP f g) (fun u P => ∃ v P1 P2, P = P1 ++ P2 ∧ R v P1 ∧ S v u P2) := by
  intro b p u q hb hp he
  cases hf : f b p with
  | error e => rw [thenP_err hf] at he; cases he
  | ok x =>
    obtain ⟨v, q1⟩ := x
    rw [thenP_ok hf] at he
    obtain ⟨h1, h2, h3⟩ := h b p v q1 hb hp hf
    obtain ⟨k1, k2, k3⟩ := k v b q1 u q hb h2 he
    refine ⟨by omega, k2, v, _, _, ?_, h3, k3⟩
    obtain ⟨d, rfl⟩ : ∃ d, q1 = p + d := ⟨q1 - p, by omega⟩
    rw [drop_take_app b p d (by omega) q (by omega), Nat.add_sub_cancel_left]
/-- The number at the beginning. -/
noncomputable def getU (b : List Int) : Nat × Nat × Int := by classical exact if h : ∃ x : Nat × Nat × Int, IsGet b x.1 x.2.1 x.2.2 then Classical.choose h else (0, 0, 0)
theorem getU_of {b : List Int} {n k : Nat} {f : Int} (h : IsGet b n k f) : getU b = (n, k, f) := by
  have hx : ∃ x : Nat × Nat × Int, IsGet b x.1 x.2.1 x.2.2 := ⟨(n, k, f), h⟩
  unfold getU
  rw [dif_pos hx]
  obtain ⟨e1, e2, e3⟩ := (Classical.choose_spec hx).same h
  exact Prod.ext e1 (Prod.ext e2 e3)
noncomputable def getS (b : List Int) : Int × Nat × Int := by classical exact if h : ∃ x : Int × Nat × Int, IsGetS b x.1 x.2.1 x.2.2 then Classical.choose h else (0, 0, 0)
theorem getS_of {b : List Int} {n : Int} {k : Nat} {f : Int} (h : IsGetS b n k f) : getS b = (n, k, f) := by
  have hx : ∃ x : Int × Nat × Int, IsGetS b x.1 x.2.1 x.2.2 := ⟨(n, k, f), h⟩
  unfold getS
  rw [dif_pos hx]
  obtain ⟨e1, e2, e3⟩ := (Classical.choose_spec hx).same h
  exact Prod.ext e1 (Prod.ext e2 e3)
theorem isSpan_ex (b : List Int) : ∃ k e, IsSpan b k e := by
  by_cases h : ∃ i, i < b.length ∧ i < 10 ∧ rd b i < 128
  · have : ∃ i, (i < b.length ∧ i < 10 ∧ rd b i < 128) ∧ ∀ j, j < i → ¬ (j < b.length ∧ j < 10 ∧ rd b j < 128) := by
      obtain ⟨i, hi⟩ := h
      induction i using Nat.strongRecOn with
      | ind i ih =>
        by_cases h2 : ∃ j, j < i ∧ (j < b.length ∧ j < 10 ∧ rd b j < 128)
        · obtain ⟨j, h3, h4⟩ := h2; exact ih j h3 h4
        · exact ⟨i, hi, fun j hj h4 => h2 ⟨j, hj, h4⟩⟩
    obtain ⟨i, ⟨h1, h2, h3⟩, h4⟩ := this
    exact ⟨i + 1, 0, .inl ⟨rfl, by omega, by omega, by omega, fun j hj => by have := h4 j (by omega); omega, h3⟩⟩
  · by_cases h2 : 10 ≤ b.length
    · exact ⟨0, 3, .inr (.inl ⟨rfl, rfl, h2, fun i hi => Classical.byContradiction fun g => h ⟨i, by omega, by omega, by omega⟩⟩)⟩
    · exact ⟨0, 2, .inr (.inr ⟨rfl, rfl, by omega, fun i hi => Classical.byContradiction fun g => h ⟨i, by omega, by omega, by omega⟩⟩)⟩
theorem isGet_ex (b : List Int) : ∃ n k f, IsGet b n k f := by
  obtain ⟨s, f, hs⟩ := isSpan_ex b
  by_cases hf : f = 0
  · subst hf
    by_cases h : ∃ m, m < 18446744073709551616 ∧ lebU m = b.take s
    · obtain ⟨m, h1, h2⟩ := h
      exact ⟨m, s, 0, s, 0, hs, .inr (.inl ⟨rfl, h1, h2, rfl, rfl⟩)⟩
    · exact ⟨0, 0, 3, s, 0, hs, .inr (.inr ⟨rfl, fun m h1 h2 => h ⟨m, h1, h2⟩, rfl, rfl, rfl⟩)⟩
  · exact ⟨0, 0, f, s, f, hs, .inl ⟨hf, rfl, rfl, rfl⟩⟩
theorem isGetS_ex (b : List Int) : ∃ n k f, IsGetS b n k f := by
  obtain ⟨s, f, hs⟩ := isSpan_ex b
  by_cases hf : f = 0
  · subst hf
    by_cases h : ∃ m, I64 m ∧ lebS m = b.take s
    · obtain ⟨m, h1, h2⟩ := h
      exact ⟨m, s, 0, s, 0, hs, .inr (.inl ⟨rfl, h1, h2, rfl, rfl⟩)⟩
    · exact ⟨0, 0, 3, s, 0, hs, .inr (.inr ⟨rfl, fun m h1 h2 => h ⟨m, h1, h2⟩, rfl, rfl, rfl⟩)⟩
  · exact ⟨0, 0, f, s, f, hs, .inl ⟨hf, rfl, rfl, rfl⟩⟩
/-- A number from one to another one. -/
noncomputable def numE (low high : Nat) : Psr Nat := fun b p =>
  if (getU (b.drop p)).2.2 ≠ 0 then .error (getU (b.drop p)).2.2 else if (getU (b.drop p)).1 < low then .error 3 else if high < (getU (b.drop p)).1 then .error 4 else .ok ((getU (b.drop p)).1, p + (getU (b.drop p)).2.1)
theorem numE_of {low high : Nat} {b : List Int} {p n k : Nat} {f : Int} (h : IsGet (b.drop p) n k f) : numE low high b p = if f ≠ 0 then .error f else if n < low then .error 3 else if high < n then .error 4 else .ok (n, p + k) := by
  unfold numE; rw [getU_of h]
noncomputable def timeE : Psr Int := fun b p => if (getS (b.drop p)).2.2 ≠ 0 then .error (getS (b.drop p)).2.2 else .ok ((getS (b.drop p)).1, p + (getS (b.drop p)).2.1)
theorem timeE_of {b : List Int} {p k : Nat} {n f : Int} (h : IsGetS (b.drop p) n k f) : timeE b p = if f ≠ 0 then .error f else .ok (n, p + k) := by
  unfold timeE; rw [getS_of h]
/-- So many bytes. -/
def takeE (n : Nat) : Psr (List Int) := fun b p => if b.length < p + n then .error 2 else .ok ((b.drop p).take n, p + n)
def txtE (n : Nat) : Psr ByteArray := fun b p => if b.length < p + n then .error 2 else .ok (textAt b p n, p + n)
/-- A length, and a text. -/
noncomputable def textE (low high : Nat) : Psr ByteArray := thenP (numE low high) txtE
noncomputable def tabE (au : ByteArray) : Psr (List ByteArray) := fun b p => by
  classical exact if h : ∃ x : List ByteArray × Nat × Int, IsTab au (b.drop p) x.1 x.2.1 x.2.2 then
    (if (Classical.choose h).2.2 ≠ 0 then .error (Classical.choose h).2.2 else .ok ((Classical.choose h).1, p + (Classical.choose h).2.1)) else .error 1
theorem tabE_of {au : ByteArray} {b : List Int} {p k : Nat} {T : List ByteArray} {f : Int} (h : IsTab au (b.drop p) T k f) : tabE au b p = if f ≠ 0 then .error f else .ok (T, p + k) := by
  have hx : ∃ x : List ByteArray × Nat × Int, IsTab au (b.drop p) x.1 x.2.1 x.2.2 := ⟨(T, k, f), h⟩
  obtain ⟨e1, e2, e3⟩ := (Classical.choose_spec hx).same h
  unfold tabE
  rw [dif_pos hx, e1, e2, e3]
theorem numE_puts {low high n : Nat} (h1 : low ≤ n) (h2 : n ≤ high) (h3 : high < 18446744073709551616) : Puts (numE low high) (lebU n) n := by
  constructor
  · intro X R
    rw [numE_of (b := X ++ (lebU n ++ R)) (p := X.length) (by rw [List.drop_left]; exact get_leb (by omega) R), if_neg (by decide), if_neg (by omega), if_neg (by omega)]
  · intro X k hk
    rw [numE_of (b := X ++ (lebU n).take k) (p := X.length) (by rw [List.drop_left]; exact get_front (by omega) hk), if_pos (by decide)]
theorem timeE_puts {n : Int} (h : I64 n) : Puts timeE (lebS n) n := by
  constructor
  · intro X R
    rw [timeE_of (b := X ++ (lebS n ++ R)) (p := X.length) (by rw [List.drop_left]; exact get_lebS h R), if_neg (by decide)]
  · intro X k hk
    rw [timeE_of (b := X ++ (lebS n).take k) (p := X.length) (by rw [List.drop_left]; exact get_frontS h hk), if_pos (by decide)]
theorem takeE_puts (l : List Int) : Puts (takeE l.length) l l := by
  constructor
  · intro X R
    unfold takeE
    rw [if_neg (by simp only [List.length_append]; omega), List.drop_left, List.take_left]
  · intro X k hk
    unfold takeE
    rw [if_pos (by simp only [List.length_append, List.length_take]; omega)]
theorem txtE_puts (s : ByteArray) : Puts (txtE s.size) (nums s) s := by
  constructor
  · intro X R
    unfold txtE
    rw [if_neg (by simp only [List.length_append, nums_length]; omega), textAt_app X (nums s) R rfl, nums_length]
  · intro X k hk
    rw [nums_length] at hk
    unfold txtE
    rw [if_pos (by simp only [List.length_append, List.length_take, nums_length]; omega)]
theorem textE_puts {low high : Nat} {s : ByteArray} (h1 : low ≤ s.size) (h2 : s.size ≤ high) (h3 : high < 18446744073709551616) : Puts (textE low high) (txtB s) s := (numE_puts h1 h2 h3).then (txtE_puts s)
theorem tabE_puts {au : ByteArray} {t : List ByteArray} (hc : Chain au [au] t) (hl : t.length < 18446744073709551616) : Puts (tabE au) (putT (au :: t)) (au :: t) := by
  constructor
  · intro X R
    rw [tabE_of (b := X ++ (putT (au :: t) ++ R)) (p := X.length) (by rw [List.drop_left]; exact tab_put hc hl R), if_neg (by decide)]
  · intro X k hk
    rw [tabE_of (b := X ++ (putT (au :: t)).take k) (p := X.length) (by rw [List.drop_left]; exact tab_cut hc hl hk), if_pos (by decide)]
theorem numE_just (low high : Nat) : Just (numE low high) (fun n P => low ≤ n ∧ n ≤ high ∧ n < 18446744073709551616 ∧ P = lebU n) := by
  intro b p v q _ hp h
  obtain ⟨n, k, f, hg⟩ := isGet_ex (b.drop p)
  rw [numE_of hg] at h
  split at h
  · cases h
  · next hf =>
    split at h
    · cases h
    · next hl =>
      split at h
      · cases h
      · next hh =>
        cases h
        obtain rfl : f = 0 := by omega
        have hk := isGet_rng hg
        rw [List.length_drop] at hk
        refine ⟨by omega, by omega, by omega, by omega, hk.2.2.2, ?_⟩
        obtain ⟨s, f, hs0, hs1⟩ := hg
        rw [Nat.add_sub_cancel_left]
        rcases hs1 with ⟨g1, _, _, g2⟩ | ⟨_, _, g1, rfl, _⟩ | ⟨_, _, _, _, g1⟩
        · exact absurd g2.symm g1
        · exact g1.symm
        · omega
theorem timeE_just : Just timeE (fun n P => I64 n ∧ P = lebS n) := by
  intro b p v q _ hp h
  obtain ⟨n, k, f, hg⟩ := isGetS_ex (b.drop p)
  rw [timeE_of hg] at h
  split at h
  · cases h
  · next hf =>
    cases h
    obtain rfl : f = 0 := by omega
    have hk := isGetS_rng hg
    rw [List.length_drop] at hk
    refine ⟨by omega, by omega, hk.2.2.2, ?_⟩
    obtain ⟨s, f, hs0, hs1⟩ := hg
    rw [Nat.add_sub_cancel_left]
    rcases hs1 with ⟨g1, _, _, g2⟩ | ⟨_, _, g1, rfl, _⟩ | ⟨_, _, _, _, g1⟩
    · exact absurd g2.symm g1
    · exact g1.symm
    · omega
theorem takeE_just (n : Nat) : Just (takeE n) (fun l P => l.length = n ∧ (∀ x ∈ l, 0 ≤ x ∧ x ≤ 255) ∧ P = l) := by
  intro b p v q hb hp h
  unfold takeE at h
  split at h
  · cases h
  · cases h
    exact ⟨by omega, by omega, by rw [List.length_take, List.length_drop]; omega, fun x hx => hb x (List.mem_of_mem_drop (List.mem_of_mem_take hx)), by rw [Nat.add_sub_cancel_left]⟩
theorem txtE_just (n : Nat) : Just (txtE n) (fun s P => s.size = n ∧ P = nums s) := by
  intro b p v q hb hp h
  unfold txtE at h
  split at h
  · cases h
  · cases h
    exact ⟨by omega, by omega, textAt_size (by omega), by rw [Nat.add_sub_cancel_left, take_nums hb]⟩
theorem textE_just (low high : Nat) : Just (textE low high) (fun s P => low ≤ s.size ∧ s.size ≤ high ∧ P = txtB s) := by
  intro b p v q hb hp h
  obtain ⟨h1, h2, n, P1, P2, e, ⟨h3, h4, _, h5⟩, h6, h7⟩ := (numE_just low high).then (fun n => txtE_just n) b p v q hb hp h
  exact ⟨h1, h2, by omega, by omega, by rw [e, h5, h7, ← h6]; rfl⟩
theorem tabE_just (au : ByteArray) : Just (tabE au) (fun T P => ∃ t, T = au :: t ∧ Chain au [au] t ∧ t.length < 18446744073709551616 ∧ P = putT T) := by
  intro b p v q hb hp h
  have hb2 : ∀ x ∈ b.drop p, 0 ≤ x ∧ x ≤ 255 := fun x hx => hb x (List.mem_of_mem_drop hx)
  by_cases hx : ∃ x : List ByteArray × Nat × Int, IsTab au (b.drop p) x.1 x.2.1 x.2.2
  · obtain ⟨⟨T, k, f⟩, hg⟩ := hx
    rw [tabE_of hg] at h
    split at h
    · cases h
    · next hf =>
      cases h
      have hf : f = 0 := by simpa using hf
      subst hf
      obtain ⟨t, h1, h2, h3, h4, h5⟩ := tab_just hb2 hg
      rw [List.length_drop] at h4
      exact ⟨by omega, by omega, t, h1, h2, h3, by rw [Nat.add_sub_cancel_left]; exact h5⟩
  · unfold tabE at h
    rw [dif_neg hx] at h
    cases h
end Go.Proofs.Ytdbkbeojedndbaa
/-
  What stands ahead of a change's ops, as bytes (no program).
-/
namespace Go.Proofs.Ytdbkbeojedndbaa
open Go.RowKit

def failP {α : Type} (e : Int) : Psr α := fun _ _ => .error e
theorem Just.fail {α : Type} (e : Int) (R : α → List Int → Prop) : Just (failP e) R := by
  intro b p v q _ _ h
  cases h
theorem Just.mono {α : Type} {f : Psr α} {R S : α → List Int → Prop} (h : Just f R) (k : ∀ v P, R v P → S v P) : Just f S := by
  intro b p v q hb hp he
  obtain ⟨h1, h2, h3⟩ := h b p v q hb hp he
  exact ⟨h1, h2, k _ _ h3⟩
structure HdV where
  actor : ByteArray
  seq : Nat
  start : Nat
  time : Int
  msg : ByteArray
  deps : List (List Int)
def dep (L : List (List Int)) (j : Nat) : List Int := L.getD j []
def lastH (L : List (List Int)) : List Int := dep L (L.length - 1)
/-- Hashes, each greater than the last one. -/
def depsE : Nat → List (List Int) → Psr (List (List Int))
  | 0, out => retP out
  | m + 1, out => thenP (takeE 32) fun h => if 0 < out.length ∧ ¬ lastH out < h then failP 3 else depsE m (out ++ [h])
def HChain : List (List Int) → List (List Int) → Prop
  | _, [] => True
  | out, h :: l => (h.length = 32 ∧ ¬ (0 < out.length ∧ ¬ lastH out < h)) ∧ HChain (out ++ [h]) l
theorem depsE_puts : ∀ (l out : List (List Int)), HChain out l → Puts (depsE l.length out) l.flatten (out ++ l) := by
  intro l
  induction l with
  | nil => intro out _; rw [List.append_nil]; exact Puts.ret out
  | cons h l ih =>
    intro out hc
    obtain ⟨⟨h1, h2⟩, h3⟩ := hc
    have h4 := ih (out ++ [h]) h3
    rw [List.append_assoc] at h4
    have h5 := takeE_puts h
    rw [h1] at h5
    refine h5.then ?_
    show Puts (if 0 < out.length ∧ ¬ lastH out < h then failP 3 else depsE l.length (out ++ [h])) _ _
    rw [if_neg h2]
    exact h4
theorem depsE_just : ∀ (m : Nat) (out : List (List Int)), Just (depsE m out) (fun D P => ∃ l, D = out ++ l ∧ l.length = m ∧ HChain out l ∧ (∀ h ∈ l, ∀ x ∈ h, 0 ≤ x ∧ x ≤ 255) ∧ P = l.flatten) := by
  intro m
  induction m with
  | zero =>
    intro out
    refine (Just.ret out).mono ?_
    rintro D P ⟨rfl, rfl⟩
    exact ⟨[], (List.append_nil _).symm, rfl, trivial, fun h hh => (by cases hh), rfl⟩
  | succ m ih =>
    intro out
    have hg : ∀ h : List Int, Just (if 0 < out.length ∧ ¬ lastH out < h then failP 3 else depsE m (out ++ [h])) (fun D P => ¬ (0 < out.length ∧ ¬ lastH out < h) ∧ ∃ l, D = out ++ [h] ++ l ∧ l.length = m ∧ HChain (out ++ [h]) l ∧ (∀ h ∈ l, ∀ x ∈ h, 0 ≤ x ∧ x ≤ 255) ∧ P = l.flatten) := by
      intro h
      by_cases hc : 0 < out.length ∧ ¬ lastH out < h
      · rw [if_pos hc]; exact Just.fail _ _
      · rw [if_neg hc]
        exact (ih (out ++ [h])).mono fun v P hv => ⟨hc, hv⟩
    refine ((takeE_just 32).then hg).mono ?_
    rintro D P ⟨h, P1, P2, rfl, ⟨hl, hb, rfl⟩, hc, l, rfl, hm, hch, hbl, rfl⟩
    refine ⟨P1 :: l, by simp, by simp [hm], ⟨⟨hl, hc⟩, hch⟩, ?_, by simp⟩
    intro h hh
    rcases List.mem_cons.1 hh with rfl | hh
    · exact hb
    · exact hbl h hh
def mostN : Nat := 9007199254740991
noncomputable def headE : Psr (HdV × List ByteArray) :=
  thenP (numE 0 16) fun many => thenP (depsE many []) fun deps => thenP (textE 1 16) fun actor => thenP (numE 1 mostN) fun seq => thenP (numE 1 mostN) fun start =>
    thenP timeE fun time => thenP (textE 0 1000) fun msg => if ¬ Utf msg then failP 3 else thenP (tabE actor) fun T => retP (⟨actor, seq, start, time, msg, deps⟩, T)
/-- The bytes of what stands ahead. -/
def headB (c : HdV) (T : List ByteArray) : List Int := lebU c.deps.length ++ (c.deps.flatten ++ (txtB c.actor ++ (lebU c.seq ++ (lebU c.start ++ (lebS c.time ++ (txtB c.msg ++ putT T))))))
/-- What may stand ahead. -/
structure HdRight (c : HdV) : Prop where
  act : 1 ≤ c.actor.size ∧ c.actor.size ≤ 16
  sq : 1 ≤ c.seq ∧ c.seq ≤ mostN
  st : 1 ≤ c.start ∧ c.start ≤ mostN
  ms : c.msg.size ≤ 1000
  utf : Utf c.msg
  few : c.deps.length ≤ 16
  up : HChain [] c.deps
theorem headE_puts {c : HdV} {t : List ByteArray} (h : HdRight c) (ht : I64 c.time) (hc : Chain c.actor [c.actor] t) (hl : t.length < 18446744073709551616) : Puts headE (headB c (c.actor :: t)) (c, c.actor :: t) := by
  obtain ⟨h1, h2, h3, h4, h5, h6, h7⟩ := h
  have hm : mostN < 18446744073709551616 := by decide
  unfold headE headB
  refine (numE_puts (Nat.zero_le _) h6 (by decide)).then ?_
  refine (depsE_puts c.deps [] h7).then ?_
  refine (textE_puts h1.1 h1.2 (by decide)).then ?_
  refine (numE_puts h2.1 h2.2 hm).then ?_
  refine (numE_puts h3.1 h3.2 hm).then ?_
  refine (timeE_puts ht).then ?_
  refine (textE_puts (Nat.zero_le _) h4 (by decide)).then ?_
  rw [if_neg (fun h => h h5), ← List.append_nil (putT (c.actor :: t))]
  exact (tabE_puts hc hl).then (Puts.ret _)
theorem headE_just : Just headE (fun x P => HdRight x.1 ∧ I64 x.1.time ∧ (∀ h ∈ x.1.deps, ∀ y ∈ h, 0 ≤ y ∧ y ≤ 255) ∧ ∃ t, x.2 = x.1.actor :: t ∧ Chain x.1.actor [x.1.actor] t ∧ t.length < 18446744073709551616 ∧ P = headB x.1 x.2) := by
  have h8 : ∀ (deps : List (List Int)) (actor : ByteArray) (seq start : Nat) (time : Int) (msg : ByteArray), Just (if ¬ Utf msg then failP 3 else thenP (tabE actor) fun T => retP (⟨actor, seq, start, time, msg, deps⟩, T))
      (fun (x : HdV × List ByteArray) P => Utf msg ∧ x.1 = ⟨actor, seq, start, time, msg, deps⟩ ∧ ∃ t, x.2 = actor :: t ∧ Chain actor [actor] t ∧ t.length < 18446744073709551616 ∧ P = putT x.2) := by
    intro deps actor seq start time msg
    by_cases hu : Utf msg
    · rw [if_neg (fun h => h hu)]
      refine ((tabE_just actor).then (fun T => Just.ret _)).mono ?_
      rintro x P ⟨T, P1, P2, rfl, ⟨t, rfl, h1, h2, rfl⟩, rfl, rfl⟩
      exact ⟨hu, rfl, t, rfl, h1, h2, List.append_nil _⟩
    · rw [if_pos hu]; exact Just.fail _ _
  have h := (numE_just 0 16).then fun many => (depsE_just many []).then fun deps => (textE_just 1 16).then fun actor => (numE_just 1 mostN).then fun seq => (numE_just 1 mostN).then fun start => timeE_just.then fun time => (textE_just 0 1000).then fun msg => h8 deps actor seq start time msg
  refine Just.mono (f := headE) h ?_
  rintro ⟨c, T⟩ P ⟨many, P1, Q1, rfl, ⟨_, a2, _, rfl⟩, deps, P2, Q2, rfl, ⟨l, rfl, b2, b3, b4, rfl⟩, actor, P3, Q3, rfl, ⟨c1, c2, rfl⟩, seq, P4, Q4, rfl, ⟨d1, d2, _, rfl⟩, start, P5, Q5, rfl, ⟨e1, e2, _, rfl⟩, time, P6, Q6, rfl, ⟨f1, rfl⟩, msg, P7, Q7, rfl, ⟨_, g2, rfl⟩, i1, i2, t, i3, i4, i5, rfl⟩
  simp only at i2 i3
  subst i2 i3
  refine ⟨⟨⟨c1, c2⟩, ⟨d1, d2⟩, ⟨e1, e2⟩, g2, i1, ?_, ?_⟩, f1, ?_, t, rfl, i4, i5, ?_⟩
  · simp only; omega
  · simpa using b3
  · simpa using b4
  · simp only [headB, b2]
theorem lastH_app (L : List (List Int)) (h : List Int) : lastH (L ++ [h]) = h := by
  unfold lastH dep
  rw [List.getD_eq_getElem?_getD, List.length_append, List.length_singleton, Nat.add_sub_cancel, List.getElem?_append_right (Nat.le_refl _), Nat.sub_self]
  rfl
theorem hchain_of : ∀ (l out : List (List Int)), (∀ h ∈ l, h.length = 32) → (∀ i, out.length ≤ i + 1 → i + 1 < (out ++ l).length → dep (out ++ l) i < dep (out ++ l) (i + 1)) → HChain out l := by
  intro l
  induction l with
  | nil => intro _ _ _; trivial
  | cons h l ih =>
    intro out hl hu
    refine ⟨⟨hl h List.mem_cons_self, ?_⟩, ?_⟩
    · rintro ⟨h1, h2⟩
      refine h2 ?_
      have := hu (out.length - 1) (by omega) (by simp; omega)
      rw [Nat.sub_add_cancel h1] at this
      unfold dep at this
      rw [List.getD_eq_getElem?_getD, List.getD_eq_getElem?_getD, List.getElem?_append_left (by omega), List.getElem?_append_right (Nat.le_refl _), Nat.sub_self] at this
      unfold lastH dep
      rw [List.getD_eq_getElem?_getD]
      exact this
    · refine ih (out ++ [h]) (fun x hx => hl x (List.mem_cons_of_mem _ hx)) (fun i h1 h2 => ?_)
      rw [List.append_assoc]
      exact hu i (by simp at h1; omega) (by simp at h2 ⊢; omega)
theorem hchain_up : ∀ (l out : List (List Int)), HChain out l → (∀ h ∈ l, h.length = 32) ∧ ∀ i, out.length ≤ i + 1 → 0 < i + 1 → i + 1 < (out ++ l).length → (0 < out.length ∨ 0 < i + 1) → dep (out ++ l) i < dep (out ++ l) (i + 1) := by
  intro l
  induction l with
  | nil => intro out _; exact ⟨fun h hh => (by cases hh), fun i h1 _ h2 => by simp at h2; omega⟩
  | cons h l ih =>
    intro out hc
    obtain ⟨⟨h1, h2⟩, h3⟩ := hc
    obtain ⟨k1, k2⟩ := ih (out ++ [h]) h3
    refine ⟨fun x hx => ?_, fun i hi1 _ hi2 _ => ?_⟩
    · rcases List.mem_cons.1 hx with rfl | hx
      · exact h1
      · exact k1 x hx
    · rw [List.append_assoc] at k2
      by_cases hi : (out ++ [h]).length ≤ i + 1
      · exact k2 i hi (by omega) (by simp at hi2 ⊢; omega) (.inl (by simp))
      · have hi3 : i + 1 = out.length := by simp at hi; omega
        have h4 : lastH out < h := Classical.byContradiction fun g => h2 ⟨by omega, g⟩
        unfold dep
        rw [List.getD_eq_getElem?_getD, List.getD_eq_getElem?_getD, List.getElem?_append_left (by omega), List.getElem?_append_right (by omega), hi3, Nat.sub_self]
        unfold lastH dep at h4
        rw [List.getD_eq_getElem?_getD, ← hi3, Nat.add_sub_cancel] at h4
        exact h4
end Go.Proofs.Ytdbkbeojedndbaa
/-
  What GetS reckons (no program).
-/
namespace Go.Proofs.Ytdbkbeojedndbaa
open Go.RowKit

theorem i64_mod (n : Int) : IntKind.i64.wrap n % 18446744073709551616 = n % 18446744073709551616 := by rw [IntKind.wrap_i64]; omega
theorem ofInt_mod {a b : Int} (h : a % 18446744073709551616 = b % 18446744073709551616) : BitVec.ofInt 64 a = BitVec.ofInt 64 b := by
  apply BitVec.eq_of_toNat_eq
  simp only [BitVec.toNat_ofInt]
  rw [show (((2 ^ 64 : Nat)) : Int) = 18446744073709551616 from rfl, h]
theorem or_mod {a b c d : Int} (h : a % 18446744073709551616 = c % 18446744073709551616) (k : b % 18446744073709551616 = d % 18446744073709551616) : bits .or .u64 a b = bits .or .u64 c d := by
  show IntKind.u64.wrap ((BitVec.ofInt 64 a ||| BitVec.ofInt 64 b).toNat) = IntKind.u64.wrap ((BitVec.ofInt 64 c ||| BitVec.ofInt 64 d).toNat)
  rw [ofInt_mod h, ofInt_mod k]
theorem or_i64 (a b : Int) : bits .or .i64 a b = IntKind.i64.wrap (bits .or .u64 a b) := by
  show IntKind.i64.wrap ((BitVec.ofInt 64 a ||| BitVec.ofInt 64 b).toNat) = IntKind.i64.wrap (IntKind.u64.wrap ((BitVec.ofInt 64 a ||| BitVec.ofInt 64 b).toNat))
  have h := (BitVec.ofInt 64 a ||| BitVec.ofInt 64 b).isLt
  rw [wraps64 _ (by omega) (by omega)]
theorem wrap_mod {a b : Int} (h : a % 18446744073709551616 = b % 18446744073709551616) : IntKind.i64.wrap a = IntKind.i64.wrap b := by rw [IntKind.wrap_i64, IntKind.wrap_i64]; omega
/-- A digit more. -/
theorem step_valS {b : List Int} {k : Nat} (hk : k ≤ 9) (h : k < b.length) {x : Int} (hx : x = rd b k) (hx0 : 0 ≤ x ∧ x ≤ 255) {q : Int} (hq : q = IntKind.i64.wrap (valB (b.take k))) :
    bits .or .i64 q (IntKind.i64.wrap (IntKind.i64.wrap (bits .and .u8 x 127) * 2 ^ (7 * k))) = IntKind.i64.wrap (valB (b.take (k + 1))) := by
  have h1 := valB_take_lt b k
  have h2 := pow9 hk
  have h3 := step_val hk h hx hx0 (q := valB (b.take k) % 18446744073709551616) rfl
  rw [or_i64, hq, or_mod (a := IntKind.i64.wrap (valB (b.take k))) (c := ((valB (b.take k) % 18446744073709551616 : Nat) : Int)) (by rw [i64_mod]; omega) (d := IntKind.u64.wrap (IntKind.u64.wrap (bits .and .u8 x 127) * 2 ^ (7 * k))) ?_, h3]
  · exact wrap_mod (by omega)
  · rw [i64_mod]
    rw [and_127 hx0]
    have e1 : IntKind.i64.wrap (x % 128) = x % 128 := by rw [IntKind.wrap_i64]; omega
    have e2 : IntKind.u64.wrap (x % 128) = x % 128 := by rw [IntKind.wrap_u64]; omega
    rw [e1, e2, IntKind.wrap_u64]
    omega
theorem i64_id {n : Int} (h : I64 n) : IntKind.i64.wrap n = n := by obtain ⟨h0, h1⟩ := h; rw [IntKind.wrap_i64]; omega
theorem pow128 (k : Nat) : (2 : Int) ^ (7 * k) = ((128 ^ k : Nat) : Int) := by
  rw [Int.pow_mul]
  simp
/-- The sign behind the digits. -/
theorem or_sign {k : Nat} (h1 : 1 ≤ k) (hk : k ≤ 9) {V : Nat} (hV : V < 128 ^ k) : bits .or .i64 V (IntKind.i64.wrap (-1 * 2 ^ (7 * k))) = (V : Int) - (128 ^ k : Nat) := by
  have h9 := pow9 hk
  obtain ⟨Q, hQ⟩ : ∃ Q : Nat, Q = 128 ^ k := ⟨_, rfl⟩
  have hp : (2 : Int) ^ (7 * k) = (Q : Int) := by rw [pow128, hQ]
  rw [or_i64, or_comm64, or_mod (a := IntKind.i64.wrap (-1 * 2 ^ (7 * k))) (c := 18446744073709551616 - 2 ^ (7 * k)) (by rw [i64_mod]; omega) (d := (V : Int)) rfl]
  have hj : bits .or .u64 (18446744073709551616 - 2 ^ (7 * k)) (V : Int) = 18446744073709551616 - 2 ^ (7 * k) + V := by
    rcases (show k = 1 ∨ k = 2 ∨ k = 3 ∨ k = 4 ∨ k = 5 ∨ k = 6 ∨ k = 7 ∨ k = 8 ∨ k = 9 by omega) with rfl | rfl | rfl | rfl | rfl | rfl | rfl | rfl | rfl
    all_goals simp only [Nat.reduceMul, Int.reducePow, Nat.reducePow, Int.reduceSub] at *
    · rw [bits_join .u64 64 (by decide) wraps64 7 _ _ (by omega) (by omega) (by omega) (by omega) (by omega) (by omega)]
    · rw [bits_join .u64 64 (by decide) wraps64 14 _ _ (by omega) (by omega) (by omega) (by omega) (by omega) (by omega)]
    · rw [bits_join .u64 64 (by decide) wraps64 21 _ _ (by omega) (by omega) (by omega) (by omega) (by omega) (by omega)]
    · rw [bits_join .u64 64 (by decide) wraps64 28 _ _ (by omega) (by omega) (by omega) (by omega) (by omega) (by omega)]
    · rw [bits_join .u64 64 (by decide) wraps64 35 _ _ (by omega) (by omega) (by omega) (by omega) (by omega) (by omega)]
    · rw [bits_join .u64 64 (by decide) wraps64 42 _ _ (by omega) (by omega) (by omega) (by omega) (by omega) (by omega)]
    · rw [bits_join .u64 64 (by decide) wraps64 49 _ _ (by omega) (by omega) (by omega) (by omega) (by omega) (by omega)]
    · rw [bits_join .u64 64 (by decide) wraps64 56 _ _ (by omega) (by omega) (by omega) (by omega) (by omega) (by omega)]
    · rw [bits_join .u64 64 (by decide) wraps64 63 _ _ (by omega) (by omega) (by omega) (by omega) (by omega) (by omega)]
  rw [hj, IntKind.wrap_i64, hp]
  rw [← hQ] at h9 hV ⊢
  omega
set_option maxRecDepth 100000 in
theorem and64f : ∀ y : Fin 256, bits .and .u8 ((y.val : Nat) : Int) 64 = if 64 ≤ y.val % 128 then 64 else 0 := by decide +kernel
theorem and_64 {y : Int} (h : 0 ≤ y ∧ y ≤ 255) : bits .and .u8 y 64 = if 64 ≤ y % 128 then 64 else 0 := by
  have := and64f ⟨y.toNat, by omega⟩
  simp only at this
  rw [show ((y.toNat : Nat) : Int) = y by omega] at this
  rw [this]
  split <;> split <;> omega
end Go.Proofs.Ytdbkbeojedndbaa
