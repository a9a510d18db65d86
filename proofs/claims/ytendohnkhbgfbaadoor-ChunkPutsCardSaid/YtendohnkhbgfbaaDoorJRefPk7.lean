/-
  Texts joined into one file: LzP, Toks, SymsP, SymsW, Tabs, FixW.
-/
import Derived.Test.YtendohnkhbgfbaaDoorJRefPk1
import Derived.ProofKit
import Derived.OpenShut
import Derived.ChangeSame
import Derived.WalkKit
import Derived.WalkSpells
import Derived.WalkLawsBesides
import Derived.Deep.QuietTactic
import Derived.BigQuiet
import Derived.Lib.Hide
import Derived.Test.YtendohnkhbgfbaaDoorJRefPk2
import Derived.OneCell
import Derived.Deep.RegionWith
import Derived.Deep.Cut
import Derived.Deep.CutRange
import Derived.Deep.CutBlock
namespace Go.Proofs.YtendohnkhbgfbaaDoor
open Go.RowKit

def sameFrom (b : List Int) (p q : Nat) : Nat → Nat → Nat
 | 0, n => n
 | f + 1, n => if q + n < b.length ∧ rd b (p + n) = rd b (q + n) then sameFrom b p q f (n + 1) else n
def sameN (b : List Int) (p q : Nat) : Nat := sameFrom b p q 258 0
theorem sameFrom_rng (b : List Int) (p q : Nat) : ∀ f n, n ≤ sameFrom b p q f n ∧ sameFrom b p q f n ≤ n + f := by
 intro f
 induction f with
 | zero => intro n; exact ⟨Nat.le_refl _, Nat.le_refl _⟩
 | succ f ih =>
  intro n
  unfold sameFrom
  split
  ·have := ih (n + 1); omega
  ·omega
theorem sameN_le (b : List Int) (p q : Nat) : sameN b p q ≤ 258 := by
 have := (sameFrom_rng b p q 258 0).2
 unfold sameN
 omega
theorem sameFrom_eq (b : List Int) (p q : Nat) : ∀ f n j, n ≤ j → j < sameFrom b p q f n → q + j < b.length ∧ rd b (p + j) = rd b (q + j) := by
 intro f
 induction f with
 | zero => intro n j h1 h2; unfold sameFrom at h2; omega
 | succ f ih =>
  intro n j h1 h2
  unfold sameFrom at h2
  split at h2
  ·rename_i hc
   rcases Nat.lt_or_ge n j with g | g
   ·exact ih (n + 1) j g h2
   ·obtain rfl : j = n := by omega
    exact hc
  ·omega
theorem sameN_eq (b : List Int) (p q j : Nat) (h : j < sameN b p q) : q + j < b.length ∧ rd b (p + j) = rd b (q + j) := sameFrom_eq b p q 258 0 j (Nat.zero_le _) h
theorem sameN_three {b : List Int} {p q : Nat} (hq : q + 3 ≤ b.length) (h0 : rd b p = rd b q) (h1 : rd b (p + 1) = rd b (q + 1)) (h2 : rd b (p + 2) = rd b (q + 2)) : 3 ≤ sameN b p q := by
 have e : sameN b p q = sameFrom b p q 255 3 := by
  unfold sameN
  show sameFrom b p q (257 + 1) 0 = _
  rw [sameFrom, if_pos ⟨by omega, h0⟩]
  show sameFrom b p q (256 + 1) 1 = _
  rw [sameFrom, if_pos ⟨by omega, h1⟩]
  show sameFrom b p q (255 + 1) 2 = _
  rw [sameFrom, if_pos ⟨by omega, h2⟩]
 rw [e]
 exact (sameFrom_rng b p q 255 3).1
def bestTo (b : List Int) (i : Nat) : Nat → Nat × Nat
 | 0 => (0, 0)
 | d + 1 => if (bestTo b i d).1 < sameN b (i - (d + 1)) i then (sameN b (i - (d + 1)) i, d + 1) else bestTo b i d
def bestM (b : List Int) (i : Nat) : Nat × Nat := bestTo b i (min i 32768)
theorem bestTo_le (b : List Int) (i : Nat) : ∀ d, (bestTo b i d).1 ≤ 258 ∧ (bestTo b i d).2 ≤ d := by
 intro d
 induction d with
 | zero => exact ⟨Nat.zero_le _, Nat.le_refl _⟩
 | succ d ih =>
  unfold bestTo
  split
  ·exact ⟨sameN_le _ _ _, Nat.le_refl _⟩
  ·exact ⟨ih.1, Nat.le_succ_of_le ih.2⟩
theorem bestTo_match (b : List Int) (i : Nat) : ∀ d, 0 < (bestTo b i d).1 → 1 ≤ (bestTo b i d).2 ∧ (bestTo b i d).1 = sameN b (i - (bestTo b i d).2) i := by
 intro d
 induction d with
 | zero => intro h; exact absurd h (Nat.lt_irrefl _)
 | succ d ih =>
  unfold bestTo
  split
  ·intro _; exact ⟨Nat.succ_le_succ (Nat.zero_le _), rfl⟩
  ·exact ih
def cl (m : Nat × Nat) : Nat × Nat := if m.1 < 3 then (0, 0) else m
theorem cl_step (b : List Int) (i d : Nat) : cl (bestTo b i (d + 1)) = if 3 ≤ sameN b (i - (d + 1)) i ∧ (cl (bestTo b i d)).1 < sameN b (i - (d + 1)) i then (sameN b (i - (d + 1)) i, d + 1) else cl (bestTo b i d) := by
 generalize hs : sameN b (i - (d + 1)) i = s
 generalize hm : bestTo b i d = m
 have e : bestTo b i (d + 1) = if m.1 < s then (s, d + 1) else m := by
  show (if (bestTo b i d).1 < sameN b (i - (d + 1)) i then (sameN b (i - (d + 1)) i, d + 1) else bestTo b i d) = _
  rw [hs, hm]
 rw [e]
 unfold cl
 rcases Nat.lt_or_ge m.1 s with g | g <;> rcases Nat.lt_or_ge m.1 3 with g3 | g3 <;> rcases Nat.lt_or_ge s 3 with s3 | s3
 ·rw [if_pos g, if_pos s3, if_pos g3, if_neg (by omega)]
 ·rw [if_pos g, if_neg (Nat.not_lt.2 s3), if_pos g3, if_pos ⟨s3, by show 0 < s; omega⟩]
 ·omega
 ·rw [if_pos g, if_neg (Nat.not_lt.2 s3), if_neg (Nat.not_lt.2 g3), if_pos ⟨s3, g⟩]
 ·rw [if_neg (Nat.not_lt.2 g), if_pos g3, if_neg (by omega)]
 ·omega
 ·rw [if_neg (Nat.not_lt.2 g), if_neg (Nat.not_lt.2 g3), if_neg (by omega)]
 ·rw [if_neg (Nat.not_lt.2 g), if_neg (Nat.not_lt.2 g3), if_neg (fun h => absurd h.2 (Nat.not_lt.2 g))]
theorem cl_gap (b : List Int) (i c : Nat) (hc : c ≤ i) : ∀ k, k ≤ c → (∀ p, c - k ≤ p → p < c → sameN b p i < 3) → cl (bestTo b i (i - (c - k))) = cl (bestTo b i (i - c)) := by
 intro k
 induction k with
 | zero => intro _ _; rfl
 | succ k ih =>
  intro hk h
  rw [← ih (by omega) (fun p h1 h2 => h p (by omega) h2)]
  have e : i - (c - (k + 1)) = (i - (c - k)) + 1 := by omega
  rw [e, cl_step]
  have e2 : i - (i - (c - k) + 1) = c - (k + 1) := by omega
  rw [e2, if_neg (fun hh => absurd hh.1 (Nat.not_le.2 (h (c - (k + 1)) (Nat.le_refl _) (by omega))))]
theorem best_full (b : List Int) (i d : Nat) (h : (bestTo b i d).1 = 258) : ∀ k, bestTo b i (d + k) = bestTo b i d := by
 intro k
 induction k with
 | zero => rfl
 | succ k ih =>
  show (if (bestTo b i (d + k)).1 < sameN b (i - (d + k + 1)) i then (sameN b (i - (d + k + 1)) i, d + k + 1) else bestTo b i (d + k)) = _
  rw [ih, if_neg]
  have := sameN_le b (i - (d + k + 1)) i
  omega
def lastAt (b : List Int) (x y z : Int) : Nat → Int
 | 0 => -1
 | p + 1 => if p + 3 ≤ b.length ∧ rd b p = x ∧ rd b (p + 1) = y ∧ rd b (p + 2) = z then (p : Int) else lastAt b x y z p
def prevAt (b : List Int) (p : Nat) : Int := if p + 3 ≤ b.length then lastAt b (rd b p) (rd b (p + 1)) (rd b (p + 2)) p else -1
theorem lastAt_cases (b : List Int) (x y z : Int) : ∀ c, (lastAt b x y z c = -1 ∧ ∀ p, p < c → p + 3 ≤ b.length → ¬ (rd b p = x ∧ rd b (p + 1) = y ∧ rd b (p + 2) = z)) ∨ ∃ p : Nat, p < c ∧ lastAt b x y z c = p ∧ p + 3 ≤ b.length ∧ (rd b p = x ∧ rd b (p + 1) = y ∧ rd b (p + 2) = z) ∧ ∀ q, p < q → q < c → q + 3 ≤ b.length → ¬ (rd b q = x ∧ rd b (q + 1) = y ∧ rd b (q + 2) = z) := by
 intro c
 induction c with
 | zero => exact .inl ⟨rfl, fun p h => by omega⟩
 | succ c ih =>
  unfold lastAt
  split
  ·rename_i h
   exact .inr ⟨c, Nat.lt_succ_self _, rfl, h.1, h.2, fun q h1 h2 => by omega⟩
  ·rename_i h
   rcases ih with ⟨e, h2⟩ | ⟨p, hp, e, h3, h4, h5⟩
   ·refine .inl ⟨e, fun p hp h3 hh => ?_⟩
    rcases Nat.lt_or_ge p c with g | g
    ·exact h2 p g h3 hh
    ·obtain rfl : p = c := by omega
     exact h ⟨h3, hh⟩
   ·refine .inr ⟨p, by omega, e, h3, h4, fun q h6 h7 h8 hh => ?_⟩
    rcases Nat.lt_or_ge q c with g | g
    ·exact h5 q h6 g h8 hh
    ·obtain rfl : q = c := by omega
     exact h ⟨h8, hh⟩
structure Find (b : List Int) (i c : Nat) (at' : Int) (m : Nat × Nat) : Prop where
 le : c ≤ i
 far : i - c ≤ 32768
 last : at' = lastAt b (rd b i) (rd b (i + 1)) (rd b (i + 2)) c
 best : m = cl (bestTo b i (i - c))
theorem not_key {b : List Int} {p i : Nat} (hp : p < i) (hi : i + 3 ≤ b.length) (h : p + 3 ≤ b.length → ¬ (rd b p = rd b i ∧ rd b (p + 1) = rd b (i + 1) ∧ rd b (p + 2) = rd b (i + 2))) : sameN b p i < 3 := by
 refine Nat.not_le.1 fun hn => ?_
 have e0 := (sameN_eq b p i 0 (by omega)).2
 have e1 := (sameN_eq b p i 1 (by omega)).2
 have e2 := (sameN_eq b p i 2 (by omega)).2
 exact h (by omega) ⟨e0, e1, e2⟩
theorem Find.start (b : List Int) (i : Nat) : Find b i i (lastAt b (rd b i) (rd b (i + 1)) (rd b (i + 2)) i) (0, 0) :=
 ⟨Nat.le_refl _, by omega, rfl, by rw [Nat.sub_self]; rfl⟩
theorem Find.next {b : List Int} {i c p : Nat} {m : Nat × Nat} (hi : i + 3 ≤ b.length) (h : Find b i c (p : Int) m) (hf : i - p ≤ 32768) :
  p < c ∧ p + 3 ≤ b.length ∧ Find b i p (prevAt b p) (if m.1 < sameN b p i then (sameN b p i, i - p) else m) := by
 rcases lastAt_cases b (rd b i) (rd b (i + 1)) (rd b (i + 2)) c with ⟨e, _⟩ | ⟨p', hp, e, h3, h4, h5⟩
 ·have := h.last.trans e; omega
 ·have e0 : (p : Int) = p' := h.last.trans e
  obtain rfl : p = p' := by omega
  refine ⟨hp, h3, by have := h.le; omega, hf, ?_, ?_⟩
  ·unfold prevAt
   rw [if_pos h3, h4.1, h4.2.1, h4.2.2]
  ·have hle := h.le
   have g := cl_gap b i c h.le (c - (p + 1)) (by omega) (fun q h6 h7 => not_key (by omega) hi (fun h8 => h5 q (by omega) h7 h8))
   have e1 : i - (c - (c - (p + 1))) = i - p - 1 := by omega
   rw [e1, ← h.best] at g
   have s3 := sameN_three (p := p) hi h4.1 h4.2.1 h4.2.2
   have k := cl_step b i (i - p - 1)
   have e2 : i - p - 1 + 1 = i - p := by omega
   have e3 : i - (i - p) = p := by omega
   rw [e2, e3, g] at k
   rw [k]
   by_cases hm : m.1 < sameN b p i
   ·rw [if_pos hm, if_pos ⟨s3, hm⟩]
   ·rw [if_neg hm, if_neg (fun hh => hm hh.2)]
theorem Find.stop {b : List Int} {i c : Nat} {at' : Int} {m : Nat × Nat} (hi : i + 3 ≤ b.length) (h : Find b i c at' m) (he : at' < 0 ∨ 32768 < (i : Int) - at' ∨ 258 ≤ m.1) : m = cl (bestM b i) := by
 have hle := h.le
 have hfar := h.far
 unfold bestM
 by_cases hm : 258 ≤ m.1
 ·have hb := h.best
  have h258 : (bestTo b i (i - c)).1 = 258 := by
   have l := (bestTo_le b i (i - c)).1
   rw [hb] at hm
   unfold cl at hm
   split at hm
   ·exact absurd hm (by decide)
   ·omega
  have e : min i 32768 = (i - c) + (min i 32768 - (i - c)) := by omega
  rw [e, best_full b i _ h258, hb]
 ·rcases lastAt_cases b (rd b i) (rd b (i + 1)) (rd b (i + 2)) c with ⟨e, h2⟩ | ⟨p, hp, e, h3, h4, h5⟩
  ·have g := cl_gap b i c hle (c - (i - min i 32768)) (by omega) (fun q h6 h7 => not_key (by omega) hi (fun h8 => h2 q h7 h8))
   have e1 : i - (c - (c - (i - min i 32768))) = min i 32768 := by omega
   rw [e1] at g
   rw [g, h.best]
  ·have ea := h.last.trans e
   have hpf : 32768 < i - p := by omega
   have g := cl_gap b i c hle (c - (i - 32768)) (by omega) (fun q h6 h7 => not_key (by omega) hi (fun h8 => h5 q (by omega) h7 h8))
   have e1 : i - (c - (c - (i - 32768))) = min i 32768 := by omega
   rw [e1] at g
   rw [g, h.best]
theorem best_short {b : List Int} {i : Nat} (hi : ¬ i + 3 ≤ b.length) : cl (bestM b i) = (0, 0) := by
 unfold cl
 rw [if_pos]
 refine Nat.not_le.1 fun h => ?_
 have m := bestTo_match b i (min i 32768) (by unfold bestM at h; omega)
 unfold bestM at h
 have := (sameN_eq b (i - (bestTo b i (min i 32768)).2) i 2 (by omega)).1
 omega
def pressFrom (b : List Int) : Nat → Nat → List (Int × Int × Int)
 | 0, _ => []
 | f + 1, i => if i < b.length then (if (bestM b i).1 < 3 then (rd b i, 0, 0) :: pressFrom b f (i + 1) else (0, ((bestM b i).1 : Int), ((bestM b i).2 : Int)) :: pressFrom b f (i + (bestM b i).1)) else []
def pressL (b : List Int) : List (Int × Int × Int) := pressFrom b b.length 0
theorem pressFrom_end (b : List Int) (f i : Nat) (h : b.length ≤ i) : pressFrom b f i = [] := by
 cases f with
 | zero => rfl
 | succ f => unfold pressFrom; rw [if_neg (Nat.not_lt.2 h)]
theorem bestM_rng {b : List Int} {i : Nat} (h : 3 ≤ (bestM b i).1) : (bestM b i).1 ≤ 258 ∧ 1 ≤ (bestM b i).2 ∧ (bestM b i).2 ≤ 32768 ∧ (bestM b i).2 ≤ i ∧ i + (bestM b i).1 ≤ b.length ∧ ∀ j, j < (bestM b i).1 → rd b (i + j) = rd b (i - (bestM b i).2 + j) := by
 have l := bestTo_le b i (min i 32768)
 have m := bestTo_match b i (min i 32768) (by unfold bestM at h; omega)
 unfold bestM at h ⊢
 refine ⟨l.1, m.1, by omega, by omega, ?_, fun j hj => ?_⟩
 ·have := (sameN_eq b (i - (bestTo b i (min i 32768)).2) i ((bestTo b i (min i 32768)).1 - 1) (by omega)).1
  omega
 ·exact (sameN_eq b (i - (bestTo b i (min i 32768)).2) i j (by omega)).2.symm
theorem pressFrom_ok {b : List Int} (hb : ∀ j, j < b.length → 0 ≤ rd b j ∧ rd b j ≤ 255) : ∀ f i, ∀ t ∈ pressFrom b f i, (t.2.1 = 0 ∧ t.2.2 = 0 ∧ 0 ≤ t.1 ∧ t.1 ≤ 255) ∨ (t.1 = 0 ∧ 3 ≤ t.2.1 ∧ t.2.1 ≤ 258 ∧ 1 ≤ t.2.2 ∧ t.2.2 ≤ 32768) := by
 intro f
 induction f with
 | zero => intro i t ht; cases ht
 | succ f ih =>
  intro i t ht
  unfold pressFrom at ht
  split at ht
  ·rename_i hi
   split at ht
   ·rcases List.mem_cons.1 ht with rfl | h
    ·exact .inl ⟨rfl, rfl, hb i hi⟩
    ·exact ih _ t h
   ·rename_i h3
    rcases List.mem_cons.1 ht with rfl | h
    ·have r := bestM_rng (b := b) (i := i) (by omega)
     exact .inr ⟨rfl, by show (3 : Int) ≤ ((bestM b i).1 : Int); omega, by show ((bestM b i).1 : Int) ≤ 258; omega, by show (1 : Int) ≤ ((bestM b i).2 : Int); omega, by show ((bestM b i).2 : Int) ≤ 32768; omega⟩
    ·exact ih _ t h
  ·cases ht
theorem pressFrom_length (b : List Int) : ∀ f i, (pressFrom b f i).length ≤ f := by
 intro f
 induction f with
 | zero => intro i; exact Nat.le_refl _
 | succ f ih =>
  intro i
  unfold pressFrom
  split
  ·split
   ·rw [List.length_cons]; exact Nat.succ_le_succ (ih _)
   ·rw [List.length_cons]; exact Nat.succ_le_succ (ih _)
  ·exact Nat.zero_le _
end Go.Proofs.YtendohnkhbgfbaaDoor
namespace Go.Proofs.YtendohnkhbgfbaaDoor
open Go.RowKit

abbrev Tok := Int × Int × Int
def tokB (ts : List Tok) (j : Nat) : Int := (ts.getD j (0, 0, 0)).1
def tokL (ts : List Tok) (j : Nat) : Int := (ts.getD j (0, 0, 0)).2.1
def tokD (ts : List Tok) (j : Nat) : Int := (ts.getD j (0, 0, 0)).2.2
def Toks (w : World) (A : Option Addr) (n : Nat) (ts : List Tok) : Prop :=
 ts.length = n ∧ (0 < n → ∃ b o, A = some ⟨b, o, none⟩ ∧ ∀ j, j < n → w.cell? ⟨b, o + j * 3, none⟩ = some (.int .u8 (tokB ts j)) ∧ w.cell? ⟨b, o + j * 3 + 1, none⟩ = some (.int .i64 (tokL ts j)) ∧ w.cell? ⟨b, o + j * 3 + 2, none⟩ = some (.int .i64 (tokD ts j)))
theorem Toks.below {w w1 : World} {A : Option Addr} {n : Nat} {ts : List Tok} (h : Toks w A n ts) (hb : Below w.heap.size w w1) : Toks w1 A n ts :=
 ⟨h.1, fun hn => by obtain ⟨b, o, e, hc⟩ := h.2 hn; exact ⟨b, o, e, fun j hj => ⟨kept_cell hb (hc j hj).1, kept_cell hb (hc j hj).2.1, kept_cell hb (hc j hj).2.2⟩⟩⟩
def TokWf (ts : List Tok) (n : Nat) : Prop := ∀ j, j < n → (0 ≤ tokB ts j ∧ tokB ts j ≤ 255) ∧ (-9223372036854775808 ≤ tokL ts j ∧ tokL ts j ≤ 9223372036854775807) ∧ (-9223372036854775808 ≤ tokD ts j ∧ tokD ts j ≤ 9223372036854775807)

theorem list_choice {P : Nat → Tok → Prop} (n : Nat) (h : ∀ j, j < n → ∃ x, P j x) : ∃ l : List Tok, l.length = n ∧ ∀ j, j < n → P j (l.getD j (0, 0, 0)) := by
 have h' : ∀ j, ∃ x, j < n → P j x := fun j => by
  by_cases hj : j < n
  ·obtain ⟨x, hx⟩ := h j hj; exact ⟨x, fun _ => hx⟩
  ·exact ⟨(0, 0, 0), fun hh => absurd hh hj⟩
 have ⟨f, hf⟩ := Classical.axiomOfChoice h'
 refine ⟨(List.range n).map f, by simp, fun j hj => ?_⟩
 have : ((List.range n).map f).getD j (0, 0, 0) = f j := by simp [List.getD_eq_getElem?_getD, List.getElem?_range hj]
 rw [this]
 exact hf j hj
theorem i64_of_wf {n : Int} (h : (Lit.int .i64 n).wf = true) : -9223372036854775808 ≤ n ∧ n ≤ 9223372036854775807 := by
 simp [Lit.wf, IntKind.min, IntKind.max, IntKind.signed, IntKind.bits] at h
 omega
theorem toks_of_trod {H : Type} {enc : TypeId × Value → H} {P : Program} {w : World} {base : Nat} {sp : Nat → Bool} {held : Bool} {t e : TypeId} {f0 f1 f2 : Field} {v : Value} {d : DataW H} {p : List MemPlace}
  (ht : P.underlying t = some (.slice e)) (he : P.underlying e = some (.struct #[f0, f1, f2])) (o0 : f0.offset = 0) (o1 : f1.offset = 1) (o2 : f2.offset = 2) (k0 : P.underlying f0.type = some (.int .u8)) (k1 : P.underlying f1.type = some (.int .i64)) (k2 : P.underlying f2.type = some (.int .i64))
  (c0 : P.cellsOf f0.type = 1) (c1 : P.cellsOf f1.type = 1) (c2 : P.cellsOf f2.type = 1) (ce : P.cellsOf e = 3) (hv : ∃ A n c, v = .slice A n c)
  (h : DataW.Trod enc P w base sp held t v d p) :
  ∃ A n c ts, v = .slice A n c ∧ n ≤ maxLen ∧ Toks w A n ts ∧ TokWf ts n := by
 obtain ⟨fuel, hf⟩ := h
 obtain ⟨A, n, c, rfl⟩ := hv
 rcases DataW.trod_slice ht hf with ⟨hcs, _⟩ | ⟨a, len, cap, elems, rest, m, _, hcs, _, hb, hl, hm, hlen, hel, _, _⟩
 ·simp [Value.cells] at hcs
  obtain ⟨rfl, rfl, rfl⟩ := hcs
  exact ⟨none, 0, 0, [], rfl, by simp [maxLen], ⟨rfl, fun hh => by omega⟩, fun j hj => by omega⟩
 ·simp [Value.cells] at hcs
  obtain ⟨rfl, rfl, rfl⟩ := hcs
  obtain ⟨b, o, s⟩ := a
  have each : ∀ j, j < n → ∃ x : Tok, (w.cell? ((⟨b, o, s⟩ : Addr).add (j * 3)) = some (.int .u8 x.1) ∧ w.cell? (((⟨b, o, s⟩ : Addr).add (j * 3)).add 1) = some (.int .i64 x.2.1) ∧ w.cell? (((⟨b, o, s⟩ : Addr).add (j * 3)).add 2) = some (.int .i64 x.2.2)) ∧ (Lit.int .u8 x.1).wf = true ∧ (Lit.int .i64 x.2.1).wf = true ∧ (Lit.int .i64 x.2.2).wf = true := by
   intro j hj
   have hz := hel j hj
   rw [ce, List.getElem?_eq_getElem (show j < elems.length by omega)] at hz
   obtain ⟨cs, hcs, hz⟩ := Option.bind_eq_some_iff.1 hz
   obtain ⟨_, hcl, hcc⟩ := World.cells?_some hcs
   obtain ⟨xs, m', _, _, _, hxl, hx⟩ := DataW.trod_struct he hz
   have hxl3 : xs.length = 3 := by simpa using hxl
   match cs, hcl with
   | [y0, y1, y2], _ =>
    have g0 := hx 0 f0 rfl
    have g1 := hx 1 f1 rfl
    have g2 := hx 2 f2 rfl
    rw [List.getElem?_eq_getElem (by omega), o0, c0] at g0
    rw [List.getElem?_eq_getElem (by omega), o1, c1] at g1
    rw [List.getElem?_eq_getElem (by omega), o2, c2] at g2
    obtain ⟨n0, e0, _, q0⟩ := DataW.trod_int k0 g0
    obtain ⟨n1, e1, _, q1⟩ := DataW.trod_int k1 g1
    obtain ⟨n2, e2, _, q2⟩ := DataW.trod_int k2 g2
    simp at e0 e1 e2
    subst e0 e1 e2
    have a0 := hcc 0 (by omega)
    have a1 := hcc 1 (by omega)
    have a2 := hcc 2 (by omega)
    exact ⟨(n0, n1, n2), ⟨by simpa [Addr.add] using a0, by simpa using a1, by simpa using a2⟩, q0, q1, q2⟩
  obtain ⟨ts, htl, hts⟩ := list_choice n each
  refine ⟨_, n, c, ts, rfl, by omega, ⟨htl, fun hn => ?_⟩, fun j hj => ?_⟩
  ·have hs : s = none := by simpa [Addr.add] using World.cell?_spot (hts 0 hn).1.1
   subst hs
   refine ⟨b, o, rfl, fun j hj => ?_⟩
   have ad : ∀ (x k : Nat), (⟨b, x, none⟩ : Addr).add k = ⟨b, x + k, none⟩ := fun x k => by unfold Addr.add; split <;> simp_all
   have := (hts j hj).1
   rw [ad, ad, ad] at this
   exact this
  ·obtain ⟨_, q0, q1, q2⟩ := hts j hj
   exact ⟨u8_of_wf q0, i64_of_wf q1, i64_of_wf q2⟩
end Go.Proofs.YtendohnkhbgfbaaDoor
namespace Go.Proofs.YtendohnkhbgfbaaDoor

def rowL (rows : List (Int × Int)) (k : Nat) : Int := (rows.getD k (0, 0)).1
def rowB (rows : List (Int × Int)) (k : Nat) : Int := (rows.getD k (0, 0)).2
def lastLe (rows : List (Int × Int)) (n : Int) : Nat → Nat
 | 0 => 0
 | k + 1 => if rowL rows k ≤ n then k else lastLe rows n k

theorem lastLe_lt (rows : List (Int × Int)) (n : Int) (k : Nat) (h : 0 < k) : lastLe rows n k < k := by
 induction k with
 | zero => omega
 | succ k ih =>
  simp only [lastLe]; split
  ·omega
  ·rcases Nat.eq_zero_or_pos k with rfl | hk
   ·simp [lastLe]
   ·have := ih hk; omega

theorem lastLe_hit (rows : List (Int × Int)) (n : Int) (k : Nat) (h : rowL rows k ≤ n) : lastLe rows n (k + 1) = k := by simp [lastLe, h]
theorem lastLe_miss (rows : List (Int × Int)) (n : Int) (k : Nat) (h : n < rowL rows k) : lastLe rows n (k + 1) = lastLe rows n k := by
 simp only [lastLe]; rw [if_neg (by omega)]
theorem lastLe_one (rows : List (Int × Int)) (n : Int) : lastLe rows n 1 = 0 := by simp [lastLe]

def lens : List (Int × Int) := [(3, 0), (4, 0), (5, 0), (6, 0), (7, 0), (8, 0), (9, 0), (10, 0), (11, 1), (13, 1), (15, 1), (17, 1), (19, 2), (23, 2), (27, 2), (31, 2), (35, 3), (43, 3), (51, 3), (59, 3), (67, 4), (83, 4), (99, 4), (115, 4), (131, 5), (163, 5), (195, 5), (227, 5), (258, 0)]
def dists : List (Int × Int) := [(1, 0), (2, 0), (3, 0), (4, 0), (5, 1), (7, 1), (9, 2), (13, 2), (17, 3), (25, 3), (33, 4), (49, 4), (65, 5), (97, 5), (129, 6), (193, 6), (257, 7), (385, 7), (513, 8), (769, 8), (1025, 9), (1537, 9), (2049, 10), (3073, 10), (4097, 11), (6145, 11), (8193, 12), (12289, 12), (16385, 13), (24577, 13)]
theorem lens_length : lens.length = 29 := rfl
theorem dists_length : dists.length = 30 := rfl

def symS (first : Int) (rows : List (Int × Int)) (n : Int) : Int := first + (lastLe rows n rows.length : Nat)
def symB (rows : List (Int × Int)) (n : Int) : Int := rowB rows (lastLe rows n rows.length)
def symX (rows : List (Int × Int)) (n : Int) : Int := n - rowL rows (lastLe rows n rows.length)
def clampL (n : Int) : Int := if n < 3 then 3 else if 258 < n then 258 else n
def clampD (n : Int) : Int := if n < 1 then 1 else if 32768 < n then 32768 else n

theorem all_lt {p : Nat → Bool} {n : Nat} (h : (List.range n).all p = true) (k : Nat) (hk : k < n) : p k = true := List.all_eq_true.1 h k (List.mem_range.2 hk)

theorem lens_range (j : Nat) (h : j < 29) : 3 ≤ rowL lens j ∧ rowL lens j ≤ 258 ∧ 0 ≤ rowB lens j ∧ rowB lens j ≤ 5 := by
 have := all_lt (p := fun j => decide (3 ≤ rowL lens j ∧ rowL lens j ≤ 258 ∧ 0 ≤ rowB lens j ∧ rowB lens j ≤ 5)) (n := 29) (by decide) j h
 simpa using this
theorem dists_range (j : Nat) (h : j < 30) : 1 ≤ rowL dists j ∧ rowL dists j ≤ 24577 ∧ 0 ≤ rowB dists j ∧ rowB dists j ≤ 13 := by
 have := all_lt (p := fun j => decide (1 ≤ rowL dists j ∧ rowL dists j ≤ 24577 ∧ 0 ≤ rowB dists j ∧ rowB dists j ≤ 13)) (n := 30) (by decide) j h
 simpa using this

theorem lastLe_le (rows : List (Int × Int)) (n : Int) (k : Nat) (h0 : rowL rows 0 ≤ n) : rowL rows (lastLe rows n k) ≤ n := by
 induction k with
 | zero => simpa [lastLe] using h0
 | succ k ih => simp only [lastLe]; split <;> assumption

theorem clampL_range (n : Int) : 3 ≤ clampL n ∧ clampL n ≤ 258 := by unfold clampL; split <;> (try split) <;> omega
theorem clampD_range (n : Int) : 1 ≤ clampD n ∧ clampD n ≤ 32768 := by unfold clampD; split <;> (try split) <;> omega

theorem lastLe_mono (rows : List (Int × Int)) (n m : Int) (h : n ≤ m) (k : Nat) : lastLe rows n k ≤ lastLe rows m k := by
 induction k with
 | zero => simp [lastLe]
 | succ k ih =>
  have h0 : lastLe rows n k ≤ k := by
   rcases Nat.eq_zero_or_pos k with rfl | hk
   ·simp [lastLe]
   ·have := lastLe_lt rows n k hk; omega
  simp only [lastLe]
  split
  ·rw [if_pos (by omega)]; exact Nat.le_refl _
  ·split
   ·exact h0
   ·exact ih
theorem sym_rise (first : Int) (rows : List (Int × Int)) (n m : Int) (h : n ≤ m) : symS first rows n < symS first rows m ∨ symS first rows n = symS first rows m ∧ symX rows n ≤ symX rows m := by
 have h1 := lastLe_mono rows n m h rows.length
 unfold symS symX
 rcases Nat.lt_or_ge (lastLe rows n rows.length) (lastLe rows m rows.length) with h2 | h2
 ·left; omega
 ·right
  have h3 : lastLe rows n rows.length = lastLe rows m rows.length := by omega
  rw [h3]
  exact ⟨rfl, by omega⟩
theorem clampL_mono {n m : Int} (h : n ≤ m) : clampL n ≤ clampL m := by unfold clampL; split <;> split <;> (try split) <;> (try split) <;> omega
theorem clampD_mono {n m : Int} (h : n ≤ m) : clampD n ≤ clampD m := by unfold clampD; split <;> split <;> (try split) <;> (try split) <;> omega
theorem clampL_lo {n : Int} (h : n < 3) : clampL n = 3 := if_pos h
theorem clampL_hi {n : Int} (h : 258 < n) : clampL n = 258 := by unfold clampL; rw [if_neg (by omega), if_pos h]
theorem clampL_in {n : Int} (h : 3 ≤ n) (h2 : n ≤ 258) : clampL n = n := by unfold clampL; rw [if_neg (by omega), if_neg (by omega)]
theorem clampD_lo {n : Int} (h : n < 1) : clampD n = 1 := if_pos h
theorem clampD_hi {n : Int} (h : 32768 < n) : clampD n = 32768 := by unfold clampD; rw [if_neg (by omega), if_pos h]
theorem clampD_in {n : Int} (h : 1 ≤ n) (h2 : n ≤ 32768) : clampD n = n := by unfold clampD; rw [if_neg (by omega), if_neg (by omega)]
theorem symL_range (n : Int) (h : 3 ≤ n) (h2 : n ≤ 258) : 257 ≤ symS 257 lens n ∧ symS 257 lens n ≤ 285 ∧ 0 ≤ symB lens n ∧ symB lens n ≤ 5 ∧ 0 ≤ symX lens n ∧ symX lens n ≤ 255 := by
 have h1 := lastLe_lt lens n lens.length (by decide)
 have h3 := lastLe_le lens n lens.length (by show (3 : Int) ≤ n; exact h)
 have h4 := lens_range (lastLe lens n lens.length) h1
 have h5 : lens.length = 29 := rfl
 unfold symS symB symX
 omega
theorem symD_range (n : Int) (h : 1 ≤ n) (h2 : n ≤ 32768) : 0 ≤ symS 0 dists n ∧ symS 0 dists n ≤ 29 ∧ 0 ≤ symB dists n ∧ symB dists n ≤ 13 ∧ 0 ≤ symX dists n ∧ symX dists n ≤ 32767 := by
 have h1 := lastLe_lt dists n dists.length (by decide)
 have h3 := lastLe_le dists n dists.length (by show (1 : Int) ≤ n; exact h)
 have h4 := dists_range (lastLe dists n dists.length) h1
 have h5 : dists.length = 30 := rfl
 unfold symS symB symX
 omega
theorem lastLe_gt (rows : List (Int × Int)) (n : Int) (k j : Nat) (h : lastLe rows n k < j) (hj : j < k) : n < rowL rows j := by
 induction k with
 | zero => omega
 | succ k ih =>
  simp only [lastLe] at h
  split at h
  ·omega
  ·rename_i hn
   rcases Nat.lt_or_ge j k with h2 | h2
   ·exact ih h h2
   ·obtain rfl : j = k := by omega
    omega
theorem lens_step : ∀ k : Nat, k < 29 → (k + 1 < 29 → rowL lens (k + 1) ≤ rowL lens k + 2 ^ (rowB lens k).toNat) ∧ (k + 1 = 29 → 258 < rowL lens k + 2 ^ (rowB lens k).toNat) := by decide +kernel
theorem dists_step : ∀ k : Nat, k < 30 → (k + 1 < 30 → rowL dists (k + 1) ≤ rowL dists k + 2 ^ (rowB dists k).toNat) ∧ (k + 1 = 30 → 32768 < rowL dists k + 2 ^ (rowB dists k).toNat) := by decide +kernel
theorem symXL_lt (n : Int) (h : 3 ≤ n) (h2 : n ≤ 258) : symX lens n < 2 ^ (symB lens n).toNat := by
 have h1 := lastLe_lt lens n lens.length (by decide)
 have h3 := lens_step (lastLe lens n lens.length) h1
 unfold symX symB
 rw [lens_length] at *
 rcases Nat.lt_or_ge (lastLe lens n 29 + 1) 29 with h4 | h4
 ·have h5 := lastLe_gt lens n 29 (lastLe lens n 29 + 1) (by omega) h4
  have := h3.1 h4
  omega
 ·have := h3.2 (by omega)
  omega
theorem symXD_lt (n : Int) (h : 1 ≤ n) (h2 : n ≤ 32768) : symX dists n < 2 ^ (symB dists n).toNat := by
 have h1 := lastLe_lt dists n dists.length (by decide)
 have h3 := dists_step (lastLe dists n dists.length) h1
 unfold symX symB
 rw [dists_length] at *
 rcases Nat.lt_or_ge (lastLe dists n 30 + 1) 30 with h4 | h4
 ·have h5 := lastLe_gt dists n 30 (lastLe dists n 30 + 1) (by omega) h4
  have := h3.1 h4
  omega
 ·have := h3.2 (by omega)
  omega
end Go.Proofs.YtendohnkhbgfbaaDoor
namespace Go.Proofs.YtendohnkhbgfbaaDoor
open Go.RowKit

def RowsAt (w : World) (g : Nat) (rows : List (Int × Int)) : Prop :=
  ∀ j, j < rows.length → w.cell? ⟨g, j * 2, none⟩ = some (.int .i64 (rowL rows j)) ∧ w.cell? ⟨g, j * 2 + 1, none⟩ = some (.int .i64 (rowB rows j))
theorem RowsAt.below {w w1 : World} {g : Nat} {rows : List (Int × Int)} (h : RowsAt w g rows) (hb : Below w.heap.size w w1) : RowsAt w1 g rows :=
  fun j hj => ⟨(hb.cell (World.block_lt_of_cell? w _ (h j hj).1)).trans (h j hj).1, (hb.cell (World.block_lt_of_cell? w _ (h j hj).2)).trans (h j hj).2⟩

set_option maxHeartbeats 400000 in
theorem of_calls (n first : Int) (rows : List (Int × Int)) (g len : Nat) (w : World) (hlen : rows.length = len) (hn : 0 ≤ n) (hn2 : n ≤ 40000) (hf : 0 ≤ first) (hf2 : first ≤ 1000) (hl : 0 < len) (hl2 : len ≤ 100)
   (hr : ∀ j, j < len → 0 ≤ rowL rows j ∧ rowL rows j ≤ 40000)
   (hr0 : rowL rows 0 ≤ n) (hc : RowsAt w g rows) :
    Calls Tryd.prog 111 #[.int .i64 n, .int .i64 first, .slice (some ⟨g, 0, none⟩) len len] w fun e w' =>
      e = .returned (.agg #[.int .i64 (symS first rows n), .int .i64 (symB rows n), .int .u64 (symX rows n)]) ∧ Below w.heap.size w w' := by
  have hc0 := hc.below ((Below.refl w.heap.size w).alloc (Nat.le_refl _) (Obj.cells #[Value.int IntKind.i64 0, Value.int IntKind.i64 0, Value.int IntKind.u64 0] 137))
  have Hc := Lib.hid hc0
  have Hr := Lib.hid hr
  have Hr0 := Lib.hid hr0
  have Hlen := Lib.hid hlen
  clear hc hc0 hr hr0 hlen
  go_enter Tryd.func111, Tryd.ntmps111
  go_wp2
  go_loop [7] (fun i => ∃ k : Nat, k < len ∧ i = .int .i64 k ∧ Hid (lastLe rows n len = lastLe rows n (k + 1))) (fun i => (intOf i).toNat)
  case atStart => exact ⟨len - 1, by omega, by congr 1; omega, by show _ = _; congr 1; omega⟩
  case round =>
    obtain ⟨k, hk, rfl, hall⟩ := hrel
    have hz := (Hc.out k (Hlen.out ▸ hk)).1
    have hz2 := (Hc.out k (Hlen.out ▸ hk)).2
    have hb := Hr.out k hk
    go_wp2
    · go_round
      case rel =>
        have h1 : 0 < k := by assumption
        have h2 : n < rowL rows k := by assumption
        refine ⟨k - 1, by omega, by go_num, ?_⟩
        have h3 := hall.out
        rw [lastLe_miss rows n k h2] at h3
        rw [show k - 1 + 1 = k from by omega]
        exact h3
      case measure => simp [intOf]; omega
    all_goals
      have Hk : Hid (lastLe rows n len = k) := by
        first
        | exact (hall.out.trans (lastLe_hit rows n k (by assumption)))
        | (obtain rfl : k = 0 := by omega
           exact hall.out.trans (lastLe_one rows n))
      have h2 : rowL rows k ≤ n := by
        first
        | assumption
        | (obtain rfl : k = 0 := by omega
           exact Hr0.out)
      clear hall
      go_region
      go_wp2
      refine bodyPost_ret (v := .agg #[.int .i64 (first + k), .int .i64 (rowB rows k), .int .u64 (n - rowL rows k)]) (by simp [results, Tryd.results111, go_sem]) rfl ⟨?_, ((Below.refl _ _).alloc (Nat.le_refl _) _).drew⟩
      have hk3 := Hk.out
      unfold symS symB symX
      rw [Hlen.out, hk3]

set_option maxHeartbeats 400000 in
theorem Length_calls (n : Int) (w : World) (hn : -9223372036854775808 ≤ n) (hn2 : n ≤ 9223372036854775807) (hc : RowsAt w 4 lens) :
    Calls Tryd.prog 83 #[.int .i64 n] w fun e w' =>
      e = .returned (.agg #[.int .i64 (symS 257 lens (clampL n)), .int .i64 (symB lens (clampL n)), .int .u64 (symX lens (clampL n))]) ∧ Below w.heap.size w w' := by
  have hc0 := hc.below ((Below.refl w.heap.size w).alloc (Nat.le_refl _) (Obj.cells #[Value.int IntKind.i64 0, Value.int IntKind.i64 0, Value.int IntKind.u64 0] 137))
  have Hc := Lib.hid hc0
  clear hc hc0
  go_enter Tryd.func83, Tryd.ntmps83
  go_wp2_with (go_at_call 111; refine (of_calls _ 257 lens _ 29 _ rfl (by omega) (by omega) (by omega) (by omega) (by omega) (by omega) (fun j hj => by have := lens_range j hj; omega) (by show (3 : Int) ≤ _; omega) Hc.out).mono ?_; rintro e w' ⟨rfl, hb⟩; obtain ⟨c0, f0⟩ := laid_kept hb 0 _ rfl; obtain ⟨c1, f1⟩ := laid_kept hb 1 _ rfl; obtain ⟨c2, f2⟩ := laid_kept hb 2 _ rfl)
  all_goals
    have h5 : Below w.heap.size w w' := ((Below.refl _ _).alloc (Nat.le_refl _) _).trans (hb.mono (by simp))
    refine bodyPost_ret (v := .agg #[.int .i64 (symS 257 lens (clampL n)), .int .i64 (symB lens (clampL n)), .int .u64 (symX lens (clampL n))]) ?_ rfl ⟨rfl, ((h5.setCell (Nat.le_refl _) _).setCell (Nat.le_refl _) _).setCell (Nat.le_refl _) _⟩
    first
    | rw [clampL_lo (by omega)]
    | rw [clampL_hi (by omega)]
    | rw [clampL_in (by omega) (by omega)]
    simp [results, Tryd.results83, go_sem, c0, c1, c2]

set_option maxHeartbeats 400000 in
theorem Distance_calls (n : Int) (w : World) (hn : -9223372036854775808 ≤ n) (hn2 : n ≤ 9223372036854775807) (hc : RowsAt w 5 dists) :
    Calls Tryd.prog 84 #[.int .i64 n] w fun e w' =>
      e = .returned (.agg #[.int .i64 (symS 0 dists (clampD n)), .int .i64 (symB dists (clampD n)), .int .u64 (symX dists (clampD n))]) ∧ Below w.heap.size w w' := by
  have hc0 := hc.below ((Below.refl w.heap.size w).alloc (Nat.le_refl _) (Obj.cells #[Value.int IntKind.i64 0, Value.int IntKind.i64 0, Value.int IntKind.u64 0] 137))
  have Hc := Lib.hid hc0
  clear hc hc0
  go_enter Tryd.func84, Tryd.ntmps84
  go_wp2_with (go_at_call 111; refine (of_calls _ 0 dists _ 30 _ rfl (by omega) (by omega) (by omega) (by omega) (by omega) (by omega) (fun j hj => by have := dists_range j hj; omega) (by show (1 : Int) ≤ _; omega) Hc.out).mono ?_; rintro e w' ⟨rfl, hb⟩; obtain ⟨c0, f0⟩ := laid_kept hb 0 _ rfl; obtain ⟨c1, f1⟩ := laid_kept hb 1 _ rfl; obtain ⟨c2, f2⟩ := laid_kept hb 2 _ rfl)
  all_goals
    have h5 : Below w.heap.size w w' := ((Below.refl _ _).alloc (Nat.le_refl _) _).trans (hb.mono (by simp))
    refine bodyPost_ret (v := .agg #[.int .i64 (symS 0 dists (clampD n)), .int .i64 (symB dists (clampD n)), .int .u64 (symX dists (clampD n))]) ?_ rfl ⟨rfl, ((h5.setCell (Nat.le_refl _) _).setCell (Nat.le_refl _) _).setCell (Nat.le_refl _) _⟩
    first
    | rw [clampD_lo (by omega)]
    | rw [clampD_hi (by omega)]
    | rw [clampD_in (by omega) (by omega)]
    simp [results, Tryd.results84, go_sem, c0, c1, c2]

set_option maxHeartbeats 400000 in
theorem Literal_calls (b : Int) (w : World) (h0 : 0 ≤ b) (h1 : b ≤ 255) :
    Calls Tryd.prog 82 #[.int .u8 b] w fun e w' =>
      e = .returned (.agg #[.int .i64 b, .int .i64 0, .int .u64 0]) ∧ Below w.heap.size w w' := by
  go_enter Tryd.func82, Tryd.ntmps82
  go_wp2
  exact bodyPost_ret (v := .agg #[.int .i64 b, .int .i64 0, .int .u64 0]) (by simp [results, Tryd.results82, go_sem]) rfl ⟨rfl, (Below.refl _ _).alloc (Nat.le_refl _) _⟩

def lenOfE (s : Int) : Ending := if 257 ≤ s ∧ s ≤ 285 then .returned (.tuple #[.int .i64 (rowL lens (s - 257).toNat), .int .i64 (rowB lens (s - 257).toNat), .bool true]) else .returned (.tuple #[.int .i64 0, .int .i64 0, .bool false])
def distOfE (s : Int) : Ending := if 0 ≤ s ∧ s ≤ 29 then .returned (.tuple #[.int .i64 (rowL dists s.toNat), .int .i64 (rowB dists s.toNat), .bool true]) else .returned (.tuple #[.int .i64 0, .int .i64 0, .bool false])

set_option maxHeartbeats 400000 in
theorem LengthOf_calls (s : Int) (w : World) (hn : -9223372036854775808 ≤ s) (hn2 : s ≤ 9223372036854775807) (hc : RowsAt w 4 lens) :
    Calls Tryd.prog 124 #[.int .i64 s] w fun e w' => e = lenOfE s ∧ Below w.heap.size w w' := by
  have Hc := Lib.hid hc
  clear hc
  by_cases h : 257 ≤ s ∧ s ≤ 285
  · obtain ⟨ha, hb⟩ := h
    have he : lenOfE s = .returned (.tuple #[.int .i64 (rowL lens (s - 257).toNat), .int .i64 (rowB lens (s - 257).toNat), .bool true]) := if_pos ⟨ha, hb⟩
    rw [he]
    clear he
    obtain ⟨k, rfl⟩ : ∃ k : Nat, s = 257 + k := ⟨(s - 257).toNat, by omega⟩
    have hz : w.cell? ⟨4, (257 + k - 256 - 1) * 2, none⟩ = some (.int .i64 (rowL lens k)) := by rw [show 257 + k - 256 - 1 = k from by omega]; exact (Hc.out k (by rw [lens_length]; omega)).1
    have hz2 : w.cell? ⟨4, (257 + k - 256 - 1) * 2 + 1, none⟩ = some (.int .i64 (rowB lens k)) := by rw [show 257 + k - 256 - 1 = k from by omega]; exact (Hc.out k (by rw [lens_length]; omega)).2
    rw [show ((257 : Int) + k - 257).toNat = k from by omega]
    go_enter Tryd.func124, Tryd.ntmps124
    go_wp2
    go_region
    go_wp2
    go_ret3
    exact ⟨rfl, ((Below.refl _ _).alloc (Nat.le_refl _) _).drew⟩
  · rw [show lenOfE s = .returned (.tuple #[.int .i64 0, .int .i64 0, .bool false]) from if_neg h]
    by_cases h2 : s ≤ 256
    · go_enter Tryd.func124, Tryd.ntmps124
      go_wp2
      go_ret3
      exact ⟨rfl, Below.refl _ _⟩
    · have h3 : 286 ≤ s := by omega
      clear h
      go_enter Tryd.func124, Tryd.ntmps124
      go_wp2
      go_ret3
      exact ⟨rfl, Below.refl _ _⟩

set_option maxHeartbeats 400000 in
theorem DistanceOf_calls (s : Int) (w : World) (hn : -9223372036854775808 ≤ s) (hn2 : s ≤ 9223372036854775807) (hc : RowsAt w 5 dists) :
    Calls Tryd.prog 125 #[.int .i64 s] w fun e w' => e = distOfE s ∧ Below w.heap.size w w' := by
  have Hc := Lib.hid hc
  clear hc
  by_cases h : 0 ≤ s ∧ s ≤ 29
  · obtain ⟨ha, hb⟩ := h
    have he : distOfE s = .returned (.tuple #[.int .i64 (rowL dists s.toNat), .int .i64 (rowB dists s.toNat), .bool true]) := if_pos ⟨ha, hb⟩
    rw [he]
    clear he
    obtain ⟨k, rfl⟩ : ∃ k : Nat, s = k := ⟨s.toNat, by omega⟩
    have hz := (Hc.out k (by rw [dists_length]; omega)).1
    have hz2 := (Hc.out k (by rw [dists_length]; omega)).2
    rw [Int.toNat_natCast]
    go_enter Tryd.func125, Tryd.ntmps125
    go_wp2
    go_region
    go_wp2
    go_ret3
    exact ⟨rfl, (Below.refl _ _).drew⟩
  · rw [show distOfE s = .returned (.tuple #[.int .i64 0, .int .i64 0, .bool false]) from if_neg h]
    by_cases h2 : s < 0
    · go_enter Tryd.func125, Tryd.ntmps125
      go_wp2
      go_ret3
      exact ⟨rfl, Below.refl _ _⟩
    · have h3 : 30 ≤ s := by omega
      clear h
      go_enter Tryd.func125, Tryd.ntmps125
      go_wp2
      go_ret3
      exact ⟨rfl, Below.refl _ _⟩
end Go.Proofs.YtendohnkhbgfbaaDoor
namespace Go.Proofs.YtendohnkhbgfbaaDoor
open Go.RowKit

def Tabs (w : World) : Prop := RowsAt w 4 lens ∧ RowsAt w 5 dists
theorem Tabs.below {w w1 : World} (h : Tabs w) (hb : Below w.heap.size w w1) : Tabs w1 := ⟨h.1.below hb, h.2.below hb⟩
theorem Tabs.alloc {w : World} (h : Tabs w) (o : Obj) : Tabs (w.alloc o) := h.below ((Below.refl _ _).alloc (Nat.le_refl _) _)
end Go.Proofs.YtendohnkhbgfbaaDoor
namespace Go.Proofs.YtendohnkhbgfbaaDoor
open Go.RowKit

theorem elIntF : ElT Tryd.prog 99 3 (.int .i64 0) 1 8 := ⟨Tryd.underlying99, by kernel_rfl, rfl, by decide, by decide⟩
def fixAt (j : Nat) : Int := if j < 144 then 8 else if j < 256 then 9 else if j < 280 then 7 else 8
def fixA : List Int := (List.range 288).map fixAt
def fixB : List Int := List.replicate 32 5
theorem fixA_length : fixA.length = 288 := by simp [fixA]
theorem rd_fixA (j : Nat) (h : j < 288) : rd fixA j = fixAt j := by
 rw [rd_getElem (by rw [fixA_length]; exact h)]
 simp [fixA]
theorem rd_fixB (j : Nat) (h : j < 32) : rd fixB j = 5 := by
 rw [rd_getElem (by unfold fixB; rw [List.length_replicate]; exact h)]
 unfold fixB
 rw [List.getElem_replicate]
theorem right_fixA : rightB fixA = true := by kernel_rfl
theorem right_fixB : rightB fixB = true := by kernel_rfl

set_option maxHeartbeats 1000000 in set_option maxRecDepth 100000 in
theorem Fixed_calls (w : World) :
  Calls Tryd.prog 52 #[] w fun e w' => ∃ ga gb, e = .returned (.tuple #[.slice (some ⟨ga, 0, none⟩) 288 288, .slice (some ⟨gb, 0, none⟩) 32 32]) ∧
   w'.ownsRow w.heap.size 3 1 (.slice (some ⟨ga, 0, none⟩) 288 288) 288 (ints .i64 fixA) ∧ w'.ownsRow w.heap.size 3 1 (.slice (some ⟨gb, 0, none⟩) 32 32) 32 (ints .i64 fixB) ∧ Below w.heap.size w w' := by
 go_enter Tryd.func52, Tryd.ntmps52
 go_upto_region 1 with fail
 go_cut [2, 3] from 6 to 7 (fun a b wx => ∃ ga gb, ga ≠ gb ∧ a = .slice (some ⟨ga, 0, none⟩) 288 288 ∧ b = .slice (some ⟨gb, 0, none⟩) 32 32 ∧ (∃ la, wx.ownsRow w.heap.size 3 1 a 288 (ints .i64 la)) ∧ (∃ lb, wx.ownsRow w.heap.size 3 1 b 32 (ints .i64 lb)) ∧ Below w.heap.size w wx)
 case first =>
  obtain ⟨oA, la, mA, _, rA⟩ := make_rule elIntF 288 288 rfl (by decide)
  obtain ⟨oB, lb, mB, _, rB⟩ := make_rule elIntF 32 32 rfl (by decide)
  go_wp2
  go_region
  ·go_wp2
   go_meet
   exact ⟨w.heap.size, w.heap.size + 1, by omega, by simp, by simp, ⟨la, (rA.out w.drew _ _ rfl (Nat.le_refl _)).alloc _⟩, ⟨lb, rB.out (w.drew.alloc oA) _ _ (by simp) (by omega)⟩, below_new (below_new (Below.refl _ _).drew (Nat.le_refl _) _) (Nat.le_refl _) _⟩
  ·go_wp2
   go_meet
   exact ⟨w.heap.size + 1, w.heap.size, by omega, by simp, by simp, ⟨la, rA.out (w.drew.alloc oB) _ _ (by simp) (by omega)⟩, ⟨lb, (rB.out w.drew _ _ rfl (Nat.le_refl _)).alloc _⟩, below_new (below_new (Below.refl _ _).drew (Nat.le_refl _) _) (Nat.le_refl _) _⟩
 case rest =>
  obtain ⟨ga, gb, hne, rfl, rfl, ⟨la, hownA⟩, ⟨lb, hownB⟩, hb⟩ := hcut
  have HA := Lib.hid hownA
  have HB := Lib.hid hownB
  have Hb := Lib.hid hb
  have hs := hb.size
  clear hownA hownB hb
  go_wp2
  go_loopw [10] (fun i wr => ∃ (k : Nat) (l : List Int), k ≤ 288 ∧ i = .int .i64 k ∧ wr.ownsRow w.heap.size 3 1 (.slice (some ⟨ga, 0, none⟩) 288 288) 288 (ints .i64 l) ∧ wr.ownsRow w.heap.size 3 1 (.slice (some ⟨gb, 0, none⟩) 32 32) 32 (ints .i64 lb) ∧ Hid (∀ j, j < k → rd l j = fixAt j) ∧ Below w.heap.size w wr) (fun i _ => 288 - (intOf i).toNat)
  case atStart => exact ⟨0, _, by omega, rfl, HA.out, HB.out, (fun j hj => by omega), Hb.out⟩
  case round =>
   obtain ⟨k, l, hk, rfl, hA, hB, Hl, hbel⟩ := hrel
   have hga := (hA.lt ga rfl).1
   have hll : l.length = 288 := by have := hA.1; simpa [ints] using this
   have HA := Lib.hid hA
   have HB := Lib.hid hB
   have Hbel := Lib.hid hbel
   clear hA hB hbel
   by_cases hlt : k < 288
   ·have hf := HA.out.frozenAt k
    have hcell := HA.out.cellAt k (by omega)
    rw [ints_get (by omega)] at hcell
    by_cases h1 : k < 144
    ·have hv : fixAt k = 8 := by unfold fixAt; rw [if_pos h1]
     go_wp2
     go_roundw
     case rel =>
      refine ⟨k + 1, l.set k 8, by omega, by go_num, by rw [ints_set]; exact (HA.out.stored k _).1, ownsRow_setCell_other HB.out (by simpa [Value.ownBlock] using hne.symm) _, ?_, Hbel.out.setCell hga _⟩
      intro j hj
      rw [rd_set (by omega)]
      split
      ·rename_i e; rw [← e, hv]
      ·exact Hl.out j (by omega)
     case measure => simp [intOf]; omega
    ·by_cases h2 : k < 256
     ·have hv : fixAt k = 9 := by unfold fixAt; rw [if_neg h1, if_pos h2]
      go_wp2
      go_roundw
      case rel =>
       refine ⟨k + 1, l.set k 9, by omega, by go_num, by rw [ints_set]; exact (HA.out.stored k _).1, ownsRow_setCell_other HB.out (by simpa [Value.ownBlock] using hne.symm) _, ?_, Hbel.out.setCell hga _⟩
       intro j hj
       rw [rd_set (by omega)]
       split
       ·rename_i e; rw [← e, hv]
       ·exact Hl.out j (by omega)
      case measure => simp [intOf]; omega
     ·by_cases h3 : k < 280
      ·have hv : fixAt k = 7 := by unfold fixAt; rw [if_neg h1, if_neg h2, if_pos h3]
       go_wp2
       go_roundw
       case rel =>
        refine ⟨k + 1, l.set k 7, by omega, by go_num, by rw [ints_set]; exact (HA.out.stored k _).1, ownsRow_setCell_other HB.out (by simpa [Value.ownBlock] using hne.symm) _, ?_, Hbel.out.setCell hga _⟩
        intro j hj
        rw [rd_set (by omega)]
        split
        ·rename_i e; rw [← e, hv]
        ·exact Hl.out j (by omega)
       case measure => simp [intOf]; omega
      ·have hv : fixAt k = 8 := by unfold fixAt; rw [if_neg h1, if_neg h2, if_neg h3]
       go_wp2
       go_roundw
       case rel =>
        refine ⟨k + 1, l.set k 8, by omega, by go_num, by rw [ints_set]; exact (HA.out.stored k _).1, ownsRow_setCell_other HB.out (by simpa [Value.ownBlock] using hne.symm) _, ?_, Hbel.out.setCell hga _⟩
        intro j hj
        rw [rd_set (by omega)]
        split
        ·rename_i e; rw [← e, hv]
        ·exact Hl.out j (by omega)
       case measure => simp [intOf]; omega
   ·obtain rfl : k = 288 := by omega
    have e : l = fixA := ext_rd (by rw [hll, fixA_length]) (fun j hj => by rw [Hl.out j (by omega), rd_fixA j (by omega)])
    subst e
    go_wp2
    obtain ⟨wo, hwo⟩ : ∃ wo : World, wo = wr := ⟨_, rfl⟩
    subst hwo
    go_loopw [37] (fun i wr => ∃ (k : Nat) (l : List Int), k ≤ 32 ∧ i = .int .i64 k ∧ wr.ownsRow w.heap.size 3 1 (.slice (some ⟨ga, 0, none⟩) 288 288) 288 (ints .i64 fixA) ∧ wr.ownsRow w.heap.size 3 1 (.slice (some ⟨gb, 0, none⟩) 32 32) 32 (ints .i64 l) ∧ Hid (∀ j, j < k → rd l j = 5) ∧ Below w.heap.size w wr) (fun i _ => 32 - (intOf i).toNat)
    case atStart => exact ⟨0, _, by omega, rfl, HA.out, HB.out, (fun j hj => by omega), Hbel.out⟩
    case round =>
     obtain ⟨k, l, hk, rfl, hA, hB, Hl, hbel⟩ := hrel
     have hgb := (hB.lt gb rfl).1
     have hll : l.length = 32 := by have := hB.1; simpa [ints] using this
     have HA := Lib.hid hA
     have HB := Lib.hid hB
     have Hbel := Lib.hid hbel
     clear hA hB hbel
     by_cases hlt : k < 32
     ·have hf := HB.out.frozenAt k
      have hcell := HB.out.cellAt k (by omega)
      rw [ints_get (by omega)] at hcell
      go_wp2
      go_roundw
      case rel =>
       refine ⟨k + 1, l.set k 5, by omega, by go_num, ownsRow_setCell_other HA.out (by simpa [Value.ownBlock] using hne) _, by rw [ints_set]; exact (HB.out.stored k _).1, ?_, Hbel.out.setCell hgb _⟩
       intro j hj
       rw [rd_set (by omega)]
       split
       ·rfl
       ·exact Hl.out j (by omega)
      case measure => simp [intOf]; omega
     ·obtain rfl : k = 32 := by omega
      have e : l = fixB := ext_rd (by rw [hll]; rfl) (fun j hj => by rw [Hl.out j (by omega), rd_fixB j (by omega)])
      subst e
      go_wp2
      refine bodyPost_ret (v := .tuple #[.slice (some ⟨ga, 0, none⟩) 288 288, .slice (some ⟨gb, 0, none⟩) 32 32]) (by simp [results, Tryd.results52, go_sem]) rfl ⟨_, _, rfl, HA.out, HB.out, Hbel.out⟩
end Go.Proofs.YtendohnkhbgfbaaDoor
