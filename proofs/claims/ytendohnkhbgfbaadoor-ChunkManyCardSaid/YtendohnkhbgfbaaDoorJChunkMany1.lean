/-
  Texts joined into one file: ChunkP, GetF, ChunkQ.
-/
import Derived.Test.YtendohnkhbgfbaaDoorJShaO1
import Derived.Test.YtendohnkhbgfbaaDoorJGetW1
import Derived.Test.YtendohnkhbgfbaaDoorJBytK1
/-
  A chunk's bytes, and what reading one tells (no program).
-/
namespace Go.Proofs.YtendohnkhbgfbaaDoor
open Go.RowKit

/-- A chunk from its kind on. -/
def tailB (k : Int) (c : List Int) : List Int := k :: (lebU c.length ++ c)
def magicL : List Int := [133, 111, 74, 131]
def sumB (k : Int) (c : List Int) : List Int := (shaS (tailB k c)).take 4
def chunkB (k : Int) (c : List Int) : List Int := magicL ++ (sumB k c ++ tailB k c)
theorem sumB_length (k : Int) (c : List Int) : (sumB k c).length = 4 := by
  unfold sumB
  rw [List.length_take, shaS_length]
  rfl
theorem chunkB_length (k : Int) (c : List Int) : (chunkB k c).length = 9 + (lebU c.length).length + c.length := by
  unfold chunkB tailB
  rw [List.length_append, List.length_append, sumB_length, List.length_cons, List.length_append]
  show 4 + _ = _
  omega
/-- Does it begin as a chunk, as far as it goes? -/
def Begins (b : List Int) : Prop := ∀ i, i < 4 → i < b.length → rd b i = rd magicL i
/-- Is the number of a kind? -/
def IsKind (b : List Int) : Prop := rd b 8 = 1 ∨ rd b 8 = 2
open Classical in
/-- What reading tells: the kind, the content, how many bytes, why there is none; with the content's length, its bytes, and why there is none. -/
noncomputable def nextOf (b : List Int) (n k : Nat) (e : Int) : Int × List Int × Nat × Int :=
  if ¬ Begins b then (0, [], 0, 5) else
  if b.length < 9 then (0, [], 0, 2) else
  if ¬ IsKind b then (0, [], 0, 6) else
  if e ≠ 0 then (0, [], 0, e) else
  if 1048576 < n then (0, [], 0, 4) else
  if b.length < 9 + k + n then (0, [], 0, 2) else
  if sumB (rd b 8) ((b.drop (9 + k)).take n) ≠ (b.drop 4).take 4 then (0, [], 0, 7) else
  (rd b 8, (b.drop (9 + k)).take n, 9 + k + n, 0)
/-- What reading a chunk tells. -/
def IsNext (b : List Int) (K : Int) (C : List Int) (M : Nat) (E : Int) : Prop :=
  ∃ n k e, (Begins b → 9 ≤ b.length → IsKind b → IsGet (b.drop 9) n k e) ∧ (K, C, M, E) = nextOf b n k e
theorem IsNext.same {b : List Int} {K K' : Int} {C C' : List Int} {M M' : Nat} {E E' : Int} (h : IsNext b K C M E) (g : IsNext b K' C' M' E') : K = K' ∧ C = C' ∧ M = M' ∧ E = E' := by
  obtain ⟨n, k, e, h1, h2⟩ := h
  obtain ⟨n', k', e', g1, g2⟩ := g
  have hx : nextOf b n k e = nextOf b n' k' e' := by
    by_cases a1 : Begins b
    · by_cases a2 : 9 ≤ b.length
      · by_cases a3 : IsKind b
        · obtain ⟨rfl, rfl, rfl⟩ := (h1 a1 a2 a3).same (g1 a1 a2 a3)
          rfl
        · unfold nextOf
          rw [if_neg (not_not_intro a1), if_neg (by omega), if_pos a3, if_neg (not_not_intro a1), if_neg (by omega), if_pos a3]
      · unfold nextOf
        rw [if_neg (not_not_intro a1), if_pos (by omega), if_neg (not_not_intro a1), if_pos (by omega)]
    · unfold nextOf
      rw [if_pos a1, if_pos a1]
  rw [← h2, ← g2] at hx
  cases hx
  exact ⟨rfl, rfl, rfl, rfl⟩
theorem next_magic {b : List Int} (h : ¬ Begins b) : IsNext b 0 [] 0 5 := ⟨0, 0, 0, fun a => absurd a h, by rw [nextOf, if_pos h]⟩
theorem next_few {b : List Int} (h : Begins b) (hl : b.length < 9) : IsNext b 0 [] 0 2 := ⟨0, 0, 0, fun _ a => by omega, by rw [nextOf, if_neg (not_not_intro h), if_pos hl]⟩
theorem next_type {b : List Int} (h : Begins b) (hl : 9 ≤ b.length) (hk : ¬ IsKind b) : IsNext b 0 [] 0 6 := ⟨0, 0, 0, fun _ _ a => absurd a hk, by rw [nextOf, if_neg (not_not_intro h), if_neg (by omega), if_pos hk]⟩
theorem next_num {b : List Int} (h : Begins b) (hl : 9 ≤ b.length) (hk : IsKind b) {n k : Nat} {e : Int} (hg : IsGet (b.drop 9) n k e) (he : e ≠ 0) : IsNext b 0 [] 0 e :=
  ⟨n, k, e, fun _ _ _ => hg, by rw [nextOf, if_neg (not_not_intro h), if_neg (by omega), if_neg (not_not_intro hk), if_pos he]⟩
theorem next_long {b : List Int} (h : Begins b) (hl : 9 ≤ b.length) (hk : IsKind b) {n k : Nat} (hg : IsGet (b.drop 9) n k 0) (hn : 1048576 < n) : IsNext b 0 [] 0 4 :=
  ⟨n, k, 0, fun _ _ _ => hg, by rw [nextOf, if_neg (not_not_intro h), if_neg (by omega), if_neg (not_not_intro hk), if_neg (by simp), if_pos hn]⟩
theorem next_short {b : List Int} (h : Begins b) (hl : 9 ≤ b.length) (hk : IsKind b) {n k : Nat} (hg : IsGet (b.drop 9) n k 0) (hn : n ≤ 1048576) (hs : b.length < 9 + k + n) : IsNext b 0 [] 0 2 :=
  ⟨n, k, 0, fun _ _ _ => hg, by rw [nextOf, if_neg (not_not_intro h), if_neg (by omega), if_neg (not_not_intro hk), if_neg (by simp), if_neg (by omega), if_pos hs]⟩
theorem next_sum {b : List Int} (h : Begins b) (hl : 9 ≤ b.length) (hk : IsKind b) {n k : Nat} (hg : IsGet (b.drop 9) n k 0) (hn : n ≤ 1048576) (hs : 9 + k + n ≤ b.length) (hm : sumB (rd b 8) ((b.drop (9 + k)).take n) ≠ (b.drop 4).take 4) : IsNext b 0 [] 0 7 :=
  ⟨n, k, 0, fun _ _ _ => hg, by rw [nextOf, if_neg (not_not_intro h), if_neg (by omega), if_neg (not_not_intro hk), if_neg (by simp), if_neg (by omega), if_neg (by omega), if_pos hm]⟩
theorem next_ok {b : List Int} (h : Begins b) (hl : 9 ≤ b.length) (hk : IsKind b) {n k : Nat} (hg : IsGet (b.drop 9) n k 0) (hn : n ≤ 1048576) (hs : 9 + k + n ≤ b.length) (hm : sumB (rd b 8) ((b.drop (9 + k)).take n) = (b.drop 4).take 4) : IsNext b (rd b 8) ((b.drop (9 + k)).take n) (9 + k + n) 0 :=
  ⟨n, k, 0, fun _ _ _ => hg, by rw [nextOf, if_neg (not_not_intro h), if_neg (by omega), if_neg (not_not_intro hk), if_neg (by simp), if_neg (by omega), if_neg (by omega), if_neg (not_not_intro hm)]⟩
end Go.Proofs.YtendohnkhbgfbaaDoor
/-
  Numbers that are put are read; fronts of them are not (no program).
-/
namespace Go.Proofs.YtendohnkhbgfbaaDoor
open Go.RowKit

theorem rd_app_l {a b : List Int} {i : Nat} (h : i < a.length) : rd (a ++ b) i = rd a i := by
  unfold rd
  rw [List.getD_eq_getElem?_getD, List.getD_eq_getElem?_getD, List.getElem?_append_left h]
/-- A number at the beginning is read. -/
theorem get_leb {n : Nat} (hn : n < 18446744073709551616) (R : List Int) : IsGet (lebU n ++ R) n (lebU n).length 0 := by
  obtain ⟨h1, h2⟩ := leb_last n
  have h3 := lebU_10 hn
  refine ⟨(lebU n).length, 0, .inl ⟨rfl, h3.1, h3.2, by rw [List.length_append]; omega, fun i hi => ?_, ?_⟩, .inr (.inl ⟨rfl, hn, ?_, rfl, rfl⟩)⟩
  · rw [rd_app_l (by omega)]; exact h2 i hi
  · rw [rd_app_l (by omega)]; exact h1
  · rw [List.take_left]
/-- A front of a number is none. -/
theorem get_front {n : Nat} (hn : n < 18446744073709551616) {k : Nat} (hk : k < (lebU n).length) : IsGet ((lebU n).take k) 0 0 2 := by
  obtain ⟨h1, h2⟩ := leb_last n
  have h3 := lebU_10 hn
  refine ⟨0, 2, .inr (.inr ⟨rfl, rfl, by rw [List.length_take]; omega, fun i hi => ?_⟩), .inl ⟨by decide, rfl, rfl, rfl⟩⟩
  rw [List.length_take] at hi
  have : rd ((lebU n).take k) i = rd (lebU n) i := take_rdl (by omega)
  rw [this]
  exact h2 i (by omega)
theorem isGet_rng {b : List Int} {n k : Nat} (h : IsGet b n k 0) : 1 ≤ k ∧ k ≤ 10 ∧ k ≤ b.length ∧ n < 18446744073709551616 := by
  obtain ⟨s, f, h0, h⟩ := h
  rcases h with ⟨h1, _, _, h2⟩ | ⟨rfl, h1, _, rfl, _⟩ | ⟨_, _, _, _, h⟩
  · exact absurd h2.symm h1
  · rcases h0 with ⟨_, q1, q2, q3, _⟩ | ⟨_, q, _⟩ | ⟨_, q, _⟩
    · exact ⟨q1, q2, q3, h1⟩
    · omega
    · omega
  · omega
end Go.Proofs.YtendohnkhbgfbaaDoor
/-
  Chunks that are put are read; fronts are too short (no program).
-/
namespace Go.Proofs.YtendohnkhbgfbaaDoor
open Go.RowKit

/-- A chunk's first nine bytes. -/
def headB (k : Int) (s : List Int) : List Int := magicL ++ (s ++ [k])
theorem headB_length {k : Int} {s : List Int} (h : s.length = 4) : (headB k s).length = 9 := by
  unfold headB magicL
  simp [h]
theorem chunkB_eq (k : Int) (c : List Int) : chunkB k c = headB k (sumB k c) ++ (lebU c.length ++ c) := by
  unfold chunkB headB tailB
  simp
theorem headB_begins {k : Int} {s R : List Int} (j : Nat) : Begins ((headB k s ++ R).take j) := by
  intro i hi hl
  rw [List.length_take] at hl
  have e : rd ((headB k s ++ R).take j) i = rd (headB k s ++ R) i := take_rdl (by omega)
  rw [e]
  unfold headB
  rw [List.append_assoc]
  exact rd_app_l (by show i < 4; exact hi)
theorem headB_kind {k : Int} {s R : List Int} (h : s.length = 4) : rd (headB k s ++ R) 8 = k := by
  rw [rd_app_l (by rw [headB_length h]; decide)]
  unfold headB magicL
  obtain ⟨a, b, c, d, rfl⟩ : ∃ a b c d, s = [a, b, c, d] := by
    match s, h with
    | [a, b, c, d], _ => exact ⟨a, b, c, d, rfl⟩
  rfl
theorem headB_sum {k : Int} {s R : List Int} (h : s.length = 4) : ((headB k s ++ R).drop 4).take 4 = s := by
  unfold headB
  rw [List.append_assoc, List.drop_left' (show magicL.length = 4 from rfl), List.append_assoc, List.take_left' h]
theorem next_put {k : Int} {c : List Int} (R : List Int) (hk : k = 1 ∨ k = 2) (hc : c.length ≤ 1048576) : IsNext (chunkB k c ++ R) k c (chunkB k c).length 0 := by
  have hs := sumB_length k c
  have e : chunkB k c ++ R = headB k (sumB k c) ++ (lebU c.length ++ (c ++ R)) := by rw [chunkB_eq]; simp
  have hb : Begins (chunkB k c ++ R) := by
    have := headB_begins (k := k) (s := sumB k c) (R := lebU c.length ++ (c ++ R)) (headB k (sumB k c) ++ (lebU c.length ++ (c ++ R))).length
    rw [List.take_length] at this
    rw [e]
    exact this
  have h8 : rd (chunkB k c ++ R) 8 = k := by rw [e]; exact headB_kind hs
  have hg : IsGet ((chunkB k c ++ R).drop 9) c.length (lebU c.length).length 0 := by
    rw [e, List.drop_left' (headB_length hs)]
    exact get_leb (by omega) _
  have hl := chunkB_length k c
  have hcc : ((chunkB k c ++ R).drop (9 + (lebU c.length).length)).take c.length = c := by
    rw [← List.drop_drop, e, List.drop_left' (headB_length hs), List.drop_left, List.take_left]
  have h := next_ok hb (by rw [List.length_append]; omega) (by unfold IsKind; rw [h8]; exact hk) hg hc (by rw [List.length_append]; omega) (by rw [h8, hcc, e, headB_sum hs])
  rw [h8, hcc, ← hl] at h
  exact h
theorem next_front {k : Int} {c : List Int} (hk : k = 1 ∨ k = 2) (hc : c.length ≤ 1048576) {j : Nat} (hj : j < (chunkB k c).length) : IsNext ((chunkB k c).take j) 0 [] 0 2 := by
  have hs := sumB_length k c
  have hl := chunkB_length k c
  have hb : Begins ((chunkB k c).take j) := by rw [chunkB_eq]; exact headB_begins j
  have hlt : ((chunkB k c).take j).length = j := by rw [List.length_take]; omega
  by_cases h9 : j < 9
  · exact next_few hb (by rw [hlt]; exact h9)
  have e : (chunkB k c).take j = headB k (sumB k c) ++ (lebU c.length ++ c).take (j - 9) := by
    rw [chunkB_eq, List.take_append, headB_length hs, List.take_of_length_le (by rw [headB_length hs]; omega)]
  have h8 : rd ((chunkB k c).take j) 8 = k := by rw [e]; exact headB_kind hs
  have hK : IsKind ((chunkB k c).take j) := by unfold IsKind; rw [h8]; exact hk
  have hd : ((chunkB k c).take j).drop 9 = (lebU c.length ++ c).take (j - 9) := by rw [e, List.drop_left' (headB_length hs)]
  by_cases h : j - 9 < (lebU c.length).length
  · refine next_num (n := 0) (k := 0) hb (by rw [hlt]; omega) hK ?_ (by decide)
    rw [hd, List.take_append_of_le_length (by omega)]
    exact get_front (by omega) h
  · refine next_short (n := c.length) (k := (lebU c.length).length) hb (by rw [hlt]; omega) hK ?_ hc (by rw [hlt]; omega)
    rw [hd, List.take_append, List.take_of_length_le (by omega)]
    exact get_leb (by omega) _
theorem rd_last4 {s : List Int} (h : s.length = 4) (x : Int) : rd (s ++ [x]) (8 - 4) = x := by
  match s, h with
  | [a, b, c, d], _ => rfl
/-- Bytes that begin as a chunk are its own just if the sum is right. -/
theorem chunk_is {b : List Int} {n k : Nat} (hb : Begins b) (hl : 9 ≤ b.length) (hg : IsGet (b.drop 9) n k 0) (hs : 9 + k + n ≤ b.length) :
    chunkB (rd b 8) ((b.drop (9 + k)).take n) = b.take (9 + k + n) ↔ sumB (rd b 8) ((b.drop (9 + k)).take n) = (b.drop 4).take 4 := by
  have hn : ((b.drop (9 + k)).take n).length = n := by rw [List.length_take, List.length_drop]; omega
  have hleb : lebU n = (b.drop 9).take k := by
    obtain ⟨s, f, h0, h⟩ := hg
    rcases h with ⟨h1, _, _, h2⟩ | ⟨_, _, h1, rfl, _⟩ | ⟨_, _, _, _, h⟩
    · exact absurd h2.symm h1
    · exact h1
    · omega
  have h4 : ((b.drop 4).take 4).length = 4 := by rw [List.length_take, List.length_drop]; omega
  have e9 : b.take 9 = headB (rd b 8) ((b.drop 4).take 4) := by
    apply ext_rd (by rw [headB_length h4, List.length_take]; omega)
    intro j hj
    rw [List.length_take] at hj
    rw [take_rdl (by omega)]
    unfold headB
    by_cases h1 : j < 4
    · rw [rd_app_l (by show j < 4; exact h1)]
      exact hb j h1 (by omega)
    · have r1 : rd (magicL ++ ((b.drop 4).take 4 ++ [rd b 8])) j = rd ((b.drop 4).take 4 ++ [rd b 8]) (j - 4) := by
        unfold rd
        rw [List.getD_eq_getElem?_getD, List.getD_eq_getElem?_getD, List.getElem?_append_right (by show 4 ≤ j; omega)]
        rfl
      rw [r1]
      by_cases h2 : j < 8
      · rw [rd_app_l (by rw [h4]; omega), take_rdl (by omega)]
        unfold rd
        rw [List.getD_eq_getElem?_getD, List.getD_eq_getElem?_getD, List.getElem?_drop]
        congr 3
        omega
      · obtain rfl : j = 8 := by omega
        exact (rd_last4 h4 _).symm
  have e : b.take (9 + k + n) = headB (rd b 8) ((b.drop 4).take 4) ++ (lebU n ++ (b.drop (9 + k)).take n) := by
    rw [← e9, hleb, ← List.drop_drop, Nat.add_assoc, List.take_add, List.take_add]
  rw [chunkB_eq, hn, e]
  constructor
  · intro h
    have h1 := List.append_inj_left h (by rw [headB_length (sumB_length _ _), headB_length h4])
    unfold headB at h1
    exact List.append_inj_left (List.append_cancel_left h1) (by rw [sumB_length, h4])
  · intro h
    rw [h]
end Go.Proofs.YtendohnkhbgfbaaDoor
