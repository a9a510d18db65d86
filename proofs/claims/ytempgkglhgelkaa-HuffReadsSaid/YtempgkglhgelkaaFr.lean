/-
  What a call leaves of old memory, but for the blocks that are named; appends that tell where the row lies then.
-/
import Derived.Test.YtempgkglhgelkaaA
import Derived.OneCell
import Derived.Deep.AppendLies
namespace Go.Proofs.Ytempgkglhgelkaa
open Go.RowKit

/-- All old blocks are as they were, but for these. -/
structure Fr (w w' : World) (S : List (Option Nat)) : Prop where
  os : w'.os = w.os
  tape : w'.tape = w.tape
  output : w'.output = w.output
  size : w.heap.size ≤ w'.heap.size
  block : ∀ k, k < w.heap.size → (∀ o ∈ S, o ≠ some k) → w'.heap[k]? = w.heap[k]?
theorem Fr.refl (w : World) (S : List (Option Nat)) : Fr w w S := ⟨rfl, rfl, rfl, Nat.le_refl _, fun _ _ _ => rfl⟩
theorem Fr.trans {w w1 w2 : World} {S T : List (Option Nat)} (h : Fr w w1 S) (k : Fr w1 w2 T) (hT : ∀ o ∈ T, o ∈ S ∨ ∀ j, o = some j → w.heap.size ≤ j) : Fr w w2 S :=
  ⟨k.os.trans h.os, k.tape.trans h.tape, k.output.trans h.output, Nat.le_trans h.size k.size, fun j hj hS =>
    (k.block j (Nat.lt_of_lt_of_le hj h.size) (fun o ho e => by
      rcases hT o ho with h1 | h1
      · exact hS o h1 e
      · have := h1 j e; omega)).trans (h.block j hj hS)⟩
theorem Fr.ofBelow {w w' : World} (h : Below w.heap.size w w') (S : List (Option Nat)) : Fr w w' S := ⟨h.os, h.tape, h.output, h.size, fun k hk _ => h.block k hk⟩
theorem Fr.below {w w' : World} {S : List (Option Nat)} {B : Nat} (h : Fr w w' S) (hB : B ≤ w.heap.size) (hS : ∀ o ∈ S, ∀ j, o = some j → B ≤ j) : Below B w w' :=
  ⟨h.os, h.tape, h.output, h.size, fun k hk => h.block k (Nat.lt_of_lt_of_le hk hB) (fun o ho e => by have := hS o ho k e; omega)⟩
theorem Fr.ofGrown {w w' : World} {row : Option Nat} (h : w.grownBy w' row) : Fr w w' [row] := ⟨h.os, h.tape, h.output, h.size, fun k hk hS => h.block k hk (fun e => hS row (by simp) e.symm)⟩
theorem Fr.mono {w w' : World} {S T : List (Option Nat)} (h : Fr w w' S) (hS : ∀ o ∈ S, o ∈ T) : Fr w w' T := ⟨h.os, h.tape, h.output, h.size, fun k hk hT => h.block k hk (fun o ho => hT o (hS o ho))⟩
theorem Fr.set {w w' : World} {S : List (Option Nat)} (h : Fr w w' S) (a : Addr) (v : Value) (ha : some a.block ∈ S ∨ w.heap.size ≤ a.block) : Fr w (w'.setCell a v) S :=
  ⟨h.os, h.tape, h.output, by simpa using h.size, fun k hk hS => (heap_setCell_other w' a k v (by
    intro e
    rcases ha with h1 | h1
    · exact hS _ h1 (by rw [e])
    · omega)).trans (h.block k hk hS)⟩
theorem Fr.alloc {w w' : World} {S : List (Option Nat)} (h : Fr w w' S) (o : Obj) : Fr w (w'.alloc o) S :=
  ⟨h.os, h.tape, h.output, by have := h.size; simp; omega, fun k hk hS => (Below.heap_alloc _ _ _ (Nat.lt_of_lt_of_le hk h.size)).trans (h.block k hk hS)⟩
theorem Fr.drew {w w' : World} {S : List (Option Nat)} (h : Fr w w' S) : Fr w w'.drew S := ⟨h.os, h.tape, h.output, h.size, h.block⟩
/-- Two rows that aren't one. -/
def Apart (a b : Option Nat) : Prop := ∀ k, a = some k → b ≠ some k
theorem Apart.symm {a b : Option Nat} (h : Apart a b) : Apart b a := fun k e f => h k f e
theorem own_fr {w w' : World} {base : Nat} {e : TypeId} {size n : Nat} {v : Value} {xs : List Value} {S : List (Option Nat)} (h : w.ownsRow base e size v n xs) (hf : Fr w w' S) (hS : ∀ o ∈ S, Apart v.ownBlock o) : w'.ownsRow base e size v n xs := by
  refine ⟨h.1, ?_⟩
  rcases h.2 with h2 | ⟨g, cap, cur, rfl, hb, hg, r⟩
  · exact .inl h2
  · refine .inr ⟨g, cap, cur, rfl, hb, ?_, r⟩
    rw [hf.block g (Array.getElem?_eq_some_iff.1 hg).1 (fun o ho => hS o ho g rfl)]
    exact hg
/-- A row of another type than a block's is another block. -/
theorem own_apart {w : World} {h : Nat} {cells : Array Value} {T e : TypeId} {fz : Nat × Nat} {base n size : Nat} {v : Value} {xs : List Value} (hh : w.heap[h]? = some (.cells cells T fz)) (hT : T ≠ e) (ho : w.ownsRow base e size v n xs) : Apart v.ownBlock (some h) := by
  intro k hk e2
  cases e2
  rcases ho.2 with ⟨rfl, _⟩ | ⟨g, cap, cur, rfl, _, hg, _⟩
  · simp [Value.ownBlock] at hk
  · simp [Value.ownBlock] at hk
    subst hk
    rw [hh] at hg
    simp at hg
    exact hT hg.2.1
theorem own_apart2 {w : World} {e e' : TypeId} {base base' n n' size size' : Nat} {v v' : Value} {xs xs' : List Value} (he : e ≠ e') (h : w.ownsRow base e size v n xs) (h' : w.ownsRow base' e' size' v' n' xs') : Apart v.ownBlock v'.ownBlock := by
  intro k hk e2
  rcases h'.2 with ⟨rfl, _⟩ | ⟨g, cap, cur, rfl, _, hg, _⟩
  · simp [Value.ownBlock] at e2
  · simp [Value.ownBlock] at e2
    subst e2
    exact own_apart hg (Ne.symm he) h g hk rfl
theorem own_base0 {w : World} {base n : Nat} {e : TypeId} {size : Nat} {v : Value} {xs : List Value} (h : w.ownsRow base e size v n xs) : w.ownsRow 0 e size v n xs := own_mono h (Nat.zero_le _)
/-- The front of a row. -/
theorem own_front {w : World} {base n : Nat} {e : TypeId} {A : Option Addr} {c : Nat} {xs : List Value} (h : w.ownsRow base e 1 (.slice A n c) n xs) (m : Nat) (hm : m ≤ n) : w.ownsRow base e 1 (.slice A m c) m (xs.take m) := by
  refine ⟨by rw [List.length_take, h.1]; omega, ?_⟩
  rcases h.2 with ⟨h1, h2⟩ | ⟨g, cap, cur, h1, hb, hg, h3, h4, h5, h6⟩
  · simp at h1
    obtain ⟨rfl, rfl, rfl⟩ := h1
    exact .inl ⟨by rw [show m = 0 from by omega], by omega⟩
  · simp at h1
    obtain ⟨rfl, rfl⟩ := h1
    refine .inr ⟨g, c, cur, rfl, hb, hg, by omega, h4, h5, ?_⟩
    rw [← h6, List.take_take]
    congr 1
    omega
/-- A store into a row. -/
theorem own_store {w : World} {base n : Nat} {e : TypeId} {size : Nat} {g c : Nat} {xs : List Value} (h : w.ownsRow base e size (.slice (some ⟨g, 0, none⟩) n c) n xs) (j : Nat) (u : Value) :
    (w.setCell ⟨g, j, none⟩ u).ownsRow base e size (.slice (some ⟨g, 0, none⟩) n c) n (xs.set j u) := by
  refine ⟨by rw [List.length_set, h.1], ?_⟩
  rcases h.2 with ⟨h1, h2⟩ | ⟨g', cap, cur, h1, hb, hg, h3, h4, h5, h6⟩
  · cases h1
  · simp at h1
    obtain ⟨rfl, rfl⟩ := h1
    refine .inr ⟨g, c, cur.setIfInBounds j u, rfl, hb, ?_, h3, h4, by rw [Array.size_setIfInBounds, h5], ?_⟩
    · exact heap_setCell_same w g j _ _ _ hg
    · rw [Array.toList_setIfInBounds, List.take_set, h6]
/-- 'append' of one element that is built right ahead of it: where the row lies then, and what is left of old memory. -/
theorem wpList_app3 {P : Program} {wr : World} {ops : Array Oper} {rest : List Oper} {o : Oper} {a : Act} {Q : Exit → Act → World → Prop} (hgd : o.guard = none) (s x : Operand) {t : TypeId}
    (ho : o.op = .call { callee := .builtin .append, args := #[s, x], argTypes := #[t, t] })
    {base : Nat} {e : TypeId} {z : Value} {size bytes : Nat} (El : ElT P t e z size bytes) {v : Value} {n : Nat} {xs : List Value} (hown : wr.ownsRow base e size v n xs)
    (hs : a.eval s = v) {vs : Array Value} {T : TypeId} {bx : Nat} (hx : a.eval x = .slice (some ⟨bx, 0, none⟩) 1 1) (hbx : bx = wr.heap.size) (hl : vs.size = size) (h1 : vs.toList.all (fun u => u.oneCell') = true)
    (hbytes : (n + 1) * bytes ≤ 140737488355328) (hbase : base ≤ wr.heap.size)
    (h : ∀ g cap w', w'.ownsRow base e size (.slice (some ⟨g, 0, none⟩) (n + 1) cap) (n + 1) (xs ++ vs.toList) → Fr wr w' [v.ownBlock] → (v.ownBlock = some g ∨ wr.heap.size ≤ g) → g < w'.heap.size → wpList P ops Q rest (a.put o.dst (.slice (some ⟨g, 0, none⟩) (n + 1) cap)) w') : wpList P ops Q (o :: rest) a (wr.alloc (.cells vs T)) := by
  subst hbx
  obtain ⟨i0, hi, hz0, hz1, hz2⟩ := info_parts El.info
  have hn : n + 1 ≤ maxLen := by
    have := Nat.mul_le_mul_left (n + 1) El.bpos
    unfold maxLen
    omega
  refine wpList_append_lies _ hgd s x t ho base e i0 z size bytes El.und hi hz0 hz1 hz2 El.zs El.pos v n xs hs (hown.alloc _) ⟨wr.heap.size, 0, none⟩ 1 1 vs.toList hx (by simpa using hl) (news_at _ _ _) (fun u hu => List.all_eq_true.1 h1 u hu) (by omega) hn hbytes (by simp; omega) (wr.heap.size + 1) (by simp) ?_
  intro g cap w' h2 h3 h4 h5
  refine h g cap w' h2 (((Fr.refl wr [v.ownBlock]).alloc _).trans (Fr.ofGrown h3) (fun o ho => .inl ho)) ?_ h5
  rcases h4 with h4 | h4
  · exact .inl h4
  · exact .inr (by omega)
theorem Later.made {W0 W : World} (a : Addr) (u : Value) (ha : W0.heap.size ≤ a.block) (h : Later W0 W) : Later W0 (W.setCell a u) := ⟨h.bel.setCell ha u⟩
theorem Later.new {W0 W : World} (o : Obj) (h : Later W0 W) : Later W0 (W.alloc o) := h.alloc o
theorem Later.below {W0 W : World} (h : Later W0 W) : Below W0.heap.size W0 W := h.bel
end Go.Proofs.Ytempgkglhgelkaa
