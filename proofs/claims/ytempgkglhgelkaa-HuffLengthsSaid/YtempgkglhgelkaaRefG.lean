/-
  The reference's groups in memory.
-/
import Derived.Test.YtempgkglhgelkaaFr
import Derived.Test.YtempgkglhgelkaaRefP
import Derived.Test.YtempgkglhgelkaaBitsN
namespace Go.Proofs.Ytempgkglhgelkaa
open Go.RowKit

def symI (t : HT) : List Int := t.syms.map fun (s : Nat) => (s : Int)
theorem symI_length (t : HT) : (symI t).length = t.syms.length := by simp [symI]
theorem Rd.frS {w w' : World} {k : IntKind} {A : Option Addr} {n : Nat} {xs : List Int} {S : List (Option Nat)} (h : Rd w k A n xs) (hf : Fr w w' S) (hS : ∀ b o, A = some ⟨b, o, none⟩ → some b ∉ S) : Rd w' k A n xs :=
  ⟨h.1, fun hn => by
    obtain ⟨b, o, e, hc⟩ := h.2 hn
    exact ⟨b, o, e, fun j hj => by
      have h1 := hc j hj
      have hlt := World.block_lt_of_cell? _ _ h1
      rw [World.cell?_of_block (a := ⟨b, o + j, none⟩) (hf.block b hlt (fun q hq e2 => hS b o e (e2 ▸ hq)))]
      exact h1⟩⟩
/-- The slice holds these trees, two cells each: the weight, and the symbols' slice. -/
structure GRow (w : World) (Bv B1 : Nat) (v : Value) (L : List HT) (cs : List Value) : Prop where
  own : w.ownsRow Bv 83 2 v L.length cs
  each : ∀ i, i < L.length → cs[i * 2]? = some (.int .i64 (wtAt L i)) ∧ ∃ gs c, cs[i * 2 + 1]? = some (.slice (some ⟨gs, 0, none⟩) (L.getD i default).syms.length c) ∧ (L.getD i default).syms.length ≤ c ∧ B1 ≤ gs ∧ v.ownBlock ≠ some gs ∧ Rd w .i64 (some ⟨gs, 0, none⟩) (L.getD i default).syms.length (symI (L.getD i default))
theorem GRow.nil (w : World) (Bv B1 : Nat) : GRow w Bv B1 (.slice none 0 0) [] [] := ⟨World.ownsRow_nil _ _ _ _, fun i hi => by simp at hi⟩
theorem GRow.below {w w1 : World} {Bv B1 : Nat} {v : Value} {L : List HT} {cs : List Value} (h : GRow w Bv B1 v L cs) (hb : Below w.heap.size w w1) : GRow w1 Bv B1 v L cs :=
  ⟨own_below h.own hb, fun i hi => by
    obtain ⟨e1, gs, c, e2, e3, e4, e5, e6⟩ := h.each i hi
    exact ⟨e1, gs, c, e2, e3, e4, e5, e6.below hb⟩⟩
theorem GRow.fr {w w1 : World} {Bv B1 bo : Nat} {v : Value} {L : List HT} {cs : List Value} (h : GRow w Bv B1 v L cs) (hf : Fr w w1 [some bo]) (hbo : bo < B1) (hv : Apart v.ownBlock (some bo)) : GRow w1 Bv B1 v L cs :=
  ⟨own_fr h.own hf (fun o ho => by simp at ho; subst ho; exact hv), fun i hi => by
    obtain ⟨e1, gs, c, e2, e3, e4, e5, e6⟩ := h.each i hi
    refine ⟨e1, gs, c, e2, e3, e4, e5, e6.frS hf (fun b o e => ?_)⟩
    cases e
    simp
    omega⟩
theorem GRow.at' {w : World} {Bv B1 : Nat} {v : Value} {L : List HT} {cs : List Value} (h : GRow w Bv B1 v L cs) (hL : 0 < L.length) : ∃ gl c, v = .slice (some ⟨gl, 0, none⟩) L.length c ∧ Bv ≤ gl ∧ gl < w.heap.size ∧ L.length ≤ c ∧
    ∀ i, i < L.length → w.cell? ⟨gl, i * 2, none⟩ = some (.int .i64 (wtAt L i)) ∧ ∃ gs cc, w.cell? ⟨gl, i * 2 + 1, none⟩ = some (.slice (some ⟨gs, 0, none⟩) (L.getD i default).syms.length cc) ∧ (L.getD i default).syms.length ≤ cc ∧ B1 ≤ gs ∧ gs ≠ gl ∧ Rd w .i64 (some ⟨gs, 0, none⟩) (L.getD i default).syms.length (symI (L.getD i default)) := by
  obtain ⟨gl, c, rfl, h1, h2, h3, h4, _⟩ := own_form h.own hL
  refine ⟨gl, c, rfl, h1, h2, h3, fun i hi => ?_⟩
  obtain ⟨e1, gs, cc, e2, e3, e4, e5, e6⟩ := h.each i hi
  exact ⟨h4 _ _ e1, gs, cc, h4 _ _ e2, e3, e4, fun e => e5 (by rw [e]; rfl), e6⟩
theorem rd_block_lt {w : World} {k : IntKind} {g n : Nat} {xs : List Int} (h : Rd w k (some ⟨g, 0, none⟩) n xs) (hn : 0 < n) : g < w.heap.size := by
  obtain ⟨b, o, e, hc⟩ := h.2 hn
  cases e
  exact World.block_lt_of_cell? _ _ (hc 0 hn)
theorem GRow.push {w w1 : World} {Bv B1 g cap gs c : Nat} {v : Value} {L : List HT} {cs : List Value} (H : GRow w Bv B1 v L cs) (t : HT) (hgs : B1 ≤ gs) (hc : t.syms.length ≤ c) (hR : Rd w .i64 (some ⟨gs, 0, none⟩) t.syms.length (symI t)) (hne : v.ownBlock ≠ some gs) (hf : Fr w w1 [v.ownBlock])
    (hown : w1.ownsRow Bv 83 2 (.slice (some ⟨g, 0, none⟩) (L.length + 1) cap) (L.length + 1) (cs ++ [.int .i64 t.wt, .slice (some ⟨gs, 0, none⟩) t.syms.length c])) (hat : v.ownBlock = some g ∨ w.heap.size ≤ g) :
    GRow w1 Bv B1 (.slice (some ⟨g, 0, none⟩) (L.length + 1) cap) (L ++ [t]) (cs ++ [.int .i64 t.wt, .slice (some ⟨gs, 0, none⟩) t.syms.length c]) := by
  have hcl : cs.length = L.length * 2 := H.own.1
  have key : ∀ gs' n xs, 0 < n → v.ownBlock ≠ some gs' → Rd w .i64 (some ⟨gs', 0, none⟩) n xs → Rd w1 .i64 (some ⟨gs', 0, none⟩) n xs ∧ (Value.slice (some ⟨g, 0, none⟩) (L.length + 1) cap).ownBlock ≠ some gs' := fun gs' n xs hn h1 h2 => by
    refine ⟨h2.frS hf (fun b o e => ?_), fun e => ?_⟩
    · cases e
      simpa using Ne.symm h1
    · simp [Value.ownBlock] at e
      rcases hat with h3 | h3
      · exact h1 (by rw [h3, e])
      · have := rd_block_lt h2 hn
        omega
  refine ⟨by rw [List.length_append]; exact hown, fun i hi => ?_⟩
  rw [List.length_append, List.length_cons, List.length_nil] at hi
  rcases Nat.lt_or_ge i L.length with hlt | hge
  · obtain ⟨e1, gs', c', e2, e3, e4, e5, e6⟩ := H.each i hlt
    have hg : (L ++ [t]).getD i default = L.getD i default := by rw [List.getD_eq_getElem?_getD, List.getD_eq_getElem?_getD, List.getElem?_append_left hlt]
    have hw : wtAt (L ++ [t]) i = wtAt L i := by unfold wtAt; rw [hg]
    obtain ⟨k1, k2⟩ := key gs' _ _ (syms_pos _) e5 e6
    rw [hw, hg, List.getElem?_append_left (by omega), List.getElem?_append_left (by omega)]
    exact ⟨e1, gs', c', e2, e3, e4, k2, k1⟩
  · obtain rfl : i = L.length := by omega
    have hg : (L ++ [t]).getD L.length default = t := by rw [List.getD_eq_getElem?_getD, List.getElem?_append_right (Nat.le_refl _)]; simp
    have hw : wtAt (L ++ [t]) L.length = t.wt := by unfold wtAt; rw [hg]
    obtain ⟨k1, k2⟩ := key gs _ _ (syms_pos _) hne hR
    rw [hw, hg, List.getElem?_append_right (by omega), List.getElem?_append_right (by omega), hcl, Nat.sub_self, Nat.add_sub_cancel_left]
    exact ⟨rfl, gs, c, rfl, hc, hgs, k2, k1⟩
theorem elGrp : ElT Try.prog 81 83 (.agg #[.int .i64 0, .slice none 0 0]) 2 32 := ⟨Try.underlying81, by kernel_rfl, rfl, by decide, by decide⟩
theorem leavesTo_hit {ws : List Int} {k : Nat} (h : 0 < rd ws k) : leavesTo ws (k + 1) = leavesTo ws k ++ [.leaf (rd ws k) k] := by simp [leavesTo, List.range_succ, List.filter_append, h]
theorem leavesTo_miss {ws : List Int} {k : Nat} (h : ¬ 0 < rd ws k) : leavesTo ws (k + 1) = leavesTo ws k := by simp [leavesTo, List.range_succ, List.filter_append, h]
end Go.Proofs.Ytempgkglhgelkaa
