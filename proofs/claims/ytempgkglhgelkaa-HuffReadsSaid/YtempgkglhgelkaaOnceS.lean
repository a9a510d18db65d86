/-
  What once keeps in memory, and how it goes on.
-/
import Derived.Test.YtempgkglhgelkaaOnceD
namespace Go.Proofs.Ytempgkglhgelkaa
open Go.RowKit

def Hi (B : Nat) (o : Option Nat) : Prop := ∀ k, o = some k → B ≤ k
structure OnceSt (w wr : World) (h bo N co : Nat) (va vw vs : Value) (n : Nat) (flat wait sy : List Int) : Prop where
  nodes : NodesAt wr h va vw n flat wait
  out : wr.ownsRow 0 3 1 (.slice (some ⟨bo, 0, none⟩) N co) N (ints .i64 (List.replicate N 0))
  syms : wr.ownsRow 0 3 1 vs sy.length (ints .i64 sy)
  bel : Below w.heap.size w wr
  hh : w.heap.size ≤ h
  hbo : w.heap.size ≤ bo
  hva : Hi w.heap.size va.ownBlock
  hvw : Hi w.heap.size vw.ownBlock
  hvs : Hi w.heap.size vs.ownBlock
  a1 : Apart vw.ownBlock (some bo)
  a2 : Apart vs.ownBlock (some bo)
  a3 : Apart vs.ownBlock vw.ownBlock
theorem OnceSt.ab {w wr : World} {h bo N co n : Nat} {va vw vs : Value} {flat wait sy : List Int} (H : OnceSt w wr h bo N co va vw vs n flat wait sy) : Apart va.ownBlock (some bo) := own_apart2 (by decide) H.nodes.all H.out
theorem OnceSt.hb {w wr : World} {h bo N co n : Nat} {va vw vs : Value} {flat wait sy : List Int} (H : OnceSt w wr h bo N co va vw vs n flat wait sy) : h ≠ bo := fun e => own_apart H.nodes.at' (by decide) H.out bo rfl (by rw [e])
theorem OnceSt.avs {w wr : World} {h bo N co n : Nat} {va vw vs : Value} {flat wait sy : List Int} (H : OnceSt w wr h bo N co va vw vs n flat wait sy) : Apart va.ownBlock vs.ownBlock := own_apart2 (by decide) H.nodes.all H.syms
theorem OnceSt.hs {w wr : World} {h bo N co n : Nat} {va vw vs : Value} {flat wait sy : List Int} (H : OnceSt w wr h bo N co va vw vs n flat wait sy) : Apart vs.ownBlock (some h) := own_apart H.nodes.at' (by decide) H.syms
/-- The nodes turn. -/
theorem OnceSt.turn {w wr w2 : World} {h bo N co n n' : Nat} {va vw vs va' vw' : Value} {flat wait sy flat' wait' : List Int} (H : OnceSt w wr h bo N co va vw vs n flat wait sy)
    (hN : NodesAt w2 h va' vw' n' flat' wait') (hf : Fr wr w2 [some h, va.ownBlock, vw.ownBlock]) (ha : va'.ownBlock = va.ownBlock ∨ Hi wr.heap.size va'.ownBlock) (hw : vw'.ownBlock = vw.ownBlock ∨ Hi wr.heap.size vw'.ownBlock) : OnceSt w w2 h bo N co va' vw' vs n' flat' wait' sy := by
  have hsz := H.bel.size
  have hbl : bo < wr.heap.size := (H.out.lt bo rfl).2
  have ab := H.ab
  have hav := H.avs
  have hs := H.hs
  have hb := H.hb
  refine ⟨hN, own_fr H.out hf ?_, own_fr H.syms hf ?_, H.bel.trans (hf.below hsz ?_), H.hh, H.hbo, ?_, ?_, H.hvs, ?_, H.a2, ?_⟩
  · intro o ho
    simp only [List.mem_cons, List.not_mem_nil, or_false] at ho
    rcases ho with rfl | rfl | rfl
    · intro k hk e
      cases e
      exact hb (by simpa [Value.ownBlock] using hk.symm)
    · exact ab.symm
    · exact H.a1.symm
  · intro o ho
    simp only [List.mem_cons, List.not_mem_nil, or_false] at ho
    rcases ho with rfl | rfl | rfl
    · exact hs
    · exact hav.symm
    · exact H.a3
  · intro o ho
    simp only [List.mem_cons, List.not_mem_nil, or_false] at ho
    rcases ho with rfl | rfl | rfl
    · intro j e
      cases e
      exact H.hh
    · exact H.hva
    · exact H.hvw
  · rcases ha with e | e
    · rw [e]; exact H.hva
    · exact fun k hk => Nat.le_trans hsz (e k hk)
  · rcases hw with e | e
    · rw [e]; exact H.hvw
    · exact fun k hk => Nat.le_trans hsz (e k hk)
  · rcases hw with e | e
    · rw [e]; exact H.a1
    · intro k hk e2
      cases e2
      have := e bo hk
      omega
  · rcases hw with e | e
    · rw [e]; exact H.a3
    · intro k hk e2
      have h1 := e k e2
      have h2 := (H.syms.lt k hk).2
      omega
/-- The symbols grow. -/
theorem OnceSt.grow {w wr w2 : World} {h bo N co n : Nat} {va vw vs vs' : Value} {flat wait sy sy' : List Int} (H : OnceSt w wr h bo N co va vw vs n flat wait sy)
    (hS : w2.ownsRow 0 3 1 vs' sy'.length (ints .i64 sy')) (hf : Fr wr w2 [vs.ownBlock]) (hs : vs'.ownBlock = vs.ownBlock ∨ Hi wr.heap.size vs'.ownBlock) : OnceSt w w2 h bo N co va vw vs' n flat wait sy' := by
  have hsz := H.bel.size
  have hbl : bo < wr.heap.size := (H.out.lt bo rfl).2
  refine ⟨H.nodes.fr hf ?_, own_fr H.out hf ?_, hS, H.bel.trans (hf.below hsz ?_), H.hh, H.hbo, H.hva, H.hvw, ?_, H.a1, ?_, ?_⟩
  · intro o ho
    simp only [List.mem_cons, List.not_mem_nil, or_false] at ho
    subst ho
    exact ⟨H.avs, H.a3.symm, fun e => H.hs h e rfl⟩
  · intro o ho
    simp only [List.mem_cons, List.not_mem_nil, or_false] at ho
    subst ho
    exact H.a2.symm
  · intro o ho
    simp only [List.mem_cons, List.not_mem_nil, or_false] at ho
    subst ho
    exact H.hvs
  · rcases hs with e | e
    · rw [e]; exact H.hvs
    · exact fun k hk => Nat.le_trans hsz (e k hk)
  · rcases hs with e | e
    · rw [e]; exact H.a2
    · intro k hk e2
      cases e2
      have := e bo hk
      omega
  · rcases hs with e | e
    · rw [e]; exact H.a3
    · intro k hk e2
      have h1 := e k hk
      have h2 := (H.nodes.wait.lt k e2).2
      omega
theorem OnceSt.keep {w wr w2 : World} {h bo N co n : Nat} {va vw vs : Value} {flat wait sy : List Int} (H : OnceSt w wr h bo N co va vw vs n flat wait sy) (hb : Below wr.heap.size wr w2) : OnceSt w w2 h bo N co va vw vs n flat wait sy :=
  H.turn (H.nodes.keep hb) (Fr.ofBelow hb _) (.inl rfl) (.inl rfl)
/-- Behind 'append' to who waits, stored. -/
theorem NodesAt.pushed {w w1 : World} {h n g cap : Nat} {va vw : Value} {flat wait : List Int} {x : Int} (H : NodesAt w h va vw n flat wait) (hown : w1.ownsRow 0 3 1 (.slice (some ⟨g, 0, none⟩) (wait.length + 1) cap) (wait.length + 1) (ints .i64 wait ++ [.int .i64 x])) (hf : Fr w w1 [vw.ownBlock]) :
    NodesAt (w1.setCell ⟨h, 1, none⟩ (.slice (some ⟨g, 0, none⟩) (wait.length + 1) cap)) h va (.slice (some ⟨g, 0, none⟩) (wait.length + 1) cap) n flat (wait ++ [x]) ∧ Fr w (w1.setCell ⟨h, 1, none⟩ (.slice (some ⟨g, 0, none⟩) (wait.length + 1) cap)) [some h, va.ownBlock, vw.ownBlock] := by
  have hW1 : w1.heap[h]? = some (.cells #[va, vw] 74 (0, 0)) := (hf.block h H.lt (fun o ho e => by
    simp only [List.mem_cons, List.not_mem_nil, or_false] at ho
    subst ho
    exact H.wh h e rfl)).trans H.at'
  have FB : Fr w (w1.setCell ⟨h, 1, none⟩ (.slice (some ⟨g, 0, none⟩) (wait.length + 1) cap)) [some h, vw.ownBlock] := (hf.mono (fun o ho => by simp at ho ⊢; exact .inr ho)).set _ _ (.inl (by simp))
  refine ⟨⟨heap_setCell_same w1 h 1 _ _ _ hW1, ?_, ?_⟩, FB.mono (fun o ho => by simp at ho ⊢; rcases ho with h1 | h1 <;> simp [h1])⟩
  · refine own_fr H.all FB (fun o ho => ?_)
    simp only [List.mem_cons, List.not_mem_nil, or_false] at ho
    rcases ho with rfl | rfl
    · exact H.ah
    · exact H.aw
  · have h9 := own_fr hown ((Fr.refl w1 [some h]).set ⟨h, 1, none⟩ (Value.slice (some ⟨g, 0, none⟩) (wait.length + 1) cap) (.inl (by simp))) (fun o ho => by
      simp only [List.mem_cons, List.not_mem_nil, or_false] at ho
      subst ho
      exact own_apart hW1 (by decide) hown)
    rw [List.length_append, ints_append]
    exact h9
/-- Behind 'append' of a node, stored. -/
theorem NodesAt.noded {w w1 : World} {h n g cap : Nat} {va vw : Value} {flat wait : List Int} {x0 x1 x2 x3 : Int} (H : NodesAt w h va vw n flat wait) (hown : w1.ownsRow 0 76 4 (.slice (some ⟨g, 0, none⟩) (n + 1) cap) (n + 1) (ints .i64 flat ++ [.int .i64 x0, .int .i64 x1, .int .i64 x2, .int .i64 x3])) (hf : Fr w w1 [va.ownBlock]) :
    NodesAt (w1.setCell ⟨h, 0, none⟩ (.slice (some ⟨g, 0, none⟩) (n + 1) cap)) h (.slice (some ⟨g, 0, none⟩) (n + 1) cap) vw (n + 1) (flat ++ [x0, x1, x2, x3]) wait ∧ Fr w (w1.setCell ⟨h, 0, none⟩ (.slice (some ⟨g, 0, none⟩) (n + 1) cap)) [some h, va.ownBlock, vw.ownBlock] := by
  have hW1 : w1.heap[h]? = some (.cells #[va, vw] 74 (0, 0)) := (hf.block h H.lt (fun o ho e => by
    simp only [List.mem_cons, List.not_mem_nil, or_false] at ho
    subst ho
    exact H.ah h e rfl)).trans H.at'
  have FB : Fr w (w1.setCell ⟨h, 0, none⟩ (.slice (some ⟨g, 0, none⟩) (n + 1) cap)) [some h, va.ownBlock] := (hf.mono (fun o ho => by simp at ho ⊢; exact .inr ho)).set _ _ (.inl (by simp))
  refine ⟨⟨heap_setCell_same w1 h 0 _ _ _ hW1, ?_, ?_⟩, FB.mono (fun o ho => by simp at ho ⊢; rcases ho with h1 | h1 <;> simp [h1])⟩
  · have h9 := own_fr hown ((Fr.refl w1 [some h]).set ⟨h, 0, none⟩ (Value.slice (some ⟨g, 0, none⟩) (n + 1) cap) (.inl (by simp))) (fun o ho => by
      simp only [List.mem_cons, List.not_mem_nil, or_false] at ho
      subst ho
      exact own_apart hW1 (by decide) hown)
    rw [ints_append]
    exact h9
  · refine own_fr H.wait FB (fun o ho => ?_)
    simp only [List.mem_cons, List.not_mem_nil, or_false] at ho
    rcases ho with rfl | rfl
    · exact H.wh
    · exact H.aw.symm
theorem own_raise {w : World} {b B : Nat} {e : TypeId} {size n : Nat} {v : Value} {xs : List Value} (h : w.ownsRow b e size v n xs) (hB : Hi B v.ownBlock) : w.ownsRow B e size v n xs := by
  refine ⟨h.1, ?_⟩
  rcases h.2 with h2 | ⟨g, cap, cur, rfl, _, r⟩
  · exact .inl h2
  · exact .inr ⟨g, cap, cur, rfl, hB g rfl, r⟩
/-- How many wait, read from memory. -/
def waitLen (h : Nat) (w : World) : Nat := match w.cell? ⟨h, 1, none⟩ with
  | some (.slice _ n _) => n
  | _ => 0
theorem waitLen_of {w : World} {h n : Nat} {va vw : Value} {flat wait : List Int} (H : NodesAt w h va vw n flat wait) : waitLen h w = wait.length := by
  obtain ⟨A, c, rfl⟩ := own_slice H.wait
  unfold waitLen
  rw [H.c1]
theorem elNode : ElT Try.prog 72 76 (.agg #[.int .i64 0, .int .i64 0, .int .i64 0, .int .i64 0]) 4 32 := ⟨Try.underlying72, by kernel_rfl, rfl, by decide, by decide⟩
end Go.Proofs.Ytempgkglhgelkaa
