/-
  The walks of the methods of *nodes that write: Swap, Push, Pop.
-/
import Derived.Test.YtempgkglhgelkaaNodes
import Derived.Deep.AppendLies
import Derived.Deep.RegionLaw
namespace Go.Proofs.Ytempgkglhgelkaa
open Go.RowKit

theorem NodesAt.put {w : World} {h n g c : Nat} {va : Value} {flat wait : List Int} (H : NodesAt w h va (.slice (some ⟨g, 0, none⟩) wait.length c) n flat wait) (j : Nat) (v : Int) :
    NodesAt (w.setCell ⟨g, j, none⟩ (.int .i64 v)) h va (.slice (some ⟨g, 0, none⟩) wait.length c) n flat (wait.set j v) := by
  have hne : h ≠ g := fun e => H.wh g rfl (by rw [e])
  refine ⟨(heap_setCell_other w ⟨g, j, none⟩ h _ hne).trans H.at', own_fr H.all ((Fr.refl w [some g]).set ⟨g, j, none⟩ _ (.inl (by simp))) (fun o ho => ?_), ?_⟩
  · simp at ho
    subst ho
    exact H.aw
  · rw [List.length_set, ints_set]
    exact own_store H.wait j _
theorem elIntN : ElT Try.prog 26 3 (.int .i64 0) 1 8 := ⟨Try.underlying26, by kernel_rfl, rfl, by decide, by decide⟩
theorem kept_new_f {w : World} {a : Addr} (h : w.frozen? a = false) (hlt : a.block < w.heap.size) (o : Obj) : (w.alloc o).frozen? a = false := (World.frozen?_of_block (Below.heap_alloc _ _ _ hlt)).trans h
set_option maxHeartbeats 1000000 in
theorem Swap_calls (h n i k : Nat) (va vw : Value) (flat wait : List Int) (w : World) (H : NodesAt w h va vw n flat wait) (hi : i < wait.length) (hk : k < wait.length) :
    Calls Try.prog 65 #[.pointer (some ⟨h, 0, none⟩), .int .i64 i, .int .i64 k] w fun e w' => e = .returned (.tuple #[]) ∧ NodesAt w' h va vw n flat (swp wait i k) ∧ Fr w w' [vw.ownBlock] ∧ w'.heap.size = w.heap.size := by
  have c1 := H.c1
  obtain ⟨gw, cw, rfl, _, _, hcw, hcell, hfz⟩ := own_form H.wait (by omega)
  have wi := hcell i _ (ints_get hi)
  have wk := hcell k _ (ints_get hk)
  have fi := hfz i
  have fk := hfz k
  have hne := H.wh
  have hgh : ¬ gw = h := fun e => hne gw rfl (by rw [e])
  have hgh2 : ¬ h = gw := fun e => hgh e.symm
  have hset : ∀ v, ∃ u, (w.setCell ⟨gw, i, none⟩ v).cell? ⟨gw, k, none⟩ = some u := by
    intro v
    have ho := own_store H.wait i v
    have := ho.cellAt k (by omega)
    exact ⟨_, this.trans (List.getElem?_eq_getElem (by rw [List.length_set, ints_length]; exact hk))⟩
  obtain ⟨u, hu⟩ := hset (.int .i64 (rd wait k))
  have HH := Lib.hid H
  clear H hcell hfz hne hset
  go_enter Try.func65, Try.ntmps65
  go_region
  go_wp2
  go_end0
  have h1 := (HH.out.put i (rd wait k))
  have h2 := NodesAt.put (wait := wait.set i (rd wait k)) (by rw [List.length_set]; exact h1) k (rd wait i)
  refine ⟨rfl, ?_, ((Fr.refl w _).set _ _ (.inl (by simp [Value.ownBlock]))).set _ _ (.inl (by simp [Value.ownBlock])) |>.drew, by simp⟩
  rw [List.length_set] at h2
  exact h2.keep (Below.refl _ _).drew
set_option maxHeartbeats 1000000 in
theorem NPop_calls (h n : Nat) (va vw : Value) (flat wait : List Int) (w : World) (H : NodesAt w h va vw n flat wait) (hm : 0 < wait.length) :
    Calls Try.prog 63 #[.pointer (some ⟨h, 0, none⟩)] w fun e w' => e = .returned (.iface 3 (.int .i64 (rd wait (wait.length - 1)))) ∧ ∃ vw', NodesAt w' h va vw' n flat (wait.take (wait.length - 1)) ∧ vw'.ownBlock = vw.ownBlock ∧ Fr w w' [some h] ∧ w'.heap.size = w.heap.size := by
  have c1 := H.c1
  have f1 := H.frozen 1
  obtain ⟨gw, cw, rfl, _, _, hcw, hcell, hfz⟩ := own_form H.wait (by omega)
  have wl := hcell (wait.length - 1) _ (ints_get (by omega))
  obtain ⟨m, hm2⟩ : ∃ m, wait.length = m + 1 := ⟨wait.length - 1, by omega⟩
  rw [hm2] at c1 wl
  rw [hm2, Nat.add_sub_cancel]
  rw [Nat.add_sub_cancel] at wl
  have hbig : m + 1 ≤ maxLen := by
    rcases H.wait.2 with ⟨h1, _⟩ | ⟨g, cap, cur, h1, _, _, h3, h4, _⟩
    · cases h1
    · rw [hm2] at h3; omega
  unfold maxLen at hbig
  have Hm2 := Lib.hid hm2
  have HH := Lib.hid H
  clear H hcell hfz hm2
  have hcm : m ≤ cw := by have := Hm2.out; omega
  go_enter Try.func63, Try.ntmps63
  go_wp2
  go_ret
  refine ⟨rfl, .slice (some ⟨gw, 0, none⟩) m cw, ⟨?_, ?_, ?_⟩, rfl, (Fr.refl w _).set _ _ (.inl (by simp)), by simp⟩
  · exact heap_setCell_same w h 1 _ _ _ HH.out.at'
  · refine own_fr HH.out.all ((Fr.refl w [some h]).set ⟨h, 1, none⟩ _ (.inl (by simp))) (fun o ho => ?_)
    simp at ho
    subst ho
    exact HH.out.ah
  · have h1 := own_front HH.out.wait m (by have := Hm2.out; omega)
    rw [show (wait.take m).length = m from by rw [List.length_take]; have := Hm2.out; omega]
    rw [show (ints .i64 wait).take m = ints .i64 (wait.take m) from by simp [ints, List.map_take]] at h1
    refine own_fr h1 ((Fr.refl w [some h]).set ⟨h, 1, none⟩ _ (.inl (by simp))) (fun o ho => ?_)
    simp at ho
    subst ho
    exact HH.out.wh
set_option maxHeartbeats 1000000 in
theorem NPush_calls (h n : Nat) (va vw : Value) (flat wait : List Int) (x : Int) (w : World) (H : NodesAt w h va vw n flat wait) (hm : wait.length ≤ 1000000) :
    Calls Try.prog 64 #[.pointer (some ⟨h, 0, none⟩), .iface 3 (.int .i64 x)] w fun e w' => e = .returned (.tuple #[]) ∧ ∃ vw', NodesAt w' h va vw' n flat (wait ++ [x]) ∧ (vw'.ownBlock = vw.ownBlock ∨ ∀ k, vw'.ownBlock = some k → w.heap.size ≤ k) ∧ Fr w w' [some h, vw.ownBlock] := by
  have c1 := H.c1
  have f1 := H.frozen 1
  have HH := Lib.hid H
  obtain ⟨A, c, rfl⟩ := own_slice H.wait
  have ta : ∀ W : World, Sem.run Try.prog (Instr.typeAssert (.iface 3 (.int .i64 x)) 20 3 false) W = .ok (.int .i64 x) W := fun W => by kernel_rfl
  obtain ⟨i0, hi0, hz0, hz1, hz2⟩ := info_parts elIntN.info
  have hh1 : h < w.heap.size := H.lt
  have hne := H.wh
  have Hne := Lib.hid hne
  clear H hne
  go_enter Try.func64, Try.ntmps64
  go_region_law
    ((refine step_append_lies _ (by rfl) _ _ _ (by rfl) 0 3 i0 (.int .i64 0) 1 8 elIntN.und hi0 hz0 hz1 hz2 rfl (by omega) (.slice A wait.length c) wait.length _ (by rfl) (HH.out.wait.alloc _) ⟨w.heap.size, 0, none⟩ 1 1 [.int .i64 x] (by rfl) rfl (news_at _ _ _) (by simp [Value.oneCell']) (by omega) (by unfold maxLen; omega) (by omega) (Nat.zero_le _) (w.heap.size + 1) (by simp) ?_; intro g cap w1 hown1 hgrow hat hlt; have q1 := hgrow.cell (kept_new c1 _) (fun e => Hne.out h e.symm rfl); have q2 := (hgrow.frozen_far ⟨h, 1, none⟩ (by simp; omega) (fun e => Hne.out h e.symm rfl)).trans (kept_new_f f1 hh1 _)))
  all_goals
    go_end0
    have hW1 : w1.heap[h]? = some (.cells #[va, .slice A wait.length c] 74 (0, 0)) := (hgrow.block h (by simp; omega) (fun e => Hne.out h e.symm rfl)).trans ((Below.heap_alloc _ _ _ hh1).trans HH.out.at')
    have FA : Fr w w1 [(Value.slice A wait.length c).ownBlock] := ((Fr.refl w _).alloc _ |>.drew).trans (Fr.ofGrown hgrow) (fun o ho => .inl ho)
    have FB : Fr w (w1.setCell ⟨h, 1, none⟩ (Value.slice (some ⟨g, 0, none⟩) (wait.length + 1) cap)) [some h, (Value.slice A wait.length c).ownBlock] := (FA.mono (fun o ho => by simp at ho ⊢; exact .inr ho)).set _ _ (.inl (by simp))
    refine ⟨rfl, .slice (some ⟨g, 0, none⟩) (wait.length + 1) cap, ⟨heap_setCell_same w1 h 1 _ _ _ hW1, ?_, ?_⟩, ?_, FB⟩
    · refine own_fr HH.out.all FB (fun o ho => ?_)
      simp only [List.mem_cons, List.not_mem_nil, or_false] at ho
      rcases ho with rfl | rfl
      · exact HH.out.ah
      · exact HH.out.aw
    · have h9 := own_fr hown1 ((Fr.refl w1 [some h]).set ⟨h, 1, none⟩ (Value.slice (some ⟨g, 0, none⟩) (wait.length + 1) cap) (.inl (by simp))) (fun o ho => by
        simp only [List.mem_cons, List.not_mem_nil, or_false] at ho
        subst ho
        exact own_apart hW1 (by decide) hown1)
      rw [List.length_append, ints_append]
      exact h9
    · rcases hat with h8 | h8
      · exact .inl h8.symm
      · refine .inr (fun k hk => ?_)
        simp [Value.ownBlock] at hk
        omega
end Go.Proofs.Ytempgkglhgelkaa
