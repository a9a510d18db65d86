/-
  The walk of depths.
-/
import Derived.Test.YtempgkglhgelkaaHeapW
import Derived.Test.YtempgkglhgelkaaHuffY
namespace Go.Proofs.Ytempgkglhgelkaa
open Go.RowKit

theorem Rd.fr {w w' : World} {k : IntKind} {A : Option Addr} {n : Nat} {xs : List Int} {S : List (Option Nat)} (h : Rd w k A n xs) (hf : Fr w w' S) (hS : ∀ b o, A = some ⟨b, o, none⟩ → some b ∉ S) : Rd w' k A n xs :=
  ⟨h.1, fun hn => by
    obtain ⟨b, o, e, hc⟩ := h.2 hn
    exact ⟨b, o, e, fun j hj => by
      have h1 := hc j hj
      have hlt := World.block_lt_of_cell? _ _ h1
      rw [World.cell?_of_block (a := ⟨b, o + j, none⟩) (hf.block b hlt (fun q hq e2 => hS b o e (e2 ▸ hq)))]
      exact h1⟩⟩
set_option maxHeartbeats 1000000 in
theorem depths_calls (h n bo N co : Nat) (va vw : Value) (A : Option Addr) (m cs : Nat) (flat wait sy : List Int) (hn : n ≤ 1000000) (hh : h ≠ bo) (hSb : ∀ b o, A = some ⟨b, o, none⟩ → b ≠ bo) : ∀ (t : HT) (i d : Nat) (out : List Int) (w : World),
    NodesAt w h va vw n flat wait → Apart va.ownBlock (some bo) → Apart vw.ownBlock (some bo) → w.ownsRow 0 3 1 (.slice (some ⟨bo, 0, none⟩) N co) N (ints .i64 out) → Rd w .i64 A m sy → i < n → TreeAt flat sy t i → (∀ s ∈ t.syms, s < N) → d + i ≤ 2000000 →
    Calls Try.prog 42 #[.pointer (some ⟨h, 0, none⟩), .int .i64 i, .int .i64 d, .slice (some ⟨bo, 0, none⟩) N co, .slice A m cs] w fun e w' => e = .returned (.tuple #[]) ∧ w'.ownsRow 0 3 1 (.slice (some ⟨bo, 0, none⟩) N co) N (ints .i64 (writeD t d out)) ∧ Fr w w' [some bo] := by
  intro t
  induction t with
  | leaf wt s =>
    intro i d out w H apa apw hO hS hi hT hs hd
    obtain ⟨t1, t2, t3, t4⟩ := hT
    have hsN := hs s (by simp [HT.syms])
    have c0 := H.c0
    have hfl : flat.length = n * 4 := by have := H.all.1; rwa [ints_length] at this
    obtain ⟨ga, ca, rfl, _, _, hca, hacell, _⟩ := own_form H.all (by omega)
    have x0 := hacell (i * 4) _ (ints_get (by omega))
    have x1 := hacell (i * 4 + 1) _ (ints_get (by omega))
    have x2 := hacell (i * 4 + 2) _ (ints_get (by omega))
    have x3 := hacell (i * 4 + 3) _ (ints_get (by omega))
    rw [t2] at x2
    obtain ⟨b, o, rfl, hc⟩ := hS.2 (by rw [← hS.1]; omega)
    have hm := hS.1
    have z := hc i (by omega)
    rw [t4] at z
    have hol : out.length = N := by have := hO.1; rw [ints_length] at this; omega
    have oc := hO.cellAt s (by omega)
    rw [ints_get (by omega)] at oc
    have of' := hO.frozenAt s
    have him : i < m := by omega
    have Z := fun o' => kept_new z o'
    have OC := fun o' => kept_new oc o'
    have hbo := World.block_lt_of_cell? _ _ oc
    have OF := fun o' => kept_new_f of' hbo o'
    have HO := Lib.hid hO
    clear H hO hS hc hacell t1 t2 t3 t4 hs hfl hm hol apa apw z oc of' hSb
    go_enter Try.func42, Try.ntmps42
    go_wp2
    all_goals
      go_end0
      have hst := fun v : Int => own_store HO.out s (.int .i64 v)
      have hfr := fun (v : Value) => (Fr.refl w [some bo]).set ⟨bo, s, none⟩ v (.inl (by simp))
      have hwr : ∀ v : Int, v = (max d 1 : Nat) → (ints .i64 out).set s (.int .i64 v) = ints .i64 (writeD (HT.leaf wt s) d out) := fun v hv => by
        rw [← ints_set, hv]
        rfl
      refine ⟨rfl, ?_, (hfr _).alloc _⟩
      first
      | (have hd1 : 1 ≤ d := by omega
         have e := hwr (d : Int) (by omega)
         rw [← e]
         exact (hst _).alloc _)
      | (have hd1 : d ≤ 1 := by omega
         have e := hwr 1 (by omega)
         rw [← e]
         exact (hst _).alloc _)
  | node l r il ir =>
    intro i d out w H apa apw hO hS hi hT hs hd
    obtain ⟨a, b, t1, t2, t3, ha, hb, tl, tr⟩ := hT
    have c0 := H.c0
    have hfl : flat.length = n * 4 := by have := H.all.1; rwa [ints_length] at this
    have HH := Lib.hid H
    obtain ⟨ga, ca, rfl, _, _, hca, hacell, _⟩ := own_form H.all (by omega)
    have x0 := hacell (i * 4) _ (ints_get (by omega))
    have x1 := hacell (i * 4 + 1) _ (ints_get (by omega))
    have x2 := hacell (i * 4 + 2) _ (ints_get (by omega))
    have x3 := hacell (i * 4 + 3) _ (ints_get (by omega))
    rw [t2] at x2
    rw [t3] at x3
    have HO := Lib.hid hO
    have HS := Lib.hid hS
    have Apa := Lib.hid apa
    have Apw := Lib.hid apw
    have Tl := Lib.hid tl
    have Tr := Lib.hid tr
    have Hs := Lib.hid hs
    have HSb := Lib.hid hSb
    clear H hO hS hacell t1 t2 t3 tl tr hs hfl apa apw hSb
    have il' := Lib.hid il
    have ir' := Lib.hid ir
    clear il ir
    go_enter Try.func42, Try.ntmps42
    go_wp2_with fail
    have F1 : ∀ o', Fr w (w.alloc o') [some bo] := fun o' => (Fr.refl w _).alloc o'
    refine (il'.out a (d + 1) out _ (HH.out.keep ((Below.refl _ _).alloc (Nat.le_refl _) _)) Apa.out Apw.out (HO.out.alloc _) (HS.out.alloc _) (by omega) Tl.out (fun s h => Hs.out s (by simp [HT.syms, h])) (by omega)).mono ?_
    rintro e w1 ⟨rfl, hO1, hf1⟩
    have hbo : bo < w.heap.size := (HO.out.lt bo rfl).2
    have hF1 : Fr w w1 [some bo] := (F1 _).sub hf1 (fun o ho => ho)
    have hcellb : w1.cell? ⟨w.heap.size, 3, none⟩ = some (.int .i64 (b : Nat)) := by
      rw [World.cell?_of_block (a := ⟨w.heap.size, 3, none⟩) (hf1.block w.heap.size (by simp) (fun o ho => by simp at ho; subst ho; simp; omega))]
      simp
    have HO1 := Lib.hid hO1
    have HF1 := Lib.hid hF1
    have HN1 := Lib.hid (HH.out.fr hF1 (fun o ho => by
      simp at ho
      subst ho
      exact ⟨Apa.out, Apw.out, fun e => hh (by cases e; rfl)⟩))
    have HS1 := Lib.hid (HS.out.fr hF1 (fun b' o' e hm => by
      simp at hm
      exact HSb.out b' o' e hm))
    clear hO1 hF1 hf1 F1
    go_wp2_with fail
    refine (ir'.out b (d + 1) _ _ HN1.out Apa.out Apw.out HO1.out HS1.out (by omega) Tr.out (fun s h => Hs.out s (by simp [HT.syms, h])) (by omega)).mono ?_
    rintro e w2 ⟨rfl, hO2, hf2⟩
    have HO2 := Lib.hid hO2
    have HF2 := Lib.hid (HF1.out.sub hf2 (fun o ho => ho))
    clear hO2 hf2
    go_wp2
    exact bodyPost_ret (v := .tuple #[]) (by simp [results, Try.results42, go_sem]) rfl ⟨rfl, HO2.out, HF2.out⟩
end Go.Proofs.Ytempgkglhgelkaa
