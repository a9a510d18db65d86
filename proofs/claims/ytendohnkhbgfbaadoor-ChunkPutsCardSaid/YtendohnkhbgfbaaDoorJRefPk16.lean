/-
  Texts joined into one file: OnceD, OnceS, OnceW.
-/
import Derived.Test.YtendohnkhbgfbaaDoorJRefPk15
import Derived.Test.YtendohnkhbgfbaaDoorJRefPk13
import Derived.Test.YtendohnkhbgfbaaDoorJRefPk4
import Derived.Deep.Cut
import Derived.Deep.CutRange
import Derived.Deep.CutBlock
import Derived.Deep.DeepCutAuto
namespace Go.Proofs.YtendohnkhbgfbaaDoor
open Go.RowKit

theorem Rd.fr {w w' : World} {k : IntKind} {A : Option Addr} {n : Nat} {xs : List Int} {S : List (Option Nat)} (h : Rd w k A n xs) (hf : Fr w w' S) (hS : ∀ b o, A = some ⟨b, o, none⟩ → some b ∉ S) : Rd w' k A n xs :=
  ⟨h.1, fun hn => by
    obtain ⟨b, o, e, hc⟩ := h.2 hn
    exact ⟨b, o, e, fun j hj => by
      have h1 := hc j hj
      have hlt := World.block_lt_of_cell? _ _ h1
      rw [World.cell?_of_block (a := ⟨b, o + j, none⟩) (hf.block b hlt (fun q hq e2 => hS b o e (e2 ▸ hq)))]
      exact h1⟩⟩
set_option maxHeartbeats 1000000 in
theorem depths_calls (h n bo N co : Nat) (va vw : Value) (A : Option Addr) (m cs : Nat) (flat wait sy : List Int) (hn : n ≤ 1000000) (hh : h ≠ bo) (hSb : ∀ b o, A = some ⟨b, o, none⟩ → b ≠ bo) : ∀ (t : HT) (i d : Nat) (out : List Int) (w : World),
    NodesAt w h va vw n flat wait → Apart va.ownBlock (some bo) → Apart vw.ownBlock (some bo) → w.ownsRow 0 3 1 (.slice (some ⟨bo, 0, none⟩) N co) N (ints .i64 out) → Rd w .i64 A m sy → i < n → TreeAt flat sy t i → (∀ s ∈ t.syms, s < N) → d + i ≤ 2000000 →
    Calls Tryd.prog 117 #[.pointer (some ⟨h, 0, none⟩), .int .i64 i, .int .i64 d, .slice (some ⟨bo, 0, none⟩) N co, .slice A m cs] w fun e w' => e = .returned (.tuple #[]) ∧ w'.ownsRow 0 3 1 (.slice (some ⟨bo, 0, none⟩) N co) N (ints .i64 (writeD t d out)) ∧ Fr w w' [some bo] := by
  intro t
  induction t with
  | leaf wt s =>
    intro i d out w H apa apw hO hS hi hT hs hd
    obtain ⟨t1, t2, t3, t4⟩ := hT
    have hsN := hs s (by simp [HT.syms])
    have c0 := H.c0
    have hfl : flat.length = n * 4 := by have := H.all.1; rwa [ints_length] at this
    obtain ⟨ga, ca, rfl, _, _, hca, hacell, _⟩ := own_form H.all (by omega)
    have x0 := hacell (i * 4) _ (ints_get (by omega))
    have x1 := hacell (i * 4 + 1) _ (ints_get (by omega))
    have x2 := hacell (i * 4 + 2) _ (ints_get (by omega))
    have x3 := hacell (i * 4 + 3) _ (ints_get (by omega))
    rw [t2] at x2
    obtain ⟨b, o, rfl, hc⟩ := hS.2 (by rw [← hS.1]; omega)
    have hm := hS.1
    have z := hc i (by omega)
    rw [t4] at z
    have hol : out.length = N := by have := hO.1; rw [ints_length] at this; omega
    have oc := hO.cellAt s (by omega)
    rw [ints_get (by omega)] at oc
    have of' := hO.frozenAt s
    have him : i < m := by omega
    have Z := fun o' => kept_new z o'
    have OC := fun o' => kept_new oc o'
    have hbo := World.block_lt_of_cell? _ _ oc
    have OF := fun o' => kept_new_f of' hbo o'
    have HO := Lib.hid hO
    clear H hO hS hc hacell t1 t2 t3 t4 hs hfl hm hol apa apw z oc of' hSb
    go_enter Tryd.func117, Tryd.ntmps117
    go_wp2
    all_goals
      go_end0
      have hst := fun v : Int => own_store HO.out s (.int .i64 v)
      have hfr := fun (v : Value) => (Fr.refl w [some bo]).set ⟨bo, s, none⟩ v (.inl (by simp))
      have hwr : ∀ v : Int, v = (max d 1 : Nat) → (ints .i64 out).set s (.int .i64 v) = ints .i64 (writeD (HT.leaf wt s) d out) := fun v hv => by
        rw [← ints_set, hv]
        rfl
      refine ⟨rfl, ?_, (hfr _).alloc _⟩
      first
      | (have hd1 : 1 ≤ d := by omega
         have e := hwr (d : Int) (by omega)
         rw [← e]
         exact (hst _).alloc _)
      | (have hd1 : d ≤ 1 := by omega
         have e := hwr 1 (by omega)
         rw [← e]
         exact (hst _).alloc _)
  | node l r il ir =>
    intro i d out w H apa apw hO hS hi hT hs hd
    obtain ⟨a, b, t1, t2, t3, ha, hb, tl, tr⟩ := hT
    have c0 := H.c0
    have hfl : flat.length = n * 4 := by have := H.all.1; rwa [ints_length] at this
    have HH := Lib.hid H
    obtain ⟨ga, ca, rfl, _, _, hca, hacell, _⟩ := own_form H.all (by omega)
    have x0 := hacell (i * 4) _ (ints_get (by omega))
    have x1 := hacell (i * 4 + 1) _ (ints_get (by omega))
    have x2 := hacell (i * 4 + 2) _ (ints_get (by omega))
    have x3 := hacell (i * 4 + 3) _ (ints_get (by omega))
    rw [t2] at x2
    rw [t3] at x3
    have HO := Lib.hid hO
    have HS := Lib.hid hS
    have Apa := Lib.hid apa
    have Apw := Lib.hid apw
    have Tl := Lib.hid tl
    have Tr := Lib.hid tr
    have Hs := Lib.hid hs
    have HSb := Lib.hid hSb
    clear H hO hS hacell t1 t2 t3 tl tr hs hfl apa apw hSb
    have il' := Lib.hid il
    have ir' := Lib.hid ir
    clear il ir
    go_enter Tryd.func117, Tryd.ntmps117
    go_wp2_with fail
    have F1 : ∀ o', Fr w (w.alloc o') [some bo] := fun o' => (Fr.refl w _).alloc o'
    refine (il'.out a (d + 1) out _ (HH.out.keep ((Below.refl _ _).alloc (Nat.le_refl _) _)) Apa.out Apw.out (HO.out.alloc _) (HS.out.alloc _) (by omega) Tl.out (fun s h => Hs.out s (by simp [HT.syms, h])) (by omega)).mono ?_
    rintro e w1 ⟨rfl, hO1, hf1⟩
    have hbo : bo < w.heap.size := (HO.out.lt bo rfl).2
    have hF1 : Fr w w1 [some bo] := (F1 _).sub hf1 (fun o ho => ho)
    have hcellb : w1.cell? ⟨w.heap.size, 3, none⟩ = some (.int .i64 (b : Nat)) := by
      rw [World.cell?_of_block (a := ⟨w.heap.size, 3, none⟩) (hf1.block w.heap.size (by simp) (fun o ho => by simp at ho; subst ho; simp; omega))]
      simp
    have HO1 := Lib.hid hO1
    have HF1 := Lib.hid hF1
    have HN1 := Lib.hid (HH.out.fr hF1 (fun o ho => by
      simp at ho
      subst ho
      exact ⟨Apa.out, Apw.out, fun e => hh (by cases e; rfl)⟩))
    have HS1 := Lib.hid (HS.out.fr hF1 (fun b' o' e hm => by
      simp at hm
      exact HSb.out b' o' e hm))
    clear hO1 hF1 hf1 F1
    go_wp2_with fail
    refine (ir'.out b (d + 1) _ _ HN1.out Apa.out Apw.out HO1.out HS1.out (by omega) Tr.out (fun s h => Hs.out s (by simp [HT.syms, h])) (by omega)).mono ?_
    rintro e w2 ⟨rfl, hO2, hf2⟩
    have HO2 := Lib.hid hO2
    have HF2 := Lib.hid (HF1.out.sub hf2 (fun o ho => ho))
    clear hO2 hf2
    go_wp2
    exact bodyPost_ret (v := .tuple #[]) (by simp [results, Tryd.results117, go_sem]) rfl ⟨rfl, HO2.out, HF2.out⟩
end Go.Proofs.YtendohnkhbgfbaaDoor
namespace Go.Proofs.YtendohnkhbgfbaaDoor
open Go.RowKit

def Hi (B : Nat) (o : Option Nat) : Prop := ∀ k, o = some k → B ≤ k
structure OnceSt (w wr : World) (h bo N co : Nat) (va vw vs : Value) (n : Nat) (flat wait sy : List Int) : Prop where
 nodes : NodesAt wr h va vw n flat wait
 out : wr.ownsRow 0 3 1 (.slice (some ⟨bo, 0, none⟩) N co) N (ints .i64 (List.replicate N 0))
 syms : wr.ownsRow 0 3 1 vs sy.length (ints .i64 sy)
 bel : Below w.heap.size w wr
 hh : w.heap.size ≤ h
 hbo : w.heap.size ≤ bo
 hva : Hi w.heap.size va.ownBlock
 hvw : Hi w.heap.size vw.ownBlock
 hvs : Hi w.heap.size vs.ownBlock
 a1 : Apart vw.ownBlock (some bo)
 a2 : Apart vs.ownBlock (some bo)
 a3 : Apart vs.ownBlock vw.ownBlock
theorem OnceSt.ab {w wr : World} {h bo N co n : Nat} {va vw vs : Value} {flat wait sy : List Int} (H : OnceSt w wr h bo N co va vw vs n flat wait sy) : Apart va.ownBlock (some bo) := own_apart2 (by decide) H.nodes.all H.out
theorem OnceSt.hb {w wr : World} {h bo N co n : Nat} {va vw vs : Value} {flat wait sy : List Int} (H : OnceSt w wr h bo N co va vw vs n flat wait sy) : h ≠ bo := fun e => own_apart H.nodes.at' (by decide) H.out bo rfl (by rw [e])
theorem OnceSt.avs {w wr : World} {h bo N co n : Nat} {va vw vs : Value} {flat wait sy : List Int} (H : OnceSt w wr h bo N co va vw vs n flat wait sy) : Apart va.ownBlock vs.ownBlock := own_apart2 (by decide) H.nodes.all H.syms
theorem OnceSt.hs {w wr : World} {h bo N co n : Nat} {va vw vs : Value} {flat wait sy : List Int} (H : OnceSt w wr h bo N co va vw vs n flat wait sy) : Apart vs.ownBlock (some h) := own_apart H.nodes.at' (by decide) H.syms
theorem OnceSt.turn {w wr w2 : World} {h bo N co n n' : Nat} {va vw vs va' vw' : Value} {flat wait sy flat' wait' : List Int} (H : OnceSt w wr h bo N co va vw vs n flat wait sy)
  (hN : NodesAt w2 h va' vw' n' flat' wait') (hf : Fr wr w2 [some h, va.ownBlock, vw.ownBlock]) (ha : va'.ownBlock = va.ownBlock ∨ Hi wr.heap.size va'.ownBlock) (hw : vw'.ownBlock = vw.ownBlock ∨ Hi wr.heap.size vw'.ownBlock) : OnceSt w w2 h bo N co va' vw' vs n' flat' wait' sy := by
 have hsz := H.bel.size
 have hbl : bo < wr.heap.size := (H.out.lt bo rfl).2
 have ab := H.ab
 have hav := H.avs
 have hs := H.hs
 have hb := H.hb
 refine ⟨hN, own_fr H.out hf ?_, own_fr H.syms hf ?_, H.bel.trans (hf.below hsz ?_), H.hh, H.hbo, ?_, ?_, H.hvs, ?_, H.a2, ?_⟩
 ·intro o ho
  simp only [List.mem_cons, List.not_mem_nil, or_false] at ho
  rcases ho with rfl | rfl | rfl
  ·intro k hk e
   cases e
   exact hb (by simpa [Value.ownBlock] using hk.symm)
  ·exact ab.symm
  ·exact H.a1.symm
 ·intro o ho
  simp only [List.mem_cons, List.not_mem_nil, or_false] at ho
  rcases ho with rfl | rfl | rfl
  ·exact hs
  ·exact hav.symm
  ·exact H.a3
 ·intro o ho
  simp only [List.mem_cons, List.not_mem_nil, or_false] at ho
  rcases ho with rfl | rfl | rfl
  ·intro j e
   cases e
   exact H.hh
  ·exact H.hva
  ·exact H.hvw
 ·rcases ha with e | e
  ·rw [e]; exact H.hva
  ·exact fun k hk => Nat.le_trans hsz (e k hk)
 ·rcases hw with e | e
  ·rw [e]; exact H.hvw
  ·exact fun k hk => Nat.le_trans hsz (e k hk)
 ·rcases hw with e | e
  ·rw [e]; exact H.a1
  ·intro k hk e2
   cases e2
   have := e bo hk
   omega
 ·rcases hw with e | e
  ·rw [e]; exact H.a3
  ·intro k hk e2
   have h1 := e k e2
   have h2 := (H.syms.lt k hk).2
   omega
theorem OnceSt.grow {w wr w2 : World} {h bo N co n : Nat} {va vw vs vs' : Value} {flat wait sy sy' : List Int} (H : OnceSt w wr h bo N co va vw vs n flat wait sy)
  (hS : w2.ownsRow 0 3 1 vs' sy'.length (ints .i64 sy')) (hf : Fr wr w2 [vs.ownBlock]) (hs : vs'.ownBlock = vs.ownBlock ∨ Hi wr.heap.size vs'.ownBlock) : OnceSt w w2 h bo N co va vw vs' n flat wait sy' := by
 have hsz := H.bel.size
 have hbl : bo < wr.heap.size := (H.out.lt bo rfl).2
 refine ⟨H.nodes.fr hf ?_, own_fr H.out hf ?_, hS, H.bel.trans (hf.below hsz ?_), H.hh, H.hbo, H.hva, H.hvw, ?_, H.a1, ?_, ?_⟩
 ·intro o ho
  simp only [List.mem_cons, List.not_mem_nil, or_false] at ho
  subst ho
  exact ⟨H.avs, H.a3.symm, fun e => H.hs h e rfl⟩
 ·intro o ho
  simp only [List.mem_cons, List.not_mem_nil, or_false] at ho
  subst ho
  exact H.a2.symm
 ·intro o ho
  simp only [List.mem_cons, List.not_mem_nil, or_false] at ho
  subst ho
  exact H.hvs
 ·rcases hs with e | e
  ·rw [e]; exact H.hvs
  ·exact fun k hk => Nat.le_trans hsz (e k hk)
 ·rcases hs with e | e
  ·rw [e]; exact H.a2
  ·intro k hk e2
   cases e2
   have := e bo hk
   omega
 ·rcases hs with e | e
  ·rw [e]; exact H.a3
  ·intro k hk e2
   have h1 := e k hk
   have h2 := (H.nodes.wait.lt k e2).2
   omega
theorem OnceSt.keep {w wr w2 : World} {h bo N co n : Nat} {va vw vs : Value} {flat wait sy : List Int} (H : OnceSt w wr h bo N co va vw vs n flat wait sy) (hb : Below wr.heap.size wr w2) : OnceSt w w2 h bo N co va vw vs n flat wait sy :=
 H.turn (H.nodes.keep hb) (Fr.ofBelow hb _) (.inl rfl) (.inl rfl)
theorem NodesAt.pushed {w w1 : World} {h n g cap : Nat} {va vw : Value} {flat wait : List Int} {x : Int} (H : NodesAt w h va vw n flat wait) (hown : w1.ownsRow 0 3 1 (.slice (some ⟨g, 0, none⟩) (wait.length + 1) cap) (wait.length + 1) (ints .i64 wait ++ [.int .i64 x])) (hf : Fr w w1 [vw.ownBlock]) :
  NodesAt (w1.setCell ⟨h, 1, none⟩ (.slice (some ⟨g, 0, none⟩) (wait.length + 1) cap)) h va (.slice (some ⟨g, 0, none⟩) (wait.length + 1) cap) n flat (wait ++ [x]) ∧ Fr w (w1.setCell ⟨h, 1, none⟩ (.slice (some ⟨g, 0, none⟩) (wait.length + 1) cap)) [some h, va.ownBlock, vw.ownBlock] := by
 have hW1 : w1.heap[h]? = some (.cells #[va, vw] 192 (0, 0)) := (hf.block h H.lt (fun o ho e => by
  simp only [List.mem_cons, List.not_mem_nil, or_false] at ho
  subst ho
  exact H.wh h e rfl)).trans H.at'
 have FB : Fr w (w1.setCell ⟨h, 1, none⟩ (.slice (some ⟨g, 0, none⟩) (wait.length + 1) cap)) [some h, vw.ownBlock] := (hf.mono (fun o ho => by simp at ho ⊢; exact .inr ho)).set _ _ (.inl (by simp))
 refine ⟨⟨heap_setCell_same w1 h 1 _ _ _ hW1, ?_, ?_⟩, FB.mono (fun o ho => by simp at ho ⊢; rcases ho with h1 | h1 <;> simp [h1])⟩
 ·refine own_fr H.all FB (fun o ho => ?_)
  simp only [List.mem_cons, List.not_mem_nil, or_false] at ho
  rcases ho with rfl | rfl
  ·exact H.ah
  ·exact H.aw
 ·have h9 := own_fr hown ((Fr.refl w1 [some h]).set ⟨h, 1, none⟩ (Value.slice (some ⟨g, 0, none⟩) (wait.length + 1) cap) (.inl (by simp))) (fun o ho => by
   simp only [List.mem_cons, List.not_mem_nil, or_false] at ho
   subst ho
   exact own_apart hW1 (by decide) hown)
  rw [List.length_append, ints_append]
  exact h9
theorem NodesAt.noded {w w1 : World} {h n g cap : Nat} {va vw : Value} {flat wait : List Int} {x0 x1 x2 x3 : Int} (H : NodesAt w h va vw n flat wait) (hown : w1.ownsRow 0 194 4 (.slice (some ⟨g, 0, none⟩) (n + 1) cap) (n + 1) (ints .i64 flat ++ [.int .i64 x0, .int .i64 x1, .int .i64 x2, .int .i64 x3])) (hf : Fr w w1 [va.ownBlock]) :
  NodesAt (w1.setCell ⟨h, 0, none⟩ (.slice (some ⟨g, 0, none⟩) (n + 1) cap)) h (.slice (some ⟨g, 0, none⟩) (n + 1) cap) vw (n + 1) (flat ++ [x0, x1, x2, x3]) wait ∧ Fr w (w1.setCell ⟨h, 0, none⟩ (.slice (some ⟨g, 0, none⟩) (n + 1) cap)) [some h, va.ownBlock, vw.ownBlock] := by
 have hW1 : w1.heap[h]? = some (.cells #[va, vw] 192 (0, 0)) := (hf.block h H.lt (fun o ho e => by
  simp only [List.mem_cons, List.not_mem_nil, or_false] at ho
  subst ho
  exact H.ah h e rfl)).trans H.at'
 have FB : Fr w (w1.setCell ⟨h, 0, none⟩ (.slice (some ⟨g, 0, none⟩) (n + 1) cap)) [some h, va.ownBlock] := (hf.mono (fun o ho => by simp at ho ⊢; exact .inr ho)).set _ _ (.inl (by simp))
 refine ⟨⟨heap_setCell_same w1 h 0 _ _ _ hW1, ?_, ?_⟩, FB.mono (fun o ho => by simp at ho ⊢; rcases ho with h1 | h1 <;> simp [h1])⟩
 ·have h9 := own_fr hown ((Fr.refl w1 [some h]).set ⟨h, 0, none⟩ (Value.slice (some ⟨g, 0, none⟩) (n + 1) cap) (.inl (by simp))) (fun o ho => by
   simp only [List.mem_cons, List.not_mem_nil, or_false] at ho
   subst ho
   exact own_apart hW1 (by decide) hown)
  rw [ints_append]
  exact h9
 ·refine own_fr H.wait FB (fun o ho => ?_)
  simp only [List.mem_cons, List.not_mem_nil, or_false] at ho
  rcases ho with rfl | rfl
  ·exact H.wh
  ·exact H.aw.symm
theorem own_raise {w : World} {b B : Nat} {e : TypeId} {size n : Nat} {v : Value} {xs : List Value} (h : w.ownsRow b e size v n xs) (hB : Hi B v.ownBlock) : w.ownsRow B e size v n xs := by
 refine ⟨h.1, ?_⟩
 rcases h.2 with h2 | ⟨g, cap, cur, rfl, _, r⟩
 ·exact .inl h2
 ·exact .inr ⟨g, cap, cur, rfl, hB g rfl, r⟩
def waitLen (h : Nat) (w : World) : Nat := match w.cell? ⟨h, 1, none⟩ with
 | some (.slice _ n _) => n
 | _ => 0
theorem waitLen_of {w : World} {h n : Nat} {va vw : Value} {flat wait : List Int} (H : NodesAt w h va vw n flat wait) : waitLen h w = wait.length := by
 obtain ⟨A, c, rfl⟩ := own_slice H.wait
 unfold waitLen
 rw [H.c1]
theorem elNode : ElT Tryd.prog 190 194 (.agg #[.int .i64 0, .int .i64 0, .int .i64 0, .int .i64 0]) 4 32 := ⟨Tryd.underlying190, by kernel_rfl, rfl, by decide, by decide⟩
end Go.Proofs.YtendohnkhbgfbaaDoor
namespace Go.Proofs.YtendohnkhbgfbaaDoor
open Go.RowKit

theorem Pop_to (h n : Nat) (va vw : Value) (flat wait wait1 : List Int) (a : Int) (w : World) (H : NodesAt w h va vw n flat wait) (hx : ∀ j, j < wait.length → 0 ≤ rd wait j ∧ rd wait j < n) (hn : n ≤ 1000000) (hl : wait.length ≤ 1000000) (h0 : 0 < wait.length) (e1 : rd (popM (ltF' flat) wait) (wait.length - 1) = a) (e2 : wait1 = (popM (ltF' flat) wait).take (wait.length - 1)) :
  Calls Tryd.prog 115 #[nv h] w fun e w' => e = .returned (.iface 3 (.int .i64 a)) ∧ ∃ vw', NodesAt w' h va vw' n flat wait1 ∧ vw'.ownBlock = vw.ownBlock ∧ Fr w w' [some h, vw.ownBlock] := by
 subst e2
 rw [← e1]
 exact Pop_calls h n va vw flat wait w H hx hn hl h0
set_option maxHeartbeats 4000000 in
set_option maxRecDepth 200000 in
theorem once_calls (A : Option Addr) (n cap : Nat) (ws : List Int) (w : World) (hR : Rd w .i64 A n ws) (hn : n ≤ 100000) (hw : ∀ x ∈ ws, 0 ≤ x) (hsum : ws.sum ≤ 4611686018427387904) :
  Calls Tryd.prog 87 #[.slice A n cap] w fun e w' => ∃ v, e = .returned v ∧ w'.ownsRow w.heap.size 3 1 v n (ints .i64 (onceM ws)) ∧ Below w.heap.size w w' := by
 have HR := Lib.hid hR
 have hlen := Lib.hid hR.1
 have Hw := Lib.hid hw
 clear hR hw
 go_enter Tryd.func87, Tryd.ntmps87
 go_wp2_with (at_make; refine wpList_mk1 (base := w.heap.size) (n := n) _ rfl _ _ rfl elIntN rfl rfl rfl rfl (by omega) (Nat.le_refl _) ?_; intro w4 hown4 hb4 hsz4)
 have Hown4 := Lib.hid hown4
 have Hb4 := Lib.hid hb4
 clear hown4 hb4
 go_loopw [5, 17] (fun x i wr => ∃ (k : Nat) (va vw vs : Value) (flat wait sy : List Int), vs = x ∧ k ≤ n ∧ i = .int .i64 k ∧ Hid (LInv ws k flat sy wait) ∧ Hid (OnceSt w wr (w.heap.size + 1) w.heap.size n n va vw vs sy.length flat wait sy)) (fun _ i _ => n - (intOf i).toNat)
 case atStart =>
  refine ⟨0, .slice none 0 0, .slice none 0 0, .slice none 0 0, [], [], [], rfl, by omega, rfl, LInv.start ws, ?_⟩
  have hs4 := Hb4.out.size
  rw [← hsz4]
  refine ⟨⟨heap_alloc_new _ _, World.ownsRow_nil _ _ _ _, World.ownsRow_nil _ _ _ _⟩, (own_base0 Hown4.out).alloc _, World.ownsRow_nil _ _ _ _, below_new Hb4.out (Nat.le_refl _) _, hs4, Nat.le_refl _, ?_, ?_, ?_, ?_, ?_, ?_⟩
  all_goals (intro k hk; simp [Value.ownBlock] at hk)
 case round =>
  obtain ⟨k, va, vw, vs, flat, wait, sy, rfl, hk, rfl, HL, HS⟩ := hrel
  have hsyl : sy.length ≤ n := by
   have h1 := posTo_le ws k
   have h2 : sy.length = (posTo ws k).length := by rw [HL.out.syE]; simp
   omega
  have hwl : wait.length = sy.length := by rw [HL.out.wtE]; simp
  have hwn : wait.length ≤ n := by omega
  have Hwl := Lib.hid hwl
  clear hwl
  by_cases hlt : k < n
  ·obtain ⟨b, o, rfl, hcx⟩ := HR.out.2 (by omega)
   have z := kept_cell HS.out.bel (hcx k hlt)
   clear hcx
   by_cases hx : 0 < rd ws k
   ·have c0 := HS.out.nodes.c0
    have c1 := HS.out.nodes.c1
    have f0 := HS.out.nodes.frozen 0
    have f1 := HS.out.nodes.frozen 1
    have hh1 := HS.out.nodes.lt
    obtain ⟨A1, p1, rfl⟩ := own_slice HS.out.nodes.all
    obtain ⟨A2, p2, rfl⟩ := own_slice HS.out.nodes.wait
    obtain ⟨i0, hi0, hz0, hz1, hz2⟩ := info_parts elIntN.info
    have Hne := Lib.hid HS.out.nodes.wh
    go_upto_region 8 with fail
    go_cut [] from 24 to 37 (fun wx => ∃ vw', Hid (OnceSt w wx (w.heap.size + 1) w.heap.size n n (.slice A1 sy.length p1) vw' vs sy.length flat (wait ++ [(sy.length : Int)]) sy))
    case first =>
     go_region_law
      ((refine step_append_lies _ (by rfl) _ _ _ (by rfl) 0 3 i0 (.int .i64 0) 1 8 elIntN.und hi0 hz0 hz1 hz2 rfl (by omega) (.slice A2 wait.length p2) wait.length _ (by rfl) (HS.out.nodes.wait.alloc _) ⟨wr.heap.size, 0, none⟩ 1 1 [.int .i64 sy.length] (by rfl) rfl (news_at _ _ _) (by simp [Value.oneCell']) (by omega) (by unfold maxLen; omega) (by omega) (Nat.zero_le _) (wr.heap.size + 1) (by simp) ?_; intro g cap w1 hown1 hgrow hat hlt; have q1 := hgrow.cell (kept_new c1 _) (fun e => Hne.out (w.heap.size + 1) e.symm rfl); have q2 := (hgrow.frozen_far ⟨w.heap.size + 1, 1, none⟩ (by simp; omega) (fun e => Hne.out (w.heap.size + 1) e.symm rfl)).trans (kept_new_f f1 hh1 _)))
     all_goals
      go_wp2
      go_meet
      have FA : Fr wr w1 [(Value.slice A2 wait.length p2).ownBlock] := ((Fr.refl wr _).alloc _ |>.drew).trans (Fr.ofGrown hgrow) (fun o ho => .inl ho)
      obtain ⟨hN, hF⟩ := HS.out.nodes.pushed hown1 FA
      exact ⟨_, HS.out.turn hN hF (.inl rfl) (hat.elim (fun e => .inl e.symm) (fun e => .inr (fun k hk => by simp [Value.ownBlock] at hk; omega)))⟩
    case rest =>
     obtain ⟨vw', HS2⟩ := hcut
     clear c0 c1 f0 f1 z hh1 hi0 hz0 hz1 hz2 HS Hne
     have c0 := HS2.out.nodes.c0
     have f0 := HS2.out.nodes.frozen 0
     have hh1 := HS2.out.nodes.lt
     obtain ⟨i1, hi0, hz0, hz1, hz2⟩ := info_parts elNode.info
     have Hne := Lib.hid HS2.out.nodes.ah
     go_upto_region 9 with fail
     go_cut [] from 38 to 53 (fun wx => ∃ va', Hid (OnceSt w wx (w.heap.size + 1) w.heap.size n n va' vw' vs (sy.length + 1) (flat ++ [rd ws k, (sy.length : Int), -1, -1]) (wait ++ [(sy.length : Int)]) sy))
     case first =>
      rename_i wq _
      go_region_law
       ((refine step_append_lies _ (by rfl) _ _ _ (by rfl) 0 194 i1 (.agg #[.int .i64 0, .int .i64 0, .int .i64 0, .int .i64 0]) 4 32 elNode.und hi0 hz0 hz1 hz2 rfl (by omega) (.slice A1 sy.length p1) sy.length _ (by rfl) (HS2.out.nodes.all.alloc _) ⟨_, 0, none⟩ 1 1 [.int .i64 (rd ws k), .int .i64 sy.length, .int .i64 (-1), .int .i64 (-1)] (by rfl) rfl (news_at _ _ _) (by simp [Value.oneCell']) (by omega) (by unfold maxLen; omega) (by omega) (Nat.zero_le _) _ rfl ?_; intro g cap w1 hown1 hgrow hat hlt; have q1 := hgrow.cell (kept_new c0 _) (fun e => Hne.out (w.heap.size + 1) e.symm rfl); have q2 := (hgrow.frozen_far ⟨w.heap.size + 1, 0, none⟩ (by simp; omega) (fun e => Hne.out (w.heap.size + 1) e.symm rfl)).trans (kept_new_f f0 hh1 _)))
      all_goals
       go_wp2
       go_meet
       have FA := ((Fr.refl _ [(Value.slice A1 sy.length p1).ownBlock]).alloc _ |>.drew).trans (Fr.ofGrown hgrow) (fun o ho => .inl ho)
       obtain ⟨hN, hF⟩ := HS2.out.nodes.noded hown1 FA
       exact ⟨_, HS2.out.turn hN hF (hat.elim (fun e => .inl e.symm) (fun e => .inr (fun k hk => by simp [Value.ownBlock] at hk e; omega))) (.inl rfl)⟩
     case rest =>
      obtain ⟨va', HS3⟩ := hcut
      clear c0 f0 hh1 hi0 hz0 hz1 hz2 HS2 Hne
      obtain ⟨A3, p3, rfl⟩ := own_slice HS3.out.syms
      go_wp2_with (at_builtin; refine wpList_app3 rfl _ _ rfl elIntN HS3.out.syms rfl rfl rfl rfl rfl (by omega) (Nat.zero_le _) ?_; intro g cap w1 hown1 hfr hat hlt)
      go_roundw
      case rel =>
       have HL2 := HL.out.hit hx
       refine ⟨k + 1, va', vw', .slice (some ⟨g, 0, none⟩) (sy.length + 1) cap, _, _, _, rfl, by omega, by go_num, HL2, ?_⟩
       rw [List.length_append]
       refine HS3.out.grow ?_ hfr (hat.elim (fun e => .inl e.symm) (fun e => .inr (fun k hk => by simp [Value.ownBlock] at hk; omega)))
       rw [List.length_append, ints_append]
       exact hown1
      case measure => simp [intOf]; omega
   ·go_wp2
    go_roundw
    case rel => exact ⟨k + 1, va, vw, vs, flat, wait, sy, rfl, by omega, by go_num, HL.out.miss hx, HS.out⟩
    case measure => simp [intOf]; omega
  ·obtain rfl : k = n := by omega
   have c0 := HS.out.nodes.c0
   have HLn : Hid (LInv ws ws.length flat sy wait) := by rw [hlen.out]; exact HL.out
   obtain ⟨A1, p1, rfl⟩ := own_slice HS.out.nodes.all
   by_cases h0 : sy.length = 0
   ·have hnil : onceM ws = List.replicate k 0 := by
     have h2 : (posTo ws ws.length).length = 0 := by have := HLn.out.syE; rw [this] at h0; simpa using h0
     apply List.ext_getElem (by rw [onceM_length, List.length_replicate, hlen.out])
     intro s q1 q2
     have : depIn (rootOf ws) s = none := by
      rw [depIn_none, (rootOf_syms ws).mem_iff, List.length_eq_zero_iff.1 h2]
      simp
     simp [onceM, this]
    have Hnil := Lib.hid hnil
    clear hnil
    go_wp2
    go_ret
    refine ⟨_, rfl, ?_, HS.out.bel⟩
    rw [Hnil.out]
    exact own_raise HS.out.out (fun k hk => by simp [Value.ownBlock] at hk; omega)
   ·have hwr : ∀ j, j < wait.length → 0 ≤ rd wait j ∧ rd wait j < (sy.length : Int) := fun j hj => by
     rw [rd_getElem hj]
     have e : wait[j] = (j : Int) := by simp [HL.out.wtE]
     rw [e]
     have := Hwl.out
     omega
    have Hwr := Lib.hid hwr
    clear hwr
    go_wp2_with fail
    refine (Init_calls (w.heap.size + 1) sy.length _ vw flat wait _ HS.out.nodes Hwr.out (by omega) (by omega)).mono ?_
    rintro e w5 ⟨rfl, hN5, hf5⟩
    have hHS5 := HS.out.turn hN5 (hf5.mono (fun o ho => by simp at ho ⊢; simp [ho])) (.inl rfl) (.inl rfl)
    obtain ⟨I1, I2⟩ := initM_spec (ltF_ord flat) wait.length (wait.length / 2) wait rfl (heapOn_half _ _ _)
    obtain ⟨L0, hM0⟩ := HLn.out.merge Hw.out (by omega) I2 (by rw [I2.length_eq]; exact I1)
    have HM0 := Lib.hid hM0
    have HS5 := Lib.hid hHS5
    clear hN5 hf5 hHS5 I1 I2 hM0 HS HL Hwl Hwr h0 hwn hsyl c0
    go_wp2
    go_loopw [] (fun wr => ∃ (f N : Nat) (L : List (Nat × HT)) (va vw : Value) (flat wait : List Int), Hid (MInv ws f L N flat sy wait) ∧ Hid (OnceSt w wr (w.heap.size + 1) w.heap.size k k va vw vs N flat wait sy)) (fun wr => waitLen (w.heap.size + 1) wr)
    case atStart => exact ⟨_, _, L0, _, _, _, _, HM0.out, HS5.out⟩
    case round =>
     obtain ⟨f, N, L, va, vw, flat, wait, HM, HS⟩ := hrel
     have hcnt := HM.out.cnt
     have hwL := HM.out.wlen
     have hpos := HM.out.pos
     have hwl2 : wait.length ≤ 200000 := by have := hlen.out; omega
     have hN2 : N ≤ 200000 := by have := hlen.out; omega
     clear hcnt hwL
     by_cases h1 : 1 < wait.length
     ·obtain ⟨a, b, f', L', wait1, wait2, e1, e2, e3, e4, e5, e6, e7, ha, hb, r1, r2, s0, sa, sb, ss, e8, HM2⟩ := HM.out.step h1
      have E1 := Lib.hid e1
      have E2 := Lib.hid e2
      have E3 := Lib.hid e3
      have E4 := Lib.hid e4
      have E5 := Lib.hid e5
      have E6 := Lib.hid e6
      have E7 := Lib.hid e7
      have E8 := Lib.hid e8
      have R1 := Lib.hid r1
      have R2 := Lib.hid r2
      have HM2 := Lib.hid HM2
      have hl1 : 0 < wait1.length := by omega
      have hl2 : wait1.length ≤ 200000 := by omega
      clear e1 e2 e3 e4 e5 e6 e7 e8 r1 r2
      go_wp2_with fail
      refine (Len_calls (w.heap.size + 1) N va vw flat wait _ HS.out.nodes).mono ?_
      rintro e w2 ⟨rfl, rfl⟩
      have ta : ∀ (W : World) (x : Int), Sem.run Tryd.prog (Instr.typeAssert (.iface 3 (.int .i64 x)) 20 3 false) W = .ok (.int .i64 x) W := fun W x => by kernel_rfl
      go_upto_region 16 with fail
      go_cut [8, 9] (fun x y wx => x = .int .i64 a ∧ y = .int .i64 b ∧ ∃ vw', Hid (OnceSt w wx (w.heap.size + 1) w.heap.size k k va vw' vs N flat wait2 sy))
      case first =>
       go_region_held3 (fun _ => True) (trivial)
        ((first
         | (go_at_call 115; ((with_reducible refine (Pop_to (w.heap.size + 1) N va vw flat wait wait1 a _ (HS.out.keep (Below.refl _ _).drew).nodes HM.out.rng (by omega) (by omega) (by omega) E3.out E2.out).mono ?_)); rintro e w5 ⟨rfl, vw2, hN5, hat5, hf5⟩)
         | (go_at_call 115; ((with_reducible refine (Pop_to (w.heap.size + 1) N va vw2 flat wait1 wait2 b _ hN5 R1.out (by omega) (by omega) hl1 E6.out E5.out).mono ?_)); rintro e w6 ⟨rfl, vw3, hN6, hat6, hf6⟩)))
       all_goals
        go_wp2
        go_meet
        refine ⟨rfl, rfl, vw3, ?_⟩
        have hf7 : Fr wr w6 [some (w.heap.size + 1), vw.ownBlock] := (((Fr.refl wr _).drew).sub hf5 (fun o ho => ho)).sub hf6 (fun o ho => by rw [hat5] at ho; exact ho)
        have hf8 : Fr wr w6 [some (w.heap.size + 1), va.ownBlock, vw.ownBlock] := hf7.mono (fun o ho => by simp at ho ⊢; rcases ho with h | h <;> simp [h])
        exact HS.out.turn hN6 hf8 (.inl rfl) (.inl (hat6.trans hat5))
      case rest =>
       obtain ⟨rfl, rfl, vw3, HS3⟩ := hcut
       have c0 := HS3.out.nodes.c0
       have f0 := HS3.out.nodes.frozen 0
       have hh1 := HS3.out.nodes.lt
       have hfl : flat.length = N * 4 := HM.out.len
       obtain ⟨ga, ca, rfl, _, _, hca, hacell, _⟩ := own_form HS3.out.nodes.all (by omega)
       have xa := hacell (a * 4) _ (ints_get (by omega))
       have xb := hacell (b * 4) _ (ints_get (by omega))
       have sw : IntKind.i64.wrap (rd flat (a * 4) + rd flat (b * 4)) = rd flat (a * 4) + rd flat (b * 4) := IntWalk.i64_in _ (by omega)
       obtain ⟨i1, hi0, hz0, hz1, hz2⟩ := info_parts elNode.info
       have Hne := Lib.hid HS3.out.nodes.ah
       clear hacell hfl
       go_upto_region 17 with fail
       go_cut [] (fun wx => ∃ va', Hid (OnceSt w wx (w.heap.size + 1) w.heap.size k k va' vw3 vs (N + 1) (flat ++ [rd flat (a * 4) + rd flat (b * 4), (N : Int), (a : Int), (b : Int)]) wait2 sy))
       case first =>
        refine wp_region_last (n := 34) (on := ⟨_, _, _, _, _, _⟩) (S := fun W => W.cell? ⟨w.heap.size + 1, 0, none⟩ = some (.slice (some ⟨ga, 0, none⟩) N ca)) (by kernel_rfl) rfl (by kernel_rfl) (c0) (fun hHeld => ?_)
        refine' wpAnyH_take (i := 0) (oi := ⟨_, _, _, _, _, _⟩) rfl (by kernel_rfl) (by kernel_rfl) (by kernel_rfl) (fun _ _ _ h => h) (Or.inl ⟨by rfl, ?a0⟩) (by assumption) ?b0
        case a0 => (intro w hSw; (try dsimp only at hSw); go_simp; try with_reducible rfl)
        try simp only [Act.put, List.setIfInBounds_toArray, List.set_cons_zero, List.set_cons_succ]
        refine' wpAnyH_take (i := 1) (oi := ⟨_, _, _, _, _, _⟩) rfl (by kernel_rfl) (by kernel_rfl) (by kernel_rfl) (fun _ _ _ h => h) (Or.inl ⟨by rfl, ?a1⟩) (by assumption) ?b1
        case a1 => (intro w hSw; (try dsimp only at hSw); go_simp; try with_reducible rfl)
        try simp only [Act.put, List.setIfInBounds_toArray, List.set_cons_zero, List.set_cons_succ]
        refine' wpAnyH_take (i := 2) (oi := ⟨_, _, _, _, _, _⟩) rfl (by kernel_rfl) (by kernel_rfl) (by kernel_rfl) (fun _ _ _ h => h) (Or.inl ⟨by rfl, ?a2⟩) (by assumption) ?b2
        case a2 => (intro w hSw; (try dsimp only at hSw); go_simp; try with_reducible rfl)
        try simp only [Act.put, List.setIfInBounds_toArray, List.set_cons_zero, List.set_cons_succ]
        refine' wpAnyH_take (i := 3) (oi := ⟨_, _, _, _, _, _⟩) rfl (by kernel_rfl) (by kernel_rfl) (by kernel_rfl) (fun _ _ _ h => h) (Or.inl ⟨by rfl, ?a3⟩) (by assumption) ?b3
        case a3 => (intro w hSw; (try dsimp only at hSw); go_simp; try with_reducible rfl)
        try simp only [Act.put, List.setIfInBounds_toArray, List.set_cons_zero, List.set_cons_succ]
        refine' wpAnyH_take (i := 4) (oi := ⟨_, _, _, _, _, _⟩) rfl (by kernel_rfl) (by kernel_rfl) (by kernel_rfl) (fun _ _ _ h => h) (Or.inl ⟨by rfl, ?a4⟩) (by assumption) ?b4
        case a4 => (intro w hSw; (try dsimp only at hSw); go_simp; try with_reducible rfl)
        try simp only [Act.put, List.setIfInBounds_toArray, List.set_cons_zero, List.set_cons_succ]
        refine' wpAnyH_take (i := 5) (oi := ⟨_, _, _, _, _, _⟩) rfl (by kernel_rfl) (by kernel_rfl) (by kernel_rfl) (fun _ _ _ h => h) (Or.inl ⟨by rfl, ?a5⟩) (by assumption) ?b5
        case a5 => (intro w hSw; (try dsimp only at hSw); go_simp; try with_reducible rfl)
        try simp only [Act.put, List.setIfInBounds_toArray, List.set_cons_zero, List.set_cons_succ]
        refine' wpAnyH_take (i := 6) (oi := ⟨_, _, _, _, _, _⟩) rfl (by kernel_rfl) (by kernel_rfl) (by kernel_rfl) (fun _ _ _ h => h) (Or.inl ⟨by rfl, ?a6⟩) (by assumption) ?b6
        case a6 => (intro w hSw; (try dsimp only at hSw); go_simp; try with_reducible rfl)
        try simp only [Act.put, List.setIfInBounds_toArray, List.set_cons_zero, List.set_cons_succ]
        refine' wpAnyH_take (i := 7) (oi := ⟨_, _, _, _, _, _⟩) rfl (by kernel_rfl) (by kernel_rfl) (by kernel_rfl) (fun _ _ _ h => h) (Or.inl ⟨by rfl, ?a7⟩) (by assumption) ?b7
        case a7 => (intro w hSw; (try dsimp only at hSw); go_simp; try with_reducible rfl)
        try simp only [Act.put, List.setIfInBounds_toArray, List.set_cons_zero, List.set_cons_succ]
        refine' wpAnyH_take (i := 8) (oi := ⟨_, _, _, _, _, _⟩) rfl (by kernel_rfl) (by kernel_rfl) (by kernel_rfl) (fun _ _ _ h => h) (Or.inl ⟨by rfl, ?a8⟩) (by assumption) ?b8
        case a8 => (intro w hSw; (try dsimp only at hSw); go_simp; try with_reducible rfl)
        try simp only [Act.put, List.setIfInBounds_toArray, List.set_cons_zero, List.set_cons_succ]
        refine' wpAnyH_take (i := 9) (oi := ⟨_, _, _, _, _, _⟩) rfl (by kernel_rfl) (by kernel_rfl) (by kernel_rfl) (fun _ _ _ h => h) (Or.inl ⟨by rfl, ?a9⟩) (by assumption) ?b9
        case a9 => (intro w hSw; (try dsimp only at hSw); go_simp; try with_reducible rfl)
        try simp only [Act.put, List.setIfInBounds_toArray, List.set_cons_zero, List.set_cons_succ]
        refine' wpAnyH_take (i := 10) (oi := ⟨_, _, _, _, _, _⟩) rfl (by kernel_rfl) (by kernel_rfl) (by kernel_rfl) (fun _ _ _ h => h) (Or.inl ⟨by rfl, ?a10⟩) (by assumption) ?b10
        case a10 => (intro w hSw; (try dsimp only at hSw); go_simp; try with_reducible rfl)
        try simp only [Act.put, List.setIfInBounds_toArray, List.set_cons_zero, List.set_cons_succ]
        refine' wpAnyH_take (i := 11) (oi := ⟨_, _, _, _, _, _⟩) rfl (by kernel_rfl) (by kernel_rfl) (by kernel_rfl) (fun _ _ _ h => h) (Or.inl ⟨by rfl, ?a11⟩) (by assumption) ?b11
        case a11 => (intro w hSw; (try dsimp only at hSw); go_simp; try with_reducible rfl)
        try simp only [Act.put, List.setIfInBounds_toArray, List.set_cons_zero, List.set_cons_succ]
        refine' wpAnyH_take (i := 13) (oi := ⟨_, _, _, _, _, _⟩) rfl (by kernel_rfl) (by kernel_rfl) (by kernel_rfl) (fun _ _ _ h => h) (Or.inl ⟨by rfl, ?a12⟩) (by assumption) ?b12
        case a12 => (intro w hSw; (try dsimp only at hSw); go_simp; try with_reducible rfl)
        try simp only [Act.put, List.setIfInBounds_toArray, List.set_cons_zero, List.set_cons_succ]
        refine' wpAnyH_take (i := 14) (oi := ⟨_, _, _, _, _, _⟩) rfl (by kernel_rfl) (by kernel_rfl) (by kernel_rfl) (fun _ _ _ h => h) (Or.inl ⟨by rfl, ?a13⟩) (by assumption) ?b13
        case a13 => (intro w hSw; (try dsimp only at hSw); go_simp; try with_reducible rfl)
        try simp only [Act.put, List.setIfInBounds_toArray, List.set_cons_zero, List.set_cons_succ]
        refine' wpAnyH_take (i := 15) (oi := ⟨_, _, _, _, _, _⟩) rfl (by kernel_rfl) (by kernel_rfl) (by kernel_rfl) (fun _ _ _ h => h) (Or.inl ⟨by rfl, ?a14⟩) (by assumption) ?b14
        case a14 => (intro w hSw; (try dsimp only at hSw); go_simp; try with_reducible rfl)
        try simp only [Act.put, List.setIfInBounds_toArray, List.set_cons_zero, List.set_cons_succ]
        refine' wpAnyH_take (i := 16) (oi := ⟨_, _, _, _, _, _⟩) rfl (by kernel_rfl) (by kernel_rfl) (by kernel_rfl) (fun _ _ _ h => h) (Or.inl ⟨by rfl, ?a15⟩) (by assumption) ?b15
        case a15 => (intro w hSw; (try dsimp only at hSw); go_simp; try with_reducible rfl)
        try simp only [Act.put, List.setIfInBounds_toArray, List.set_cons_zero, List.set_cons_succ]
        refine' wpAnyH_take (i := 17) (oi := ⟨_, _, _, _, _, _⟩) rfl (by kernel_rfl) (by kernel_rfl) (by kernel_rfl) (fun _ _ _ h => h) (Or.inl ⟨by rfl, ?a16⟩) (by assumption) ?b16
        case a16 => (intro w hSw; (try dsimp only at hSw); go_simp; try with_reducible rfl)
        try simp only [Act.put, List.setIfInBounds_toArray, List.set_cons_zero, List.set_cons_succ]
        refine' wpAnyH_take (i := 18) (oi := ⟨_, _, _, _, _, _⟩) rfl (by kernel_rfl) (by kernel_rfl) (by kernel_rfl) (fun _ _ _ h => h) (Or.inl ⟨by rfl, ?a17⟩) (by assumption) ?b17
        case a17 => (intro w hSw; (try dsimp only at hSw); go_simp; try with_reducible rfl)
        try simp only [Act.put, List.setIfInBounds_toArray, List.set_cons_zero, List.set_cons_succ]
        refine' wpAnyH_take (i := 19) (oi := ⟨_, _, _, _, _, _⟩) rfl (by kernel_rfl) (by kernel_rfl) (by kernel_rfl) (fun _ _ _ h => h) (Or.inl ⟨by rfl, ?a18⟩) (by assumption) ?b18
        case a18 => (intro w hSw; (try dsimp only at hSw); go_simp; try with_reducible rfl)
        try simp only [Act.put, List.setIfInBounds_toArray, List.set_cons_zero, List.set_cons_succ]
        refine' wpAnyH_take (i := 22) (oi := ⟨_, _, _, _, _, _⟩) rfl (by kernel_rfl) (by kernel_rfl) (by kernel_rfl) (fun _ _ _ h => h) (Or.inl ⟨by rfl, ?a19⟩) (by assumption) ?b19
        case a19 => (intro w hSw; (try dsimp only at hSw); go_simp; try with_reducible rfl)
        try simp only [Act.put, List.setIfInBounds_toArray, List.set_cons_zero, List.set_cons_succ]
        refine' wpAnyH_take (i := 23) (oi := ⟨_, _, _, _, _, _⟩) rfl (by kernel_rfl) (by kernel_rfl) (by kernel_rfl) (fun _ _ _ h => h) (Or.inl ⟨by rfl, ?a20⟩) (by assumption) ?b20
        case a20 => (intro w hSw; (try dsimp only at hSw); go_simp; try with_reducible rfl)
        try simp only [Act.put, List.setIfInBounds_toArray, List.set_cons_zero, List.set_cons_succ]
        refine' wpAnyH_take (i := 24) (oi := ⟨_, _, _, _, _, _⟩) rfl (by kernel_rfl) (by kernel_rfl) (by kernel_rfl) (fun _ _ _ h => h) (Or.inl ⟨by rfl, ?a21⟩) (by assumption) ?b21
        case a21 => (intro w hSw; (try dsimp only at hSw); go_simp; try with_reducible rfl)
        try simp only [Act.put, List.setIfInBounds_toArray, List.set_cons_zero, List.set_cons_succ]
        refine' wpAnyH_take (i := 25) (oi := ⟨_, _, _, _, _, _⟩) rfl (by kernel_rfl) (by kernel_rfl) (by kernel_rfl) (fun _ _ _ h => h) (Or.inl ⟨by rfl, ?a22⟩) (by assumption) ?b22
        case a22 => (intro w hSw; (try dsimp only at hSw); go_simp; try with_reducible rfl)
        try simp only [Act.put, List.setIfInBounds_toArray, List.set_cons_zero, List.set_cons_succ]
        refine' wpAnyH_take (i := 26) (oi := ⟨_, _, _, _, _, _⟩) rfl (by kernel_rfl) (by kernel_rfl) (by kernel_rfl) (fun _ _ _ h => h) (Or.inl ⟨by rfl, ?a23⟩) (by assumption) ?b23
        case a23 => (intro w hSw; (try dsimp only at hSw); go_simp; try with_reducible rfl)
        try simp only [Act.put, List.setIfInBounds_toArray, List.set_cons_zero, List.set_cons_succ]
        refine' wpAnyH_take (i := 27) (oi := ⟨_, _, _, _, _, _⟩) rfl (by kernel_rfl) (by kernel_rfl) (by kernel_rfl) (fun _ _ _ h => h) (Or.inl ⟨by rfl, ?a24⟩) (by assumption) ?b24
        case a24 => (intro w hSw; (try dsimp only at hSw); go_simp; try with_reducible rfl)
        try simp only [Act.put, List.setIfInBounds_toArray, List.set_cons_zero, List.set_cons_succ]
        refine' wpAnyH_take (i := 28) (oi := ⟨_, _, _, _, _, _⟩) rfl (by kernel_rfl) (by kernel_rfl) (by kernel_rfl) (fun _ _ _ h => h) (Or.inl ⟨by rfl, ?a25⟩) (by assumption) ?b25
        case a25 => (intro w hSw; (try dsimp only at hSw); go_simp; try with_reducible rfl)
        try simp only [Act.put, List.setIfInBounds_toArray, List.set_cons_zero, List.set_cons_succ]
        refine wpAnyH_ready (rs := [12, 20]) (by kernel_rfl) (by simp) ?_
        refine AllReadyH.cons (o := ⟨_, _, _, _, _, _⟩) rfl (fun K hK => ?_) (AllReadyH.cons (o := ⟨_, _, _, _, _, _⟩) rfl (fun K hK => ?_) AllReadyH.nil)
        ·go_simp
         refine hK.out _ _ (c0) (fun hHeld => ?_)
         clear hK K
         try simp only [Act.put, List.setIfInBounds_toArray, List.set_cons_zero, List.set_cons_succ]
         refine wpAnyH_ready (rs := [20]) (by kernel_rfl) (by simp) ?_
         refine AllReadyH.cons (o := ⟨_, _, _, _, _, _⟩) rfl (fun K hK => ?_) AllReadyH.nil
         go_simp
         refine hK.out _ _ (c0) (fun hHeld => ?_)
         clear hK K
         try simp only [Act.put, List.setIfInBounds_toArray, List.set_cons_zero, List.set_cons_succ]
         refine' wpAnyH_take (i := 21) (oi := ⟨_, _, _, _, _, _⟩) rfl (by kernel_rfl) (by kernel_rfl) (by kernel_rfl) (fun _ _ _ h => h) (Or.inl ⟨by rfl, ?a26⟩) (by assumption) ?b26
         case a26 => (intro w hSw; (try dsimp only at hSw); go_simp; try with_reducible rfl)
         try simp only [Act.put, List.setIfInBounds_toArray, List.set_cons_zero, List.set_cons_succ]
         refine' wpAnyH_take (i := 29) (oi := ⟨_, _, _, _, _, _⟩) rfl (by kernel_rfl) (by kernel_rfl) (by kernel_rfl) (fun _ _ _ h => h) (Or.inl ⟨by rfl, ?a27⟩) (by assumption) ?b27
         case a27 => (intro w hSw; (try dsimp only at hSw); go_simp; try with_reducible rfl)
         try simp only [Act.put, List.setIfInBounds_toArray, List.set_cons_zero, List.set_cons_succ]
         refine wpAnyH_ready (rs := [30]) (by kernel_rfl) (by simp) ?_
         refine AllReadyH.cons (o := ⟨_, _, _, _, _, _⟩) rfl (fun K hK => ?_) AllReadyH.nil
         go_simp
         refine hK.out _ _ (kept_new c0 _) (fun hHeld => ?_)
         clear hK K
         try simp only [Act.put, List.setIfInBounds_toArray, List.set_cons_zero, List.set_cons_succ]
         refine wpAnyH_ready (rs := [31]) (by kernel_rfl) (by simp) ?_
         refine AllReadyH.cons (o := ⟨_, _, _, _, _, _⟩) rfl (fun K hK => ?_) AllReadyH.nil
         refine step_append_lies _ (by rfl) _ _ _ (by rfl) 0 194 i1 (.agg #[.int .i64 0, .int .i64 0, .int .i64 0, .int .i64 0]) 4 32 elNode.und hi0 hz0 hz1 hz2 rfl (by omega) (.slice (some ⟨ga, 0, none⟩) N ca) N _ (by rfl) (HS3.out.nodes.all.alloc _) ⟨_, 0, none⟩ 1 1 [.int .i64 (rd flat (a * 4) + rd flat (b * 4)), .int .i64 N, .int .i64 a, .int .i64 b] (by rfl) rfl (news_at _ _ _) (by simp [Value.oneCell']) (by omega) (by unfold maxLen; omega) (by omega) (Nat.zero_le _) _ rfl ?_
         intro g cap w1 hown1 hgrow hat hlt
         have q1 := hgrow.cell (kept_new c0 _) (fun e => Hne.out (w.heap.size + 1) e.symm rfl)
         have q2 := (hgrow.frozen_far ⟨w.heap.size + 1, 0, none⟩ (by simp; omega) (fun e => Hne.out (w.heap.size + 1) e.symm rfl)).trans (kept_new_f f0 hh1 _)
         refine hK.out _ _ (q1) (fun hHeld => ?_)
         clear hK K
         try simp only [Act.put, List.setIfInBounds_toArray, List.set_cons_zero, List.set_cons_succ]
         refine' wpAnyH_take (i := 32) (oi := ⟨_, _, _, _, _, _⟩) rfl (by kernel_rfl) (by kernel_rfl) (by kernel_rfl) (fun _ _ _ h => h) (Or.inl ⟨by rfl, ?a28⟩) (by assumption) ?b28
         case a28 => (intro w hSw; (try dsimp only at hSw); go_simp; try with_reducible rfl)
         try simp only [Act.put, List.setIfInBounds_toArray, List.set_cons_zero, List.set_cons_succ]
         refine' wpAnyH_take (i := 33) (oi := ⟨_, _, _, _, _, _⟩) rfl (by kernel_rfl) (by kernel_rfl) (by kernel_rfl) (fun _ _ _ h => h) (Or.inl ⟨by rfl, ?a29⟩) (by assumption) ?b29
         case a29 => (intro w hSw; (try dsimp only at hSw); go_simp; try with_reducible rfl)
         try simp only [Act.put, List.setIfInBounds_toArray, List.set_cons_zero, List.set_cons_succ]
         refine wpAnyH_done (by kernel_rfl) ?_ _
         change wpList _ _ _ _ _ _
         go_wp2
         go_meet
         have FA := ((Fr.refl _ [(Value.slice (some ⟨ga, 0, none⟩) N ca).ownBlock]).alloc _ |>.drew).trans (Fr.ofGrown hgrow) (fun o ho => .inl ho)
         obtain ⟨hN, hF⟩ := HS3.out.nodes.noded hown1 FA
         exact ⟨_, HS3.out.turn hN hF (hat.elim (fun e => .inl e.symm) (fun e => .inr (fun k hk => by simp [Value.ownBlock] at hk e; omega))) (.inl rfl)⟩
        ·go_simp
         refine hK.out _ _ (c0) (fun hHeld => ?_)
         clear hK K
         try simp only [Act.put, List.setIfInBounds_toArray, List.set_cons_zero, List.set_cons_succ]
         refine wpAnyH_ready (rs := [12]) (by kernel_rfl) (by simp) ?_
         refine AllReadyH.cons (o := ⟨_, _, _, _, _, _⟩) rfl (fun K hK => ?_) AllReadyH.nil
         go_simp
         refine hK.out _ _ (c0) (fun hHeld => ?_)
         clear hK K
         try simp only [Act.put, List.setIfInBounds_toArray, List.set_cons_zero, List.set_cons_succ]
         refine' wpAnyH_take (i := 21) (oi := ⟨_, _, _, _, _, _⟩) rfl (by kernel_rfl) (by kernel_rfl) (by kernel_rfl) (fun _ _ _ h => h) (Or.inl ⟨by rfl, ?a30⟩) (by assumption) ?b30
         case a30 => (intro w hSw; (try dsimp only at hSw); go_simp; try with_reducible rfl)
         try simp only [Act.put, List.setIfInBounds_toArray, List.set_cons_zero, List.set_cons_succ]
         refine' wpAnyH_take (i := 29) (oi := ⟨_, _, _, _, _, _⟩) rfl (by kernel_rfl) (by kernel_rfl) (by kernel_rfl) (fun _ _ _ h => h) (Or.inl ⟨by rfl, ?a31⟩) (by assumption) ?b31
         case a31 => (intro w hSw; (try dsimp only at hSw); go_simp; try with_reducible rfl)
         try simp only [Act.put, List.setIfInBounds_toArray, List.set_cons_zero, List.set_cons_succ]
         refine wpAnyH_ready (rs := [30]) (by kernel_rfl) (by simp) ?_
         refine AllReadyH.cons (o := ⟨_, _, _, _, _, _⟩) rfl (fun K hK => ?_) AllReadyH.nil
         go_simp
         refine hK.out _ _ (kept_new c0 _) (fun hHeld => ?_)
         clear hK K
         try simp only [Act.put, List.setIfInBounds_toArray, List.set_cons_zero, List.set_cons_succ]
         refine wpAnyH_ready (rs := [31]) (by kernel_rfl) (by simp) ?_
         refine AllReadyH.cons (o := ⟨_, _, _, _, _, _⟩) rfl (fun K hK => ?_) AllReadyH.nil
         refine step_append_lies _ (by rfl) _ _ _ (by rfl) 0 194 i1 (.agg #[.int .i64 0, .int .i64 0, .int .i64 0, .int .i64 0]) 4 32 elNode.und hi0 hz0 hz1 hz2 rfl (by omega) (.slice (some ⟨ga, 0, none⟩) N ca) N _ (by rfl) (HS3.out.nodes.all.alloc _) ⟨_, 0, none⟩ 1 1 [.int .i64 (rd flat (a * 4) + rd flat (b * 4)), .int .i64 N, .int .i64 a, .int .i64 b] (by rfl) rfl (news_at _ _ _) (by simp [Value.oneCell']) (by omega) (by unfold maxLen; omega) (by omega) (Nat.zero_le _) _ rfl ?_
         intro g cap w1 hown1 hgrow hat hlt
         have q1 := hgrow.cell (kept_new c0 _) (fun e => Hne.out (w.heap.size + 1) e.symm rfl)
         have q2 := (hgrow.frozen_far ⟨w.heap.size + 1, 0, none⟩ (by simp; omega) (fun e => Hne.out (w.heap.size + 1) e.symm rfl)).trans (kept_new_f f0 hh1 _)
         refine hK.out _ _ (q1) (fun hHeld => ?_)
         clear hK K
         try simp only [Act.put, List.setIfInBounds_toArray, List.set_cons_zero, List.set_cons_succ]
         refine' wpAnyH_take (i := 32) (oi := ⟨_, _, _, _, _, _⟩) rfl (by kernel_rfl) (by kernel_rfl) (by kernel_rfl) (fun _ _ _ h => h) (Or.inl ⟨by rfl, ?a32⟩) (by assumption) ?b32
         case a32 => (intro w hSw; (try dsimp only at hSw); go_simp; try with_reducible rfl)
         try simp only [Act.put, List.setIfInBounds_toArray, List.set_cons_zero, List.set_cons_succ]
         refine' wpAnyH_take (i := 33) (oi := ⟨_, _, _, _, _, _⟩) rfl (by kernel_rfl) (by kernel_rfl) (by kernel_rfl) (fun _ _ _ h => h) (Or.inl ⟨by rfl, ?a33⟩) (by assumption) ?b33
         case a33 => (intro w hSw; (try dsimp only at hSw); go_simp; try with_reducible rfl)
         try simp only [Act.put, List.setIfInBounds_toArray, List.set_cons_zero, List.set_cons_succ]
         refine wpAnyH_done (by kernel_rfl) ?_ _
         change wpList _ _ _ _ _ _
         go_wp2
         go_meet
         have FA := ((Fr.refl _ [(Value.slice (some ⟨ga, 0, none⟩) N ca).ownBlock]).alloc _ |>.drew).trans (Fr.ofGrown hgrow) (fun o ho => .inl ho)
         obtain ⟨hN, hF⟩ := HS3.out.nodes.noded hown1 FA
         exact ⟨_, HS3.out.turn hN hF (hat.elim (fun e => .inl e.symm) (fun e => .inr (fun k hk => by simp [Value.ownBlock] at hk e; omega))) (.inl rfl)⟩
       case rest =>
        obtain ⟨va4, HS4⟩ := hcut
        have c4 := HS4.out.nodes.c0
        obtain ⟨A4, p4, rfl⟩ := own_slice HS4.out.nodes.all
        have s9 : ((N + 1 : Nat) : Int) - 1 = N := by omega
        go_wp2_with fail
        clear s9
        have h4 := HM2.out.wlen
        refine (Push_calls (w.heap.size + 1) (N + 1) N _ vw3 _ wait2 _ HS4.out.nodes (fun j hj => by have := R2.out j hj; omega) (by omega) (by omega) (by omega) (by have := E7.out; omega)).mono ?_
        rintro e w7 ⟨rfl, vw5, hN7, hat7, hf7⟩
        have HS7 := Lib.hid (HS4.out.turn hN7 (hf7.mono (fun o ho => by simp at ho ⊢; rcases ho with h | h <;> simp [h])) (.inl rfl) hat7)
        have hme1 := waitLen_of HS.out.nodes
        have hme2 := waitLen_of hN7
        have Hme1 := Lib.hid hme1
        have Hme2 := Lib.hid hme2
        clear hN7 hat7 hf7 h4 hme1 hme2
        go_wp2
        go_roundw
        case rel => exact ⟨f', N + 1, L', _, _, _, _, HM2.out, HS7.out⟩
        case measure =>
         rw [Hme1.out, Hme2.out]
         have h5 := HM2.out.wlen
         have h6 := E8.out
         have h7 := HM.out.wlen
         show List.length (pushM (ltF' _) _ _) < _
         omega
     ·have h1' : wait.length = 1 := by have := HM.out.wlen; omega
      obtain ⟨i, root, e1, e2, e3, e4⟩ := HM.out.fin h1'
      have c1 := HS.out.nodes.c1
      obtain ⟨gw, cw, rfl, _, _, hcw, hcell, _⟩ := own_form HS.out.nodes.wait (by omega)
      have wz := hcell 0 _ (ints_get (by omega))
      rw [e1] at wz
      have hlen1 : ¬ (1 : Int) < wait.length := by omega
      have hlen0 : 0 < wait.length := by omega
      have E3 := Lib.hid e3
      have E4 := Lib.hid e4
      clear e1 e3 e4 hcell h1'
      go_wp2_with fail
      refine (Len_calls (w.heap.size + 1) N va _ flat wait _ HS.out.nodes).mono ?_
      rintro e w2 ⟨rfl, rfl⟩
      go_wp2_with fail
      obtain ⟨A3, p3, rfl, hp3, hrd⟩ := own_rd HS.out.syms
      have hSb : ∀ b o, A3 = some ⟨b, o, none⟩ → b ≠ w.heap.size := fun b o e e2 => by
       subst e
       exact HS.out.a2 b rfl (by rw [e2])
      have hsy2 : ∀ s ∈ root.syms, s < k := fun s hs => by
       have h1 := (rootOf_syms ws).mem_iff (a := s)
       rw [E3.out] at h1
       have h2 := (mem_posTo.1 (h1.1 (by simpa using hs))).1
       rw [hlen.out] at h2
       exact h2
      refine (depths_calls (w.heap.size + 1) N w.heap.size k k va _ A3 sy.length p3 flat wait sy (by omega) HS.out.hb hSb root i 0 (List.replicate k 0) _ HS.out.nodes HS.out.ab HS.out.a1 HS.out.out hrd e2 E4.out hsy2 (by omega)).mono ?_
      rintro e w7 ⟨rfl, hO, hF⟩
      have hW := writeD_once ws root E3.out
      rw [hlen.out] at hW
      rw [hW] at hO
      have HO := Lib.hid hO
      have HF := Lib.hid hF
      clear hO hF hW hrd hSb hsy2
      go_wp2
      go_ret
      exact ⟨_, rfl, own_raise HO.out (fun k hk => by simp [Value.ownBlock] at hk; omega), HS.out.bel.trans (HF.out.below HS.out.bel.size (fun o ho j e => by simp at ho; subst ho; cases e; exact Nat.le_refl _))⟩
end Go.Proofs.YtendohnkhbgfbaaDoor
