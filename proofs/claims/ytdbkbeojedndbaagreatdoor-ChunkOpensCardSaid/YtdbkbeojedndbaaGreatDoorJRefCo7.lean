/-
  Texts joined into one file: Wr.
-/
import Derived.Test.YtdbkbeojedndbaaGreatDoorJRefCo6
import Derived.Test.YtdbkbeojedndbaaGreatDoorJRefCo5
namespace Go.Proofs.YtdbkbeojedndbaaGreatDoor
open Go.RowKit

structure WrAt (w : World) (B h : Nat) (L : List Int) (v : Value) : Prop where
 at' : w.heap[h]? = some (.cells #[v, .int .i64 ((8 * ((L.length + 7) / 8) - L.length : Nat) : Int)] 82 (0, 0))
 own : w.ownsRow B 5 1 v ((L.length + 7) / 8) (ints .u8 (packB L))
 bit : Bit01 L
theorem WrAt.lt {w : World} {B h : Nat} {L : List Int} {v : Value} (H : WrAt w B h L v) : h < w.heap.size := (Array.getElem?_eq_some_iff.1 H.at').1
theorem WrAt.c0 {w : World} {B h : Nat} {L : List Int} {v : Value} (H : WrAt w B h L v) : w.cell? ⟨h, 0, none⟩ = some v := by rw [cell_of_row w h 0 _ _ (0, 0) H.at']; rfl
theorem WrAt.c1 {w : World} {B h : Nat} {L : List Int} {v : Value} (H : WrAt w B h L v) : w.cell? ⟨h, 1, none⟩ = some (.int .i64 ((8 * ((L.length + 7) / 8) - L.length : Nat) : Int)) := by rw [cell_of_row w h 1 _ _ (0, 0) H.at']; rfl
theorem WrAt.ap {w : World} {B h : Nat} {L : List Int} {v : Value} (H : WrAt w B h L v) : Apart v.ownBlock (some h) := own_apart H.at' (by decide) H.own
structure WStep (w w' : World) (h : Nat) (v v' : Value) : Prop where
 fr : Fr w w' [some h, v.ownBlock]
 at' : v'.ownBlock = v.ownBlock ∨ ∀ k, v'.ownBlock = some k → w.heap.size ≤ k
theorem WStep.refl (w : World) (h : Nat) (v : Value) : WStep w w h v v := ⟨Fr.refl _ _, .inl rfl⟩
theorem WStep.trans {w w1 w2 : World} {h : Nat} {v v1 v2 : Value} (a : WStep w w1 h v v1) (b : WStep w1 w2 h v1 v2) : WStep w w2 h v v2 := by
 refine ⟨a.fr.trans b.fr (fun o ho => ?_), ?_⟩
 ·simp at ho
  rcases ho with rfl | rfl
  ·exact .inl (by simp)
  ·rcases a.at' with e | e
   ·exact .inl (by simp [e])
   ·exact .inr e
 ·rcases b.at' with e | e
  ·rw [e]; exact a.at'
  ·exact .inr (fun k hk => Nat.le_trans a.fr.size (e k hk))
theorem WStep.below {w w1 w2 : World} {h : Nat} {v v1 : Value} (a : WStep w w1 h v v1) (b : Below w1.heap.size w1 w2) : WStep w w2 h v v1 := ⟨a.fr.trans (Fr.ofBelow b []) (fun _ ho => by simp at ho), a.at'⟩
theorem WStep.after {w w1 w2 : World} {h : Nat} {v v1 : Value} (b : Below w.heap.size w w1) (a : WStep w1 w2 h v v1) : WStep w w2 h v v1 := ⟨(Fr.ofBelow b [some h, v.ownBlock]).trans a.fr (fun _ ho => .inl ho), a.at'.imp id (fun e k hk => Nat.le_trans b.size (e k hk))⟩
theorem WrAt.below {w w1 : World} {B h : Nat} {L : List Int} {v : Value} (H : WrAt w B h L v) (hb : Below w.heap.size w w1) : WrAt w1 B h L v := ⟨(hb.block h H.lt).trans H.at', own_below H.own hb, H.bit⟩
theorem WStep.keepB {w w1 : World} {h B C : Nat} {v v1 : Value} {L : List Int} (a : WStep w w1 h v v1) (H : WrAt w B h L v) (hC : C ≤ B) (hh : C ≤ h) (hw : C ≤ w.heap.size) : Below C w w1 := a.fr.below hw (fun o ho j e => by
 simp at ho
 rcases ho with rfl | rfl
 ·cases e; exact hh
 ·have := (H.own.lt _ e).1; omega)
theorem WStep.row {w w1 : World} {h B : Nat} {v v1 : Value} {L : List Int} (a : WStep w w1 h v v1) (H : WrAt w B h L v) {base n size : Nat} {e : TypeId} {u : Value} {xs : List Value} (ho : w.ownsRow base e size u n xs) (h1 : 82 ≠ e) (h2 : e ≠ 5) : w1.ownsRow base e size u n xs :=
 own_fr ho a.fr (fun o hm => by
  simp at hm
  rcases hm with rfl | rfl
  ·exact own_apart H.at' h1 ho
  ·exact own_apart2 h2 ho H.own)
theorem or_u8_top (x b k : Nat) (hx : x < 2 ^ k) (hb : b ≤ 1) (hk : k < 8) : bits BinOp.or IntKind.u8 (x : Int) ((b * 2 ^ k : Nat) : Int) = ((x + b * 2 ^ k : Nat) : Int) := by
 have hp : (2 : Nat) ^ k ≤ 2 ^ 7 := Nat.pow_le_pow_right (by omega) (by omega)
 have hp2 : (2 : Nat) ^ 7 = 128 := by decide
 have hb2 : b * 2 ^ k ≤ 1 * 2 ^ k := Nat.mul_le_mul_right (2 ^ k) hb
 have h1 : (BitVec.ofInt 8 (x : Int)).toNat = x := by rw [BitVec.ofInt_natCast, BitVec.toNat_ofNat]; exact Nat.mod_eq_of_lt (by omega)
 have h2 : (BitVec.ofInt 8 ((b * 2 ^ k : Nat) : Int)).toNat = b * 2 ^ k := by rw [BitVec.ofInt_natCast, BitVec.toNat_ofNat]; exact Nat.mod_eq_of_lt (by omega)
 show IntKind.u8.wrap ((BitVec.ofInt 8 (x : Int) ||| BitVec.ofInt 8 ((b * 2 ^ k : Nat) : Int)).toNat : Int) = _
 have h := Nat.two_pow_add_eq_or_of_lt hx b
 rw [Nat.mul_comm] at h
 rw [BitVec.toNat_or, h1, h2, Nat.or_comm, ← h, Nat.add_comm]
 exact IntWalk.u8_in _ (by omega)
theorem Fr.kept {w w' : World} {S : List (Option Nat)} (h : Fr w w' S) {a : Addr} {v : Value} (hc : w.cell? a = some v) (ha : ∀ o ∈ S, o ≠ some a.block) : w'.cell? a = some v :=
 (World.cell?_of_block (h.block _ (World.block_lt_of_cell? _ _ hc) ha)).trans hc
theorem wr_fin {W : World} {B h g m cap : Nat} {F F' V : Int} {ys L' : List Int} (hat : W.heap[h]? = some (.cells #[.slice (some ⟨g, 0, none⟩) m cap, .int .i64 F] 82 (0, 0))) (ho : W.ownsRow B 5 1 (.slice (some ⟨g, 0, none⟩) m cap) m (ints .u8 ys)) (j : Nat) (hm : m = (L'.length + 7) / 8) (hF : F' = ((8 * m - L'.length : Nat) : Int)) (hp : packB L' = ys.set j V) (hb : Bit01 L') :
  WrAt ((W.setCell ⟨g, j, none⟩ (.int .u8 V)).setCell ⟨h, 1, none⟩ (.int .i64 F')).drew B h L' (.slice (some ⟨g, 0, none⟩) m cap) ∧ Fr W ((W.setCell ⟨g, j, none⟩ (.int .u8 V)).setCell ⟨h, 1, none⟩ (.int .i64 F')).drew [some h, some g] := by
 have hgh : g ≠ h := fun e => own_apart hat (by decide) ho g rfl (by rw [e])
 have h1 : (W.setCell ⟨g, j, none⟩ (.int .u8 V)).heap[h]? = some (.cells #[.slice (some ⟨g, 0, none⟩) m cap, .int .i64 F] 82 (0, 0)) := (heap_setCell_other W ⟨g, j, none⟩ h _ (fun e => hgh e.symm)).trans hat
 have h2 : ((W.setCell ⟨g, j, none⟩ (.int .u8 V)).setCell ⟨h, 1, none⟩ (.int .i64 F')).heap[h]? = some (.cells #[.slice (some ⟨g, 0, none⟩) m cap, .int .i64 F'] 82 (0, 0)) := heap_setCell_same _ _ _ _ _ _ h1
 refine ⟨⟨?_, ?_, hb⟩, (((Fr.refl W [some h, some g]).set _ _ (.inl (by simp))).set _ _ (.inl (by simp))).drew⟩
 ·rw [← hm, ← hF]; exact h2
 ·rw [← hm, hp, ints_set]
  exact own_fr (own_store ho j (.int .u8 V)) (((Fr.refl _ [some h]).set ⟨h, 1, none⟩ _ (.inl (by simp))).drew) (fun o ho2 => by simp at ho2; subst ho2; exact fun k hk e => by simp [Value.ownBlock] at hk e; omega)
set_option maxHeartbeats 4000000 in
set_option maxRecDepth 100000 in
theorem bit_calls (B h x : Nat) (L : List Int) (v : Value) (w : World) (H : WrAt w B h L v) (hx : x ≤ 1) (hL : L.length ≤ 100000000) (hB : B ≤ w.heap.size) :
  Calls Tryz.prog 69 #[.pointer (some ⟨h, 0, none⟩), .int .u64 x] w fun e w' => ∃ v', e = .returned (.tuple #[]) ∧ WrAt w' B h (L ++ [(x : Int)]) v' ∧ WStep w w' h v v' := by
 have HH := Lib.hid H
 have c0 := H.c0
 have c1 := H.c1
 have f0 := frozen_of_row w h 0 _ _ H.at'
 have f1 := frozen_of_row w h 1 _ _ H.at'
 have hat := H.at'
 have hap := H.ap
 have hlt := H.lt
 have HAp := Lib.hid hap
 obtain ⟨n, hn⟩ : ∃ n, n = (L.length + 7) / 8 := ⟨_, rfl⟩
 have Hn := Lib.hid hn
 rw [← hn] at c1
 obtain ⟨A0, p0, rfl⟩ := own_slice H.own
 rw [← hn] at c0
 have ho := H.own
 rw [← hn] at ho
 have Ho := Lib.hid ho
 rw [← hn] at hat
 have hn1 : n ≤ 20000000 := by omega
 rcases Nat.eq_zero_or_pos (L.length % 8) with h8 | h8
 ·have hfr : 8 * n - L.length = 0 := by omega
  rw [hfr] at c1 hat
  have Hat := Lib.hid hat
  clear hap H hn hfr ho hat
  go_enter Tryz.func69, Tryz.ntmps69
  go_wp2_with (at_builtin; refine wpList_app3 rfl _ _ rfl elB Ho.out rfl rfl rfl rfl rfl (by omega) hB ?_; intro g cap w1 hown1 hfr1 hat1 hlt1; have hb1 := (hfr1.block h hlt (fun o ho e => by simp at ho; subst ho; exact HAp.out h (by simpa [Hn.out] using e) rfl)).trans Hat.out; have q0 := cell_of_row w1 h 0 _ _ (0, 0) hb1; have q1 := cell_of_row w1 h 1 _ _ (0, 0) hb1; have g0 := frozen_of_row w1 h 0 _ _ hb1; have g1 := frozen_of_row w1 h 1 _ _ hb1; simp only [List.getElem?_toArray] at q0 q1)
  have hgh : g ≠ h := fun e => own_apart hb1 (by decide) hown1 g rfl (by rw [e])
  have hb2 : (w1.setCell ⟨h, 0, none⟩ (.slice (some ⟨g, 0, none⟩) (n + 1) cap)).heap[h]? = some (.cells #[.slice (some ⟨g, 0, none⟩) (n + 1) cap, .int .i64 0] 82) := heap_setCell_same _ _ _ _ _ _ hb1
  have hb3 : ((w1.setCell ⟨h, 0, none⟩ (.slice (some ⟨g, 0, none⟩) (n + 1) cap)).setCell ⟨h, 1, none⟩ (.int .i64 8)).heap[h]? = some (.cells #[.slice (some ⟨g, 0, none⟩) (n + 1) cap, .int .i64 8] 82) := heap_setCell_same _ _ _ _ _ _ hb2
  have hf3 : Fr w1 ((w1.setCell ⟨h, 0, none⟩ (.slice (some ⟨g, 0, none⟩) (n + 1) cap)).setCell ⟨h, 1, none⟩ (.int .i64 8)) [some h] := ((Fr.refl w1 [some h]).set _ _ (.inl (by simp))).set _ _ (.inl (by simp))
  have ho3 := own_fr hown1 hf3 (fun o ho => by simp at ho; subst ho; exact own_apart hb1 (by decide) hown1)
  generalize hW : (w1.setCell ⟨h, 0, none⟩ (.slice (some ⟨g, 0, none⟩) (n + 1) cap)).setCell ⟨h, 1, none⟩ (.int .i64 8) = W at *
  obtain ⟨_, _, e7, _, _, hcap, hcell, hfz⟩ := own_form ho3 (by omega)
  cases e7
  have c0 := cell_of_row W h 0 _ _ (0, 0) hb3
  have c1 := cell_of_row W h 1 _ _ (0, 0) hb3
  have f0 := frozen_of_row W h 0 _ _ hb3
  have f1 := frozen_of_row W h 1 _ _ hb3
  simp only [List.getElem?_toArray] at c0 c1
  have hpl := packB_length L
  have z : W.cell? ⟨g, n, none⟩ = some (.int .u8 0) := hcell n _ (by rw [List.getElem?_append_right (by rw [ints_length, hpl, ← Hn.out]; exact Nat.le_refl _), ints_length, hpl, ← Hn.out, Nat.sub_self]; rfl)
  have zf := hfz n
  have Hb1 := Lib.hid hb1
  have Hb3 := Lib.hid hb3
  have Hf3 := Lib.hid hf3
  have Ho3 := Lib.hid ho3
  have s1 : ((n : Int) + 1 - 1).toNat = n := by omega
  have s2 : IntKind.i64.wrap ((n : Int) + 1 - 1) = (n : Int) := by rw [IntWalk.i64_in _ (by omega)]; omega
  have s3 : IntKind.i64.wrap (n : Int) = n := IntWalk.i64_in _ (by omega)
  have s4 : (0 : Int) ≤ n := by omega
  have s5 : (n : Int) < n + 1 := by omega
  have s6 : IntKind.i64.wrap 0 = 0 := by decide
  have s10 : IntKind.u8.wrap ((x : Int) * 2 ^ 0) = x := by rw [Int.pow_zero, Int.mul_one]; exact IntWalk.u8_in _ (by omega)
  have s11 : IntKind.u8.wrap ((x : Int) * 1) = x := by rw [Int.mul_one]; exact IntWalk.u8_in _ (by omega)
  have s9 : IntKind.u8.wrap (x : Int) = x := IntWalk.u8_in _ (by omega)
  clear hb1 hb2 hb3 hf3 ho3 hcell hfz hpl q0 q1 g0 g1 hW hown1
  go_upto_region 3 with fail
  refine wp_region_last (n := 22) (on := ⟨_, _, _, _, _, _⟩) (S := fun W => W.cell? ⟨h, 0, none⟩ = some (.slice (some ⟨g, 0, none⟩) (n + 1) cap) ∧ W.cell? ⟨h, 1, none⟩ = some (.int .i64 8) ∧ W.cell? ⟨g, n, none⟩ = some (.int .u8 0)) (by kernel_rfl) rfl (by kernel_rfl) (⟨c0, c1, z⟩) (fun hHeld => ?_)
  refine' wpAnyH_take (i := 0) (oi := ⟨_, _, _, _, _, _⟩) rfl (by kernel_rfl) (by kernel_rfl) (by kernel_rfl) (fun _ _ _ h => h) (Or.inl ⟨by rfl, ?a0⟩) (by assumption) ?b0
  case a0 => (intro w hSw; (try dsimp only at hSw); go_simp; try with_reducible rfl)
  try simp only [Act.put, List.setIfInBounds_toArray, List.set_cons_zero, List.set_cons_succ]
  refine' wpAnyH_take (i := 1) (oi := ⟨_, _, _, _, _, _⟩) rfl (by kernel_rfl) (by kernel_rfl) (by kernel_rfl) (fun _ _ _ h => h) (Or.inl ⟨by rfl, ?a1⟩) (by assumption) ?b1
  case a1 => (intro w hSw; (try dsimp only at hSw); go_simp; try with_reducible rfl)
  try simp only [Act.put, List.setIfInBounds_toArray, List.set_cons_zero, List.set_cons_succ]
  refine' wpAnyH_take (i := 2) (oi := ⟨_, _, _, _, _, _⟩) rfl (by kernel_rfl) (by kernel_rfl) (by kernel_rfl) (fun _ _ _ h => h) (Or.inl ⟨by rfl, ?a2⟩) (by assumption) ?b2
  case a2 => (intro w hSw; (try dsimp only at hSw); go_simp; try with_reducible rfl)
  try simp only [Act.put, List.setIfInBounds_toArray, List.set_cons_zero, List.set_cons_succ]
  refine' wpAnyH_take (i := 3) (oi := ⟨_, _, _, _, _, _⟩) rfl (by kernel_rfl) (by kernel_rfl) (by kernel_rfl) (fun _ _ _ h => h) (Or.inl ⟨by rfl, ?a3⟩) (by assumption) ?b3
  case a3 => (intro w hSw; (try dsimp only at hSw); go_simp; try with_reducible rfl)
  try simp only [Act.put, List.setIfInBounds_toArray, List.set_cons_zero, List.set_cons_succ]
  refine' wpAnyH_take (i := 4) (oi := ⟨_, _, _, _, _, _⟩) rfl (by kernel_rfl) (by kernel_rfl) (by kernel_rfl) (fun _ _ _ h => h) (Or.inl ⟨by rfl, ?a4⟩) (by assumption) ?b4
  case a4 => (intro w hSw; (try dsimp only at hSw); go_simp; try with_reducible rfl)
  try simp only [Act.put, List.setIfInBounds_toArray, List.set_cons_zero, List.set_cons_succ]
  refine' wpAnyH_take (i := 5) (oi := ⟨_, _, _, _, _, _⟩) rfl (by kernel_rfl) (by kernel_rfl) (by kernel_rfl) (fun _ _ _ h => h) (Or.inl ⟨by rfl, ?a5⟩) (by assumption) ?b5
  case a5 => (intro w hSw; (try dsimp only at hSw); go_simp; try with_reducible rfl)
  try simp only [Act.put, List.setIfInBounds_toArray, List.set_cons_zero, List.set_cons_succ]
  refine' wpAnyH_take (i := 6) (oi := ⟨_, _, _, _, _, _⟩) rfl (by kernel_rfl) (by kernel_rfl) (by kernel_rfl) (fun _ _ _ h => h) (Or.inl ⟨by rfl, ?a6⟩) (by assumption) ?b6
  case a6 => (intro w hSw; (try dsimp only at hSw); go_simp; try with_reducible rfl)
  try simp only [Act.put, List.setIfInBounds_toArray, List.set_cons_zero, List.set_cons_succ]
  refine' wpAnyH_take (i := 7) (oi := ⟨_, _, _, _, _, _⟩) rfl (by kernel_rfl) (by kernel_rfl) (by kernel_rfl) (fun _ _ _ h => h) (Or.inl ⟨by rfl, ?a7⟩) (by assumption) ?b7
  case a7 => (intro w hSw; (try dsimp only at hSw); go_simp; try with_reducible rfl)
  try simp only [Act.put, List.setIfInBounds_toArray, List.set_cons_zero, List.set_cons_succ]
  refine' wpAnyH_take (i := 8) (oi := ⟨_, _, _, _, _, _⟩) rfl (by kernel_rfl) (by kernel_rfl) (by kernel_rfl) (fun _ _ _ h => h) (Or.inl ⟨by rfl, ?a8⟩) (by assumption) ?b8
  case a8 => (intro w hSw; (try dsimp only at hSw); go_simp; try with_reducible rfl)
  try simp only [Act.put, List.setIfInBounds_toArray, List.set_cons_zero, List.set_cons_succ]
  refine' wpAnyH_take (i := 9) (oi := ⟨_, _, _, _, _, _⟩) rfl (by kernel_rfl) (by kernel_rfl) (by kernel_rfl) (fun _ _ _ h => h) (Or.inl ⟨by rfl, ?a9⟩) (by assumption) ?b9
  case a9 => (intro w hSw; (try dsimp only at hSw); go_simp; try with_reducible rfl)
  try simp only [Act.put, List.setIfInBounds_toArray, List.set_cons_zero, List.set_cons_succ]
  refine' wpAnyH_take (i := 10) (oi := ⟨_, _, _, _, _, _⟩) rfl (by kernel_rfl) (by kernel_rfl) (by kernel_rfl) (fun _ _ _ h => h) (Or.inl ⟨by rfl, ?a10⟩) (by assumption) ?b10
  case a10 => (intro w hSw; (try dsimp only at hSw); go_simp; try with_reducible rfl)
  try simp only [Act.put, List.setIfInBounds_toArray, List.set_cons_zero, List.set_cons_succ]
  refine' wpAnyH_take (i := 11) (oi := ⟨_, _, _, _, _, _⟩) rfl (by kernel_rfl) (by kernel_rfl) (by kernel_rfl) (fun _ _ _ h => h) (Or.inl ⟨by rfl, ?a11⟩) (by assumption) ?b11
  case a11 => (intro w hSw; (try dsimp only at hSw); go_simp; try with_reducible rfl)
  try simp only [Act.put, List.setIfInBounds_toArray, List.set_cons_zero, List.set_cons_succ]
  refine' wpAnyH_take (i := 12) (oi := ⟨_, _, _, _, _, _⟩) rfl (by kernel_rfl) (by kernel_rfl) (by kernel_rfl) (fun _ _ _ h => h) (Or.inl ⟨by rfl, ?a12⟩) (by assumption) ?b12
  case a12 => (intro w hSw; (try dsimp only at hSw); go_simp; try with_reducible rfl)
  try simp only [Act.put, List.setIfInBounds_toArray, List.set_cons_zero, List.set_cons_succ]
  refine' wpAnyH_take (i := 13) (oi := ⟨_, _, _, _, _, _⟩) rfl (by kernel_rfl) (by kernel_rfl) (by kernel_rfl) (fun _ _ _ h => h) (Or.inl ⟨by rfl, ?a13⟩) (by assumption) ?b13
  case a13 => (intro w hSw; (try dsimp only at hSw); go_simp; try with_reducible rfl)
  try simp only [Act.put, List.setIfInBounds_toArray, List.set_cons_zero, List.set_cons_succ]
  refine' wpAnyH_take (i := 14) (oi := ⟨_, _, _, _, _, _⟩) rfl (by kernel_rfl) (by kernel_rfl) (by kernel_rfl) (fun _ _ _ h => h) (Or.inl ⟨by rfl, ?a14⟩) (by assumption) ?b14
  case a14 => (intro w hSw; (try dsimp only at hSw); go_simp; try with_reducible rfl)
  try simp only [Act.put, List.setIfInBounds_toArray, List.set_cons_zero, List.set_cons_succ]
  refine' wpAnyH_take (i := 15) (oi := ⟨_, _, _, _, _, _⟩) rfl (by kernel_rfl) (by kernel_rfl) (by kernel_rfl) (fun _ _ _ h => h) (Or.inl ⟨by rfl, ?a15⟩) (by assumption) ?b15
  case a15 => (intro w hSw; (try dsimp only at hSw); go_simp; try with_reducible rfl)
  try simp only [Act.put, List.setIfInBounds_toArray, List.set_cons_zero, List.set_cons_succ]
  refine' wpAnyH_take (i := 16) (oi := ⟨_, _, _, _, _, _⟩) rfl (by kernel_rfl) (by kernel_rfl) (by kernel_rfl) (fun _ _ _ h => h) (Or.inl ⟨by rfl, ?a16⟩) (by assumption) ?b16
  case a16 => (intro w hSw; (try dsimp only at hSw); go_simp; try with_reducible rfl)
  try simp only [Act.put, List.setIfInBounds_toArray, List.set_cons_zero, List.set_cons_succ]
  refine' wpAnyH_take (i := 17) (oi := ⟨_, _, _, _, _, _⟩) rfl (by kernel_rfl) (by kernel_rfl) (by kernel_rfl) (fun _ _ _ h => h) (Or.inl ⟨by rfl, ?a17⟩) (by assumption) ?b17
  case a17 => (intro w hSw; (try dsimp only at hSw); go_simp; try with_reducible rfl)
  try simp only [Act.put, List.setIfInBounds_toArray, List.set_cons_zero, List.set_cons_succ]
  refine' wpAnyH_take (i := 18) (oi := ⟨_, _, _, _, _, _⟩) rfl (by kernel_rfl) (by kernel_rfl) (by kernel_rfl) (fun _ _ _ h => h) (Or.inl ⟨by rfl, ?a18⟩) (by assumption) ?b18
  case a18 => (intro w hSw; (try dsimp only at hSw); go_simp; try with_reducible rfl)
  try simp only [Act.put, List.setIfInBounds_toArray, List.set_cons_zero, List.set_cons_succ]
  refine' wpAnyH_take (i := 19) (oi := ⟨_, _, _, _, _, _⟩) rfl (by kernel_rfl) (by kernel_rfl) (by kernel_rfl) (fun _ _ _ h => h) (Or.inl ⟨by rfl, ?a19⟩) (by assumption) ?b19
  case a19 => (intro w hSw; (try dsimp only at hSw); go_simp; try with_reducible rfl)
  try simp only [Act.put, List.setIfInBounds_toArray, List.set_cons_zero, List.set_cons_succ]
  refine' wpAnyH_take (i := 20) (oi := ⟨_, _, _, _, _, _⟩) rfl (by kernel_rfl) (by kernel_rfl) (by kernel_rfl) (fun _ _ _ h => h) (Or.inl ⟨by rfl, ?a20⟩) (by assumption) ?b20
  case a20 => (intro w hSw; (try dsimp only at hSw); go_simp; try with_reducible rfl)
  try simp only [Act.put, List.setIfInBounds_toArray, List.set_cons_zero, List.set_cons_succ]
  refine' wpAnyH_take (i := 21) (oi := ⟨_, _, _, _, _, _⟩) rfl (by kernel_rfl) (by kernel_rfl) (by kernel_rfl) (fun _ _ _ h => h) (Or.inl ⟨by rfl, ?a21⟩) (by assumption) ?b21
  case a21 => (intro w hSw; (try dsimp only at hSw); go_simp; try with_reducible rfl)
  try simp only [Act.put, List.setIfInBounds_toArray, List.set_cons_zero, List.set_cons_succ]
  refine wpAnyH_done (by kernel_rfl) ?_ _
  change wpList _ _ _ _ _ _
  go_wp2
  have ev0 : bits BinOp.or IntKind.u8 0 (x : Int) = (x : Int) := by
   have h9 := or_u8_top 0 x 0 (by decide) hx (by omega)
   simpa using h9
  have hpl := packB_length L
  have hne := Hn.out
  have hp : packB (L ++ [(x : Int)]) = (packB L ++ [0]).set n (bits BinOp.or IntKind.u8 0 (x : Int)) := by
   rw [ev0, packB_new (by omega) h8, List.set_append_right _ _ (by omega), show n - (packB L).length = 0 from by omega]
   rfl
  have hi : ints .u8 (packB L ++ [0]) = ints .u8 (packB L) ++ [.int .u8 0] := by rw [ints_append]; rfl
  have hll : (L ++ [(x : Int)]).length = L.length + 1 := by simp
  obtain ⟨hw, hf⟩ := wr_fin Hb3.out (ys := packB L ++ [0]) (by rw [hi]; exact Ho3.out) n (L' := L ++ [(x : Int)]) (F' := 7) (by rw [hll]; omega) (by rw [hll]; omega) hp (HH.out.bit.app (fun z hz => by simp at hz; omega))
  have hbk : (Value.slice A0 n p0).ownBlock = (Value.slice A0 ((L.length + 7) / 8) p0).ownBlock := by cases A0 <;> rfl
  have hfA : Fr w _ [some h, (Value.slice A0 ((L.length + 7) / 8) p0).ownBlock] := ((hfr1.mono (T := [some h, (Value.slice A0 ((L.length + 7) / 8) p0).ownBlock]) (fun o ho => by simp at ho; subst ho; exact List.mem_cons_of_mem _ (List.mem_singleton.2 hbk))).trans Hf3.out (fun o ho => .inl (by simp at ho; subst ho; simp))).trans hf (fun o ho => by
   simp at ho
   rcases ho with rfl | rfl
   ·exact .inl (by simp)
   ·rcases hat1 with e | e
    ·exact .inl (by rw [← e]; exact List.mem_cons_of_mem _ (List.mem_singleton.2 hbk))
    ·exact .inr (fun j hj => by cases hj; exact e))
  go_end0
  exact ⟨_, rfl, hw, hfA, hat1.elim (fun e => .inl (e.symm.trans hbk)) (fun e => .inr (fun k hk => by cases hk; exact e))⟩
 ·obtain ⟨t, ht⟩ : ∃ t, t = L.length % 8 := ⟨_, rfl⟩
  rw [← ht] at h8
  have hfr : 8 * n - L.length = 8 - t := by omega
  have ht7 : t ≤ 7 := by omega
  have hn0 : 1 ≤ n := by omega
  rw [hfr] at c1 hat
  have Hat := Lib.hid hat
  have Ht := Lib.hid ht
  obtain ⟨g, cap, e7, hg1, hg2, hcap, hcell, hfz⟩ := own_form ho (by omega)
  cases e7
  have hyl := rd_packB (L := L) (j := n - 1) (by omega)
  have z := hcell (n - 1) _ (ints_get (by rw [packB_length, ← hn]; omega))
  rw [hyl] at z
  have zf := hfz (n - 1)
  obtain ⟨hset, hy2⟩ := packB_in HH.out.bit (x := x) (by omega) (by omega)
  rw [show L.length / 8 = n - 1 from by omega, ← ht] at hset hy2
  obtain ⟨y, hy⟩ : ∃ y, y = packAt L (n - 1) := ⟨_, rfl⟩
  rw [← hy] at z hset hy2
  have s1 : ((n : Int) - 1).toNat = n - 1 := by omega
  have s2 : IntKind.i64.wrap ((n : Int) - 1) = (n : Int) - 1 := IntWalk.i64_in _ (by omega)
  have s3 : (0 : Int) ≤ (n : Int) - 1 := by omega
  have s4 : (n : Int) - 1 < n := by omega
  have s5 : (1 : Int) ≤ n := by omega
  have s8 : IntKind.i64.wrap (t : Int) = t := IntWalk.i64_in _ (by omega)
  have s9 : IntKind.u8.wrap (x : Int) = x := IntWalk.u8_in _ (by omega)
  have hxp : x * 2 ^ t ≤ 128 := by
   have h1 := Nat.mul_le_mul_right (2 ^ t) hx
   have h2 : (2 : Nat) ^ t ≤ 2 ^ 7 := Nat.pow_le_pow_right (by omega) ht7
   have h3 : (2 : Nat) ^ 7 = 128 := by decide
   omega
  have s10 : IntKind.u8.wrap ((x : Int) * 2 ^ t) = ((x * 2 ^ t : Nat) : Int) := by
   rw [Int.natCast_mul, Int.natCast_pow, ← show ((2 : Nat) : Int) = 2 from rfl, ← Int.natCast_pow, ← Int.natCast_mul]
   exact IntWalk.u8_in _ (by omega)
  clear hxp
  have s6 : (8 : Int) - ((8 - t : Nat) : Int) = t := by omega
  have s7 : IntKind.i64.wrap ((8 : Int) - ((8 - t : Nat) : Int)) = t := by rw [s6]; exact IntWalk.i64_in _ (by omega)
  have hgh : g ≠ h := fun e => HAp.out h (by rw [← e]; rfl) rfl
  have Hset := Lib.hid hset
  have Hy2 := Lib.hid hy2
  have ev := or_u8_top y x t hy2 hx (by omega)
  have Ev := Lib.hid ev
  clear hap H hn hfr ho ht hset hy2 hy hcell hfz hyl ev hat
  go_enter Tryz.func69, Tryz.ntmps69
  go_upto_region 3 with fail
  refine wp_region_last (n := 22) (on := ⟨_, _, _, _, _, _⟩) (S := fun W => W.cell? ⟨h, 0, none⟩ = some (.slice (some ⟨g, 0, none⟩) n p0) ∧ W.cell? ⟨h, 1, none⟩ = some (.int .i64 ((8 - t : Nat) : Int)) ∧ W.cell? ⟨g, n - 1, none⟩ = some (.int .u8 y)) (by kernel_rfl) rfl (by kernel_rfl) (⟨c0, c1, z⟩) (fun hHeld => ?_)
  refine' wpAnyH_take (i := 0) (oi := ⟨_, _, _, _, _, _⟩) rfl (by kernel_rfl) (by kernel_rfl) (by kernel_rfl) (fun _ _ _ h => h) (Or.inl ⟨by rfl, ?a22⟩) (by assumption) ?b22
  case a22 => (intro w hSw; (try dsimp only at hSw); go_simp; try with_reducible rfl)
  try simp only [Act.put, List.setIfInBounds_toArray, List.set_cons_zero, List.set_cons_succ]
  refine' wpAnyH_take (i := 1) (oi := ⟨_, _, _, _, _, _⟩) rfl (by kernel_rfl) (by kernel_rfl) (by kernel_rfl) (fun _ _ _ h => h) (Or.inl ⟨by rfl, ?a23⟩) (by assumption) ?b23
  case a23 => (intro w hSw; (try dsimp only at hSw); go_simp; try with_reducible rfl)
  try simp only [Act.put, List.setIfInBounds_toArray, List.set_cons_zero, List.set_cons_succ]
  refine' wpAnyH_take (i := 2) (oi := ⟨_, _, _, _, _, _⟩) rfl (by kernel_rfl) (by kernel_rfl) (by kernel_rfl) (fun _ _ _ h => h) (Or.inl ⟨by rfl, ?a24⟩) (by assumption) ?b24
  case a24 => (intro w hSw; (try dsimp only at hSw); go_simp; try with_reducible rfl)
  try simp only [Act.put, List.setIfInBounds_toArray, List.set_cons_zero, List.set_cons_succ]
  refine' wpAnyH_take (i := 3) (oi := ⟨_, _, _, _, _, _⟩) rfl (by kernel_rfl) (by kernel_rfl) (by kernel_rfl) (fun _ _ _ h => h) (Or.inl ⟨by rfl, ?a25⟩) (by assumption) ?b25
  case a25 => (intro w hSw; (try dsimp only at hSw); go_simp; try with_reducible rfl)
  try simp only [Act.put, List.setIfInBounds_toArray, List.set_cons_zero, List.set_cons_succ]
  refine' wpAnyH_take (i := 4) (oi := ⟨_, _, _, _, _, _⟩) rfl (by kernel_rfl) (by kernel_rfl) (by kernel_rfl) (fun _ _ _ h => h) (Or.inl ⟨by rfl, ?a26⟩) (by assumption) ?b26
  case a26 => (intro w hSw; (try dsimp only at hSw); go_simp; try with_reducible rfl)
  try simp only [Act.put, List.setIfInBounds_toArray, List.set_cons_zero, List.set_cons_succ]
  refine' wpAnyH_take (i := 5) (oi := ⟨_, _, _, _, _, _⟩) rfl (by kernel_rfl) (by kernel_rfl) (by kernel_rfl) (fun _ _ _ h => h) (Or.inl ⟨by rfl, ?a27⟩) (by assumption) ?b27
  case a27 => (intro w hSw; (try dsimp only at hSw); go_simp; try with_reducible rfl)
  try simp only [Act.put, List.setIfInBounds_toArray, List.set_cons_zero, List.set_cons_succ]
  refine' wpAnyH_take (i := 6) (oi := ⟨_, _, _, _, _, _⟩) rfl (by kernel_rfl) (by kernel_rfl) (by kernel_rfl) (fun _ _ _ h => h) (Or.inl ⟨by rfl, ?a28⟩) (by assumption) ?b28
  case a28 => (intro w hSw; (try dsimp only at hSw); go_simp; try with_reducible rfl)
  try simp only [Act.put, List.setIfInBounds_toArray, List.set_cons_zero, List.set_cons_succ]
  refine' wpAnyH_take (i := 7) (oi := ⟨_, _, _, _, _, _⟩) rfl (by kernel_rfl) (by kernel_rfl) (by kernel_rfl) (fun _ _ _ h => h) (Or.inl ⟨by rfl, ?a29⟩) (by assumption) ?b29
  case a29 => (intro w hSw; (try dsimp only at hSw); go_simp; try with_reducible rfl)
  try simp only [Act.put, List.setIfInBounds_toArray, List.set_cons_zero, List.set_cons_succ]
  refine' wpAnyH_take (i := 8) (oi := ⟨_, _, _, _, _, _⟩) rfl (by kernel_rfl) (by kernel_rfl) (by kernel_rfl) (fun _ _ _ h => h) (Or.inl ⟨by rfl, ?a30⟩) (by assumption) ?b30
  case a30 => (intro w hSw; (try dsimp only at hSw); go_simp; try with_reducible rfl)
  try simp only [Act.put, List.setIfInBounds_toArray, List.set_cons_zero, List.set_cons_succ]
  refine' wpAnyH_take (i := 9) (oi := ⟨_, _, _, _, _, _⟩) rfl (by kernel_rfl) (by kernel_rfl) (by kernel_rfl) (fun _ _ _ h => h) (Or.inl ⟨by rfl, ?a31⟩) (by assumption) ?b31
  case a31 => (intro w hSw; (try dsimp only at hSw); go_simp; try with_reducible rfl)
  try simp only [Act.put, List.setIfInBounds_toArray, List.set_cons_zero, List.set_cons_succ]
  refine' wpAnyH_take (i := 10) (oi := ⟨_, _, _, _, _, _⟩) rfl (by kernel_rfl) (by kernel_rfl) (by kernel_rfl) (fun _ _ _ h => h) (Or.inl ⟨by rfl, ?a32⟩) (by assumption) ?b32
  case a32 => (intro w hSw; (try dsimp only at hSw); go_simp; try with_reducible rfl)
  try simp only [Act.put, List.setIfInBounds_toArray, List.set_cons_zero, List.set_cons_succ]
  refine' wpAnyH_take (i := 11) (oi := ⟨_, _, _, _, _, _⟩) rfl (by kernel_rfl) (by kernel_rfl) (by kernel_rfl) (fun _ _ _ h => h) (Or.inl ⟨by rfl, ?a33⟩) (by assumption) ?b33
  case a33 => (intro w hSw; (try dsimp only at hSw); go_simp; try with_reducible rfl)
  try simp only [Act.put, List.setIfInBounds_toArray, List.set_cons_zero, List.set_cons_succ]
  refine' wpAnyH_take (i := 12) (oi := ⟨_, _, _, _, _, _⟩) rfl (by kernel_rfl) (by kernel_rfl) (by kernel_rfl) (fun _ _ _ h => h) (Or.inl ⟨by rfl, ?a34⟩) (by assumption) ?b34
  case a34 => (intro w hSw; (try dsimp only at hSw); go_simp; try with_reducible rfl)
  try simp only [Act.put, List.setIfInBounds_toArray, List.set_cons_zero, List.set_cons_succ]
  refine' wpAnyH_take (i := 13) (oi := ⟨_, _, _, _, _, _⟩) rfl (by kernel_rfl) (by kernel_rfl) (by kernel_rfl) (fun _ _ _ h => h) (Or.inl ⟨by rfl, ?a35⟩) (by assumption) ?b35
  case a35 => (intro w hSw; (try dsimp only at hSw); go_simp; try with_reducible rfl)
  try simp only [Act.put, List.setIfInBounds_toArray, List.set_cons_zero, List.set_cons_succ]
  refine' wpAnyH_take (i := 14) (oi := ⟨_, _, _, _, _, _⟩) rfl (by kernel_rfl) (by kernel_rfl) (by kernel_rfl) (fun _ _ _ h => h) (Or.inl ⟨by rfl, ?a36⟩) (by assumption) ?b36
  case a36 => (intro w hSw; (try dsimp only at hSw); go_simp; try with_reducible rfl)
  try simp only [Act.put, List.setIfInBounds_toArray, List.set_cons_zero, List.set_cons_succ]
  refine' wpAnyH_take (i := 15) (oi := ⟨_, _, _, _, _, _⟩) rfl (by kernel_rfl) (by kernel_rfl) (by kernel_rfl) (fun _ _ _ h => h) (Or.inl ⟨by rfl, ?a37⟩) (by assumption) ?b37
  case a37 => (intro w hSw; (try dsimp only at hSw); go_simp; try with_reducible rfl)
  try simp only [Act.put, List.setIfInBounds_toArray, List.set_cons_zero, List.set_cons_succ]
  refine' wpAnyH_take (i := 16) (oi := ⟨_, _, _, _, _, _⟩) rfl (by kernel_rfl) (by kernel_rfl) (by kernel_rfl) (fun _ _ _ h => h) (Or.inl ⟨by rfl, ?a38⟩) (by assumption) ?b38
  case a38 => (intro w hSw; (try dsimp only at hSw); go_simp; try with_reducible rfl)
  try simp only [Act.put, List.setIfInBounds_toArray, List.set_cons_zero, List.set_cons_succ]
  refine' wpAnyH_take (i := 17) (oi := ⟨_, _, _, _, _, _⟩) rfl (by kernel_rfl) (by kernel_rfl) (by kernel_rfl) (fun _ _ _ h => h) (Or.inl ⟨by rfl, ?a39⟩) (by assumption) ?b39
  case a39 => (intro w hSw; (try dsimp only at hSw); go_simp; try with_reducible rfl)
  try simp only [Act.put, List.setIfInBounds_toArray, List.set_cons_zero, List.set_cons_succ]
  refine' wpAnyH_take (i := 18) (oi := ⟨_, _, _, _, _, _⟩) rfl (by kernel_rfl) (by kernel_rfl) (by kernel_rfl) (fun _ _ _ h => h) (Or.inl ⟨by rfl, ?a40⟩) (by assumption) ?b40
  case a40 => (intro w hSw; (try dsimp only at hSw); go_simp; try with_reducible rfl)
  try simp only [Act.put, List.setIfInBounds_toArray, List.set_cons_zero, List.set_cons_succ]
  refine' wpAnyH_take (i := 19) (oi := ⟨_, _, _, _, _, _⟩) rfl (by kernel_rfl) (by kernel_rfl) (by kernel_rfl) (fun _ _ _ h => h) (Or.inl ⟨by rfl, ?a41⟩) (by assumption) ?b41
  case a41 => (intro w hSw; (try dsimp only at hSw); go_simp; try with_reducible rfl)
  try simp only [Act.put, List.setIfInBounds_toArray, List.set_cons_zero, List.set_cons_succ]
  refine' wpAnyH_take (i := 20) (oi := ⟨_, _, _, _, _, _⟩) rfl (by kernel_rfl) (by kernel_rfl) (by kernel_rfl) (fun _ _ _ h => h) (Or.inl ⟨by rfl, ?a42⟩) (by assumption) ?b42
  case a42 => (intro w hSw; (try dsimp only at hSw); go_simp; try with_reducible rfl)
  try simp only [Act.put, List.setIfInBounds_toArray, List.set_cons_zero, List.set_cons_succ]
  refine' wpAnyH_take (i := 21) (oi := ⟨_, _, _, _, _, _⟩) rfl (by kernel_rfl) (by kernel_rfl) (by kernel_rfl) (fun _ _ _ h => h) (Or.inl ⟨by rfl, ?a43⟩) (by assumption) ?b43
  case a43 => (intro w hSw; (try dsimp only at hSw); go_simp; try with_reducible rfl)
  try simp only [Act.put, List.setIfInBounds_toArray, List.set_cons_zero, List.set_cons_succ]
  refine wpAnyH_done (by kernel_rfl) ?_ _
  change wpList _ _ _ _ _ _
  go_wp2
  have ex : ((x : Int) * 2 ^ t) = ((x * 2 ^ t : Nat) : Int) := by rw [Int.natCast_mul, Int.natCast_pow]; rfl
  have hp : packB (L ++ [(x : Int)]) = (packB L).set (n - 1) (bits BinOp.or IntKind.u8 (y : Int) ((x : Int) * 2 ^ t)) := by
   rw [Hset.out, ex, Ev.out, Int.natCast_add, ← ex]
  have hll : (L ++ [(x : Int)]).length = L.length + 1 := by simp
  have hne := Hn.out
  have hte := Ht.out
  obtain ⟨hw, hf⟩ := wr_fin Hat.out Ho.out (n - 1) (L' := L ++ [(x : Int)]) (F' := ((8 - t : Nat) : Int) - 1) (by rw [hll]; omega) (by rw [hll]; omega) hp (HH.out.bit.app (fun z hz => by simp at hz; omega))
  go_end0
  exact ⟨_, rfl, hw, hf, .inl rfl⟩
theorem Rd.frW {w w' : World} {k : IntKind} {A : Option Addr} {n : Nat} {xs : List Int} {S : List (Option Nat)} (h : Rd w k A n xs) (hf : Fr w w' S) (hS : ∀ b o, A = some ⟨b, o, none⟩ → ∀ s ∈ S, s ≠ some b) : Rd w' k A n xs :=
 ⟨h.1, fun hn => by
  obtain ⟨b, o, e, hc⟩ := h.2 hn
  exact ⟨b, o, e, fun j hj => hf.kept (hc j hj) (hS b o e)⟩⟩
theorem and1_u64 (p : Nat) (hp : p < 18446744073709551616) : bits BinOp.and IntKind.u64 (p : Int) 1 = ((p % 2 : Nat) : Int) := by
 have h1 : (BitVec.ofInt 64 (p : Int)).toNat = p := by
  rw [BitVec.ofInt_natCast, BitVec.toNat_ofNat]; exact Nat.mod_eq_of_lt (by omega)
 have h2 : (BitVec.ofInt 64 (1 : Int)).toNat = 1 := by decide
 show IntKind.u64.wrap ((BitVec.ofInt 64 (p : Int) &&& BitVec.ofInt 64 (1 : Int)).toNat : Int) = _
 rw [BitVec.toNat_and, h1, h2, Nat.and_one_is_mod]
 exact IntWalk.u64_in _ (by omega)
def lows (xs : List Int) (n k : Nat) : List Int := (List.range k).flatMap fun j => lowOf (rd xs j).toNat n
theorem lows_succ (xs : List Int) (n k : Nat) : lows xs n (k + 1) = lows xs n k ++ lowOf (rd xs k).toNat n := by simp [lows, List.range_succ]
theorem lows_length (xs : List Int) (n k : Nat) : (lows xs n k).length = n * k := by
 induction k with
 | zero => simp [lows]
 | succ k ih => rw [lows_succ, List.length_append, ih, lowOf_length, Nat.mul_succ]
theorem shr_and (x j : Nat) (hx : x < 18446744073709551616) : bits BinOp.and IntKind.u64 ((x : Int) / 2 ^ j) 1 = ((x / 2 ^ j % 2 : Nat) : Int) := by
 have e1 : (x : Int) / 2 ^ j = ((x / 2 ^ j : Nat) : Int) := by
  rw [Int.natCast_ediv, Int.natCast_pow]
  rfl
 have hd : x / 2 ^ j ≤ x := Nat.div_le_self _ _
 rw [e1, and1_u64 _ (by omega)]
set_option maxHeartbeats 2000000 in
set_option maxRecDepth 100000 in
theorem Put_calls (B h n : Nat) (L : List Int) (v : Value) (A : Option Addr) (m c : Nat) (xs : List Int) (w : World) (H : WrAt w B h L v) (hR : Rd w .u64 A m xs) (hx : ∀ j, j < m → 0 ≤ rd xs j ∧ rd xs j < 18446744073709551616) (hn : n ≤ 64) (hne : ∀ b o, A = some ⟨b, o, none⟩ → b ≠ h ∧ v.ownBlock ≠ some b) (hL : L.length + 64 * m ≤ 100000000) (hB : B ≤ w.heap.size) :
  Calls Tryz.prog 47 #[.pointer (some ⟨h, 0, none⟩), .int .i64 n, .slice A m c] w fun e w' => ∃ v', e = .returned (.tuple #[]) ∧ WrAt w' B h (L ++ lows xs n m) v' ∧ WStep w w' h v v' := by
 have HH := Lib.hid H
 have HR := Lib.hid hR
 have Hx := Lib.hid hx
 have Hne := Lib.hid hne
 clear H hR hx hne
 go_enter Tryz.func47, Tryz.ntmps47
 go_wp2
 go_loopw [11] (fun i wr => ∃ (k : Nat) (v' : Value), k ≤ m ∧ i = .int .i64 k ∧ Hid (WrAt wr B h (L ++ lows xs n k) v') ∧ Hid (WStep w wr h v v')) (fun i _ => m - (intOf i).toNat)
 case atStart => exact ⟨0, v, by omega, rfl, by rw [show lows xs n 0 = [] from rfl, List.append_nil]; exact HH.out, WStep.refl _ _ _⟩
 case round =>
  obtain ⟨k, v', hk, rfl, HW, HS⟩ := hrel
  by_cases hlt : k < m
  ·have hnk : n * k ≤ 64 * m := Nat.mul_le_mul hn hk
   have hnk2 : n * k + 64 ≤ 64 * m := by
    have h1 : n * k ≤ 64 * k := Nat.mul_le_mul_right k hn
    omega
   have hlen := lows_length xs n k
   have hR2 : Rd _ .u64 A m xs := HR.out.frW HS.out.fr (fun b o e s hs e2 => by
    subst e2
    simp at hs
    rcases hs with hs | hs
    ·exact (Hne.out b o e).1 hs
    ·exact (Hne.out b o e).2 hs.symm)
   obtain ⟨b, o, rfl, hcx⟩ := hR2.2 (by omega)
   have z := hcx k hlt
   have hxr := Hx.out k hlt
   obtain ⟨x, hx⟩ : ∃ x : Nat, rd xs k = x := ⟨(rd xs k).toNat, by omega⟩
   have hsucc := lows_succ xs n k
   rw [hx, Int.toNat_natCast] at hsucc
   rw [hx] at z hxr
   have Hsucc := Lib.hid hsucc
   have hx64 : x < 18446744073709551616 := by omega
   clear hcx hx hsucc hR2
   go_wp2
   go_loopw [18] (fun i wy => ∃ (j : Nat) (v2 : Value), j ≤ n ∧ i = .int .i64 j ∧ Hid (WrAt wy B h (L ++ lows xs n k ++ lowOf x j) v2) ∧ Hid (WStep w wy h v v2)) (fun i _ => n - (intOf i).toNat)
   case atStart => exact ⟨0, v', by omega, rfl, by rw [show lowOf x 0 = [] from rfl, List.append_nil]; exact HW.out, HS.out⟩
   case round =>
    obtain ⟨j, v2, hj, rfl, HW2, HS2⟩ := hrel
    by_cases hlt2 : j < n
    ·have hsh := shr_and x j hx64
     have hbit : x / 2 ^ j % 2 ≤ 1 := by omega
     have hls := lowOf_succ x j
     obtain ⟨bt, hbt⟩ : ∃ bt, bt = x / 2 ^ j % 2 := ⟨_, rfl⟩
     rw [← hbt] at hsh hbit hls
     have Hls := Lib.hid hls
     have hll := lowOf_length x j
     have hsz : B ≤ _ := Nat.le_trans hB HS2.out.fr.size
     clear hbt hls
     go_wp2_with fail
     refine (bit_calls B h bt _ v2 _ HW2.out hbit (by rw [List.length_append, List.length_append, hlen, hll]; omega) hsz).mono ?_
     rintro e w3 ⟨v3, rfl, hw3, hs3⟩
     have HW3 := Lib.hid hw3
     have HS3 := Lib.hid (HS2.out.trans hs3)
     clear hw3 hs3
     go_wp2
     go_roundw
     case rel => exact ⟨j + 1, v3, by omega, by go_num, by rw [Hls.out, ← List.append_assoc]; exact HW3.out, HS3.out⟩
     case measure => simp [intOf]; omega
    ·obtain rfl : j = n := by omega
     go_wp2
     go_roundw
     case rel => exact ⟨k + 1, v2, by omega, by go_num, by rw [Hsucc.out, ← List.append_assoc]; exact HW2.out, HS2.out⟩
     case measure => simp [intOf]; omega
  ·obtain rfl : k = m := by omega
   go_wp2
   go_end0
   exact ⟨_, rfl, HW.out, HS.out⟩
def hiOf (x n : Nat) : List Int := (lowOf x n).reverse
theorem hiOf_succ (x n : Nat) : hiOf x (n + 1) = ((x / 2 ^ n % 2 : Nat) : Int) :: hiOf x n := by simp [hiOf, lowOf_succ]
theorem hiOf_length (x n : Nat) : (hiOf x n).length = n := by simp [hiOf, lowOf_length]
set_option maxHeartbeats 2000000 in
set_option maxRecDepth 100000 in
theorem Code_calls (B h n x : Nat) (L : List Int) (v : Value) (w : World) (H : WrAt w B h L v) (hx : x < 18446744073709551616) (hn : n ≤ 64) (hL : L.length + 64 ≤ 100000000) (hB : B ≤ w.heap.size) :
  Calls Tryz.prog 80 #[.pointer (some ⟨h, 0, none⟩), .int .i64 n, .int .u64 x] w fun e w' => ∃ v', e = .returned (.tuple #[]) ∧ WrAt w' B h (L ++ hiOf x n) v' ∧ WStep w w' h v v' := by
 have HH := Lib.hid H
 clear H
 go_enter Tryz.func80, Tryz.ntmps80
 go_wp2
 go_loopw [6] (fun i wr => ∃ (k : Nat) (cur : List Int) (v' : Value), k ≤ n ∧ i = .int .i64 ((k : Int) - 1) ∧ Hid (cur ++ hiOf x k = L ++ hiOf x n) ∧ Hid (WrAt wr B h cur v') ∧ Hid (WStep w wr h v v')) (fun i _ => (intOf i + 1).toNat)
 case atStart => exact ⟨n, L, v, by omega, by go_num, rfl, HH.out, WStep.refl _ _ _⟩
 case round =>
  obtain ⟨k, cur, v', hk, rfl, HC, HW, HS⟩ := hrel
  by_cases hlt : 0 < k
  ·obtain ⟨j, rfl⟩ : ∃ j, k = j + 1 := ⟨k - 1, by omega⟩
   have hsh := shr_and x j hx
   have hbit : x / 2 ^ j % 2 ≤ 1 := by omega
   have hc := HC.out
   have hlc : cur.length ≤ L.length + 64 := by
    have := congrArg List.length hc
    rw [List.length_append, List.length_append, hiOf_length, hiOf_length] at this
    omega
   rw [hiOf_succ] at hc
   obtain ⟨bt, hbt⟩ : ∃ bt, bt = x / 2 ^ j % 2 := ⟨_, rfl⟩
   rw [← hbt] at hsh hbit hc
   have HC2 := Lib.hid hc
   have hsz : B ≤ _ := Nat.le_trans hB HS.out.fr.size
   have s1 : (((j + 1 : Nat) : Int) - 1).toNat = j := by omega
   have s2 : (((j + 1 : Nat) : Int) - 1) = (j : Int) := by omega
   clear hbt hc
   rw [s2]
   go_wp2_with fail
   refine (bit_calls B h bt _ v' _ HW.out hbit (by omega) hsz).mono ?_
   rintro e w3 ⟨v3, rfl, hw3, hs3⟩
   have HW3 := Lib.hid hw3
   have HS3 := Lib.hid (HS.out.trans hs3)
   clear hw3 hs3
   go_wp2
   go_roundw
   case rel => exact ⟨j, _, v3, by omega, by go_num, by rw [List.append_assoc]; exact HC2.out, HW3.out, HS3.out⟩
   case measure => simp [intOf]
  ·obtain rfl : k = 0 := by omega
   have hc := HC.out
   rw [show hiOf x 0 = [] from rfl, List.append_nil] at hc
   rw [hc] at HW
   clear hc
   go_wp2
   go_end0
   exact ⟨_, rfl, HW.out, HS.out⟩
set_option maxHeartbeats 1000000 in
theorem WLen_calls (B h : Nat) (L : List Int) (v : Value) (w : World) (H : WrAt w B h L v) (hL : L.length ≤ 100000000) :
  Calls Tryz.prog 54 #[.pointer (some ⟨h, 0, none⟩)] w fun e w' => e = .returned (.int .i64 L.length) ∧ Below w.heap.size w w' := by
 have c0 := H.c0
 have c1 := H.c1
 obtain ⟨A0, p0, rfl⟩ := own_slice H.own
 obtain ⟨n, hn⟩ : ∃ n, n = (L.length + 7) / 8 := ⟨_, rfl⟩
 rw [← hn] at c0 c1
 obtain ⟨f, hf⟩ : ∃ f, f = 8 * n - L.length := ⟨_, rfl⟩
 rw [← hf] at c1
 obtain ⟨l, hl⟩ : ∃ l, l = L.length := ⟨_, rfl⟩
 rw [← hl] at hL ⊢
 have hfl : (8 : Int) * n - f = l := by omega
 have hn1 : n ≤ 20000000 := by omega
 have hf8 : f ≤ 8 := by omega
 clear hn hf hl H
 go_enter Tryz.func54, Tryz.ntmps54
 go_wp2
 go_region
 go_wp2
 go_ret
 exact ⟨rfl, (Below.refl _ _).drew⟩
set_option maxHeartbeats 1000000 in
theorem WBytes_calls (B h : Nat) (L : List Int) (v : Value) (w : World) (H : WrAt w B h L v) (hL : L.length ≤ 100000000) :
  Calls Tryz.prog 50 #[.pointer (some ⟨h, 0, none⟩)] w fun e w' => ∃ v', e = .returned v' ∧ w'.ownsRow w.heap.size 5 1 v' ((L.length + 7) / 8) (ints .u8 (packB L)) ∧ Below w.heap.size w w' := by
 have c0 := H.c0
 obtain ⟨A0, p0, e1, hcap, hrd⟩ := own_rd H.own
 subst e1
 have hnil := own_none H.own
 obtain ⟨n, hn⟩ : ∃ n, n = (L.length + 7) / 8 := ⟨_, rfl⟩
 rw [← hn] at c0 hrd hnil ⊢
 have hn1 : n ≤ 20000000 := by omega
 have c0' := kept_new c0 (.cells #[] 5)
 have Hrd := Lib.hid hrd
 have Hnil := Lib.hid hnil
 clear hn H hrd hcap hnil
 go_enter Tryz.func50, Tryz.ntmps50
 go_wp2_with (at_builtin; refine wpList_appRd rfl _ _ rfl elB (ys := []) (own_empty w _) rfl rfl (Hrd.out.alloc _) Hnil.out (by omega) (by simp) ?_; intro v' w' hown hg; rw [Nat.zero_add, List.nil_append] at hown; have Hown := Lib.hid hown; have Hg := Lib.hid hg; clear hown hg)
 go_ret
 exact ⟨v', rfl, Hown.out, ((Below.refl _ _).alloc (Nat.le_refl _) _).grown Hg.out (by simp) (fun k hk => by simp [Value.ownBlock] at hk; omega)⟩
end Go.Proofs.YtdbkbeojedndbaaGreatDoor
