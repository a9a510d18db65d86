/-
  Texts joined into one file: Ops, NmEq, Few, Names, RNames, TabP, SortL.
-/
import Derived.Test.YtekhofnfikcpnaaJPutA1
import Derived.ProofKit
import Derived.OpenShut
import Derived.ChangeSame
import Derived.ChangeSlices
import Derived.Lib.Bytes
import Derived.Deep.LoopGhost
import Derived.Deep.Cut
import Derived.Deep.CutRange
import Derived.Deep.CutBlock
import Derived.Sort.KeysCollected
import Derived.Shelf.SortG.Plain
import Derived.Shelf.SortG.SortNone
import Derived.Ground.SlgnProg
/-
  Slices of ops as rows hold them.
-/
namespace Go.Proofs.Ytekhofnfikcpnaa
open Go.RowKit

/-- An op's name: its number, and whose it is. -/
abbrev Nm := Int × ByteArray
def nm (L : List Nm) (j : Nat) : Nm := L.getD j (0, ByteArray.empty)
structure NmCells (w : World) (b p : Nat) (x : Nm) : Prop where
  c0 : w.cell? ⟨b, p, none⟩ = some (.int .i64 x.1)
  c1 : w.cell? ⟨b, p + 1, none⟩ = some (.string x.2)
theorem NmCells.below {w w' : World} {b p : Nat} {x : Nm} (h : NmCells w b p x) (hb : Below w.heap.size w w') : NmCells w' b p x := ⟨kept_cell hb h.c0, kept_cell hb h.c1⟩
def NmsAt (w : World) (A : Option Addr) (n : Nat) (L : List Nm) : Prop := L.length = n ∧ (0 < n → ∃ b o, A = some ⟨b, o, none⟩ ∧ ∀ j, j < n → NmCells w b (o + j * 2) (nm L j))
theorem NmsAt.below {w w' : World} {A : Option Addr} {n : Nat} {L : List Nm} (h : NmsAt w A n L) (hb : Below w.heap.size w w') : NmsAt w' A n L :=
  ⟨h.1, fun hm => by obtain ⟨b, o, e, hc⟩ := h.2 hm; exact ⟨b, o, e, fun j hj => (hc j hj).below hb⟩⟩
structure OpV where
  obj : Nm
  key : ByteArray
  keyed : Bool
  elem : Nm
  ins : Bool
  act : Int
  kind : Int
  u : Int
  n : Int
  s : ByteArray
  preds : List Nm
  pA : Option Addr
  pn : Nat
  pc : Nat
def noOp : OpV := ⟨(0, ByteArray.empty), ByteArray.empty, false, (0, ByteArray.empty), false, 0, 0, 0, 0, ByteArray.empty, [], none, 0, 0⟩
def opv (L : List OpV) (j : Nat) : OpV := L.getD j noOp
structure OpCells (w : World) (b p : Nat) (x : OpV) : Prop where
  c0 : w.cell? ⟨b, p, none⟩ = some (.int .i64 x.obj.1)
  c1 : w.cell? ⟨b, p + 1, none⟩ = some (.string x.obj.2)
  c2 : w.cell? ⟨b, p + 2, none⟩ = some (.string x.key)
  c3 : w.cell? ⟨b, p + 3, none⟩ = some (.bool x.keyed)
  c4 : w.cell? ⟨b, p + 4, none⟩ = some (.int .i64 x.elem.1)
  c5 : w.cell? ⟨b, p + 5, none⟩ = some (.string x.elem.2)
  c6 : w.cell? ⟨b, p + 6, none⟩ = some (.bool x.ins)
  c7 : w.cell? ⟨b, p + 7, none⟩ = some (.int .i64 x.act)
  c8 : w.cell? ⟨b, p + 8, none⟩ = some (.int .i64 x.kind)
  c9 : w.cell? ⟨b, p + 9, none⟩ = some (.int .u64 x.u)
  c10 : w.cell? ⟨b, p + 10, none⟩ = some (.int .i64 x.n)
  c11 : w.cell? ⟨b, p + 11, none⟩ = some (.string x.s)
  c12 : w.cell? ⟨b, p + 12, none⟩ = some (.slice x.pA x.pn x.pc)
theorem OpCells.below {w w' : World} {b p : Nat} {x : OpV} (h : OpCells w b p x) (k : Below w.heap.size w w') : OpCells w' b p x :=
  ⟨kept_cell k h.c0, kept_cell k h.c1, kept_cell k h.c2, kept_cell k h.c3, kept_cell k h.c4, kept_cell k h.c5, kept_cell k h.c6, kept_cell k h.c7, kept_cell k h.c8, kept_cell k h.c9, kept_cell k h.c10, kept_cell k h.c11, kept_cell k h.c12⟩
def I64 (n : Int) : Prop := -9223372036854775808 ≤ n ∧ n ≤ 9223372036854775807
/-- What an op holds beside its cells. -/
structure OpWf (x : OpV) : Prop where
  io : I64 x.obj.1
  ie : I64 x.elem.1
  ia : I64 x.act
  ik : I64 x.kind
  iu : 0 ≤ x.u ∧ x.u ≤ 18446744073709551615
  jn : I64 x.n
  so : x.obj.2.size ≤ maxLen
  se : x.elem.2.size ≤ maxLen
  sk : x.key.size ≤ maxLen
  ss : x.s.size ≤ maxLen
  pl : x.pn ≤ maxLen
  pb : x.pn ≤ x.pc
  pz : x.pA = none → x.pn = 0 ∧ x.pc = 0
  ps : ∀ y ∈ x.preds, I64 y.1 ∧ y.2.size ≤ maxLen
def OpsAt (w : World) (A : Option Addr) (n : Nat) (L : List OpV) : Prop :=
  L.length = n ∧ (∀ x ∈ L, OpWf x ∧ NmsAt w x.pA x.pn x.preds) ∧ (0 < n → ∃ b o, A = some ⟨b, o, none⟩ ∧ ∀ j, j < n → OpCells w b (o + j * 13) (opv L j))
theorem OpsAt.below {w w' : World} {A : Option Addr} {n : Nat} {L : List OpV} (h : OpsAt w A n L) (hb : Below w.heap.size w w') : OpsAt w' A n L :=
  ⟨h.1, fun x hx => ⟨(h.2.1 x hx).1, (h.2.1 x hx).2.below hb⟩, fun hm => by obtain ⟨b, o, e, hc⟩ := h.2.2 hm; exact ⟨b, o, e, fun j hj => (hc j hj).below hb⟩⟩
theorem opv_mem {L : List OpV} {j : Nat} (h : j < L.length) : opv L j ∈ L := by
  unfold opv
  rw [List.getD_eq_getElem?_getD, List.getElem?_eq_getElem h]
  exact List.getElem_mem h
theorem any_choice {α : Type} (d : α) {P : Nat → α → Prop} (n : Nat) (h : ∀ j, j < n → ∃ x, P j x) : ∃ l : List α, l.length = n ∧ ∀ j, j < n → P j (l.getD j d) := by
  have h' : ∀ j, ∃ x, j < n → P j x := fun j => by
    by_cases hj : j < n
    · obtain ⟨x, hx⟩ := h j hj; exact ⟨x, fun _ => hx⟩
    · exact ⟨d, fun hh => absurd hh hj⟩
  have ⟨f, hf⟩ := Classical.axiomOfChoice h'
  refine ⟨(List.range n).map f, by simp, fun j hj => ?_⟩
  have : ((List.range n).map f).getD j d = f j := by simp [List.getD_eq_getElem?_getD, List.getElem?_range hj]
  rw [this]
  exact hf j hj
theorem i64_wf {n : Int} (h : (Lit.int .i64 n).wf = true) : I64 n := by
  simp [Lit.wf, IntKind.min, IntKind.max, IntKind.signed, IntKind.bits] at h
  unfold I64
  omega
theorem u64_wf {n : Int} (h : (Lit.int .u64 n).wf = true) : 0 ≤ n ∧ n ≤ 18446744073709551615 := by
  simp [Lit.wf, IntKind.min, IntKind.max, IntKind.signed, IntKind.bits] at h
  omega
section
variable {H : Type} {enc : TypeId × Value → H} {w : World} {base : Nat} {sp : Nat → Bool} {held : Bool}
set_option maxRecDepth 100000 in
theorem nm_of_trod {fuel : Nat} {cs : List Value} {x : DataW H × List MemPlace} (h : DataW.trod enc Try.prog w base sp held fuel 26 cs = some x) : ∃ y : Nm, cs = [.int .i64 y.1, .string y.2] ∧ I64 y.1 ∧ y.2.size ≤ maxLen := by
  obtain ⟨xs, n, _, _, hl, hxl, hx⟩ := DataW.trod_struct Try.underlying26 h
  have c : Try.prog.cellsOf 26 = 2 := by kernel_rfl
  have c0 : Try.prog.cellsOf 2 = 1 := by kernel_rfl
  have c1 : Try.prog.cellsOf 9 = 1 := by kernel_rfl
  rw [c] at hl
  have hxl2 : xs.length = 2 := by simpa using hxl
  match cs, hl with
  | [y0, y1], _ =>
    have g0 := hx 0 _ rfl
    have g1 := hx 1 _ rfl
    rw [List.getElem?_eq_getElem (by omega)] at g0 g1

    simp only [List.getElem_toArray, List.getElem_cons_zero, List.getElem_cons_succ, c0, c1] at g0 g1
    obtain ⟨a, e0, _, q0⟩ := DataW.trod_int Try.underlying2 g0
    obtain ⟨s, e1, _, q1⟩ := DataW.trod_string Try.underlying9 g1
    simp at e0 e1
    subst e0 e1
    exact ⟨(a, s), rfl, i64_wf q0, q1⟩
set_option maxRecDepth 100000 in
theorem val_of_trod {fuel : Nat} {cs : List Value} {x : DataW H × List MemPlace} (h : DataW.trod enc Try.prog w base sp held fuel 29 cs = some x) : ∃ (k u n : Int) (s : ByteArray), cs = [.int .i64 k, .int .u64 u, .int .i64 n, .string s] ∧ I64 k ∧ (0 ≤ u ∧ u ≤ 18446744073709551615) ∧ I64 n ∧ s.size ≤ maxLen := by
  obtain ⟨xs, n, _, _, hl, hxl, hx⟩ := DataW.trod_struct Try.underlying29 h
  have c : Try.prog.cellsOf 29 = 4 := by kernel_rfl
  have c0 : Try.prog.cellsOf 2 = 1 := by kernel_rfl
  have c1 : Try.prog.cellsOf 9 = 1 := by kernel_rfl
  have c2 : Try.prog.cellsOf 3 = 1 := by kernel_rfl
  have c3 : Try.prog.cellsOf 27 = 1 := by kernel_rfl
  rw [c] at hl
  have hxl2 : xs.length = 4 := by simpa using hxl
  match cs, hl with
  | [y0, y1, y2, y3], _ =>
    have g0 := hx 0 _ rfl
    have g1 := hx 1 _ rfl
    have g2 := hx 2 _ rfl
    have g3 := hx 3 _ rfl
    rw [List.getElem?_eq_getElem (by omega)] at g0 g1 g2 g3

    simp only [List.getElem_toArray, List.getElem_cons_zero, List.getElem_cons_succ, c0, c1, c2, c3] at g0 g1 g2 g3
    obtain ⟨k, e0, _, q0⟩ := DataW.trod_int Try.underlying3 g0
    obtain ⟨u, e1, _, q1⟩ := DataW.trod_int Try.underlying27 g1
    obtain ⟨m, e2, _, q2⟩ := DataW.trod_int Try.underlying2 g2
    obtain ⟨s, e3, _, q3⟩ := DataW.trod_string Try.underlying9 g3
    simp at e0 e1 e2 e3
    subst e0 e1 e2 e3
    exact ⟨k, u, m, s, rfl, i64_wf q0, u64_wf q1, i64_wf q2, q3⟩
set_option maxRecDepth 100000 in
theorem nms_of_trod {fuel : Nat} {cs : List Value} {x : DataW H × List MemPlace} (h : DataW.trod enc Try.prog w base sp held fuel 30 cs = some x) :
    ∃ A n c L, cs = [.slice A n c] ∧ n ≤ maxLen ∧ n ≤ c ∧ (A = none → n = 0 ∧ c = 0) ∧ NmsAt w A n L ∧ ∀ y ∈ L, I64 y.1 ∧ y.2.size ≤ maxLen := by
  have ce : Try.prog.cellsOf 26 = 2 := by kernel_rfl
  rcases DataW.trod_slice Try.underlying30 h with ⟨hcs, _⟩ | ⟨a, len, cap, elems, rest, m, _, hcs, _, hb, hl, hm, hlen, hel, _, _⟩
  · exact ⟨none, 0, 0, [], hcs, by simp, Nat.le_refl _, fun _ => ⟨rfl, rfl⟩, ⟨rfl, fun hh => by omega⟩, fun y hy => by cases hy⟩
  · have each : ∀ j, j < len → ∃ y : Nm, (w.cell? (a.add (j * 2)) = some (.int .i64 y.1) ∧ w.cell? ((a.add (j * 2)).add 1) = some (.string y.2)) ∧ I64 y.1 ∧ y.2.size ≤ maxLen := by
      intro j hj
      have hz := hel j hj
      rw [ce, List.getElem?_eq_getElem (show j < elems.length by omega)] at hz
      obtain ⟨cs', hcs', hz⟩ := Option.bind_eq_some_iff.1 hz
      obtain ⟨_, hcl, hcc⟩ := World.cells?_some hcs'
      obtain ⟨y, rfl, q0, q1⟩ := nm_of_trod hz
      have a0 := hcc 0 (by simp)
      have a1 := hcc 1 (by simp)
      exact ⟨y, ⟨by simpa [Addr.add] using a0, by simpa using a1⟩, q0, q1⟩
    obtain ⟨L, hL, hLs⟩ := any_choice (0, ByteArray.empty) len each
    refine ⟨_, len, cap, L, hcs, by omega, hl, (fun e => by cases e), ⟨hL, fun hn => ?_⟩, fun y hy => ?_⟩
    · obtain ⟨b, o, s⟩ := a
      have hs : s = none := by simpa [Addr.add] using World.cell?_spot (hLs 0 hn).1.1
      subst hs
      refine ⟨b, o, rfl, fun j hj => ?_⟩
      have := (hLs j hj).1
      rw [addr_add, addr_add] at this
      exact ⟨this.1, this.2⟩
    · obtain ⟨i, hi, rfl⟩ := List.getElem_of_mem hy
      have := (hLs i (by omega)).2
      rw [List.getD_eq_getElem?_getD, List.getElem?_eq_getElem hi] at this
      exact this
set_option maxRecDepth 100000 in
theorem op_of_trod {fuel : Nat} {cs : List Value} {x : DataW H × List MemPlace} (h : DataW.trod enc Try.prog w base sp held fuel 32 cs = some x) :
    ∃ y : OpV, cs = [.int .i64 y.obj.1, .string y.obj.2, .string y.key, .bool y.keyed, .int .i64 y.elem.1, .string y.elem.2, .bool y.ins, .int .i64 y.act, .int .i64 y.kind, .int .u64 y.u, .int .i64 y.n, .string y.s, .slice y.pA y.pn y.pc] ∧ OpWf y ∧ NmsAt w y.pA y.pn y.preds := by
  obtain ⟨xs, n, _, _, hl, hxl, hx⟩ := DataW.trod_struct Try.underlying32 h
  have c : Try.prog.cellsOf 32 = 13 := by kernel_rfl
  have c0 : Try.prog.cellsOf 2 = 1 := by kernel_rfl
  have c1 : Try.prog.cellsOf 9 = 1 := by kernel_rfl
  have c2 : Try.prog.cellsOf 4 = 1 := by kernel_rfl
  have c3 : Try.prog.cellsOf 26 = 2 := by kernel_rfl
  have c4 : Try.prog.cellsOf 29 = 4 := by kernel_rfl
  have c5 : Try.prog.cellsOf 30 = 1 := by kernel_rfl
  rw [c] at hl
  have hxl2 : xs.length = 8 := by simpa using hxl
  match cs, hl with
  | [y0, y1, y2, y3, y4, y5, y6, y7, y8, y9, y10, y11, y12], _ =>
    have g0 := hx 0 _ rfl
    have g1 := hx 1 _ rfl
    have g2 := hx 2 _ rfl
    have g3 := hx 3 _ rfl
    have g4 := hx 4 _ rfl
    have g5 := hx 5 _ rfl
    have g6 := hx 6 _ rfl
    have g7 := hx 7 _ rfl
    rw [List.getElem?_eq_getElem (by omega)] at g0 g1 g2 g3 g4 g5 g6 g7

    simp only [List.getElem_toArray, List.getElem_cons_zero, List.getElem_cons_succ, c0, c1, c2, c3, c4, c5] at g0 g1 g2 g3 g4 g5 g6 g7
    obtain ⟨obj, e0, q0, r0⟩ := nm_of_trod g0
    obtain ⟨key, e1, _, q1⟩ := DataW.trod_string Try.underlying9 g1
    obtain ⟨keyed, e2, _⟩ := DataW.trod_bool Try.underlying4 g2
    obtain ⟨el, e3, q3, r3⟩ := nm_of_trod g3
    obtain ⟨ins, e4, _⟩ := DataW.trod_bool Try.underlying4 g4
    obtain ⟨act, e5, _, q5⟩ := DataW.trod_int Try.underlying2 g5
    obtain ⟨k, u, m, s, e6, q6, r6, s6, t6⟩ := val_of_trod g6
    obtain ⟨pA, pn, pc, preds, e7, q7, r7, s7, t7, u7⟩ := nms_of_trod g7
    simp at e0 e1 e2 e3 e4 e5 e6 e7
    obtain ⟨rfl, rfl⟩ := e0
    obtain ⟨rfl, rfl⟩ := e3
    obtain ⟨rfl, rfl, rfl, rfl⟩ := e6
    subst e1 e2 e4 e5 e7
    exact ⟨⟨obj, key, keyed, el, ins, act, k, u, m, s, preds, pA, pn, pc⟩, rfl, ⟨q0, q3, i64_wf q5, q6, r6, s6, r0, r3, q1, t6, q7, r7, s7, u7⟩, t7⟩
set_option maxRecDepth 100000 in
theorem ops_of_trod {v : Value} {d : DataW H} {p : List MemPlace} (hv : ∃ A n c, v = .slice A n c) (h : DataW.Trod enc Try.prog w base sp held 22 v d p) :
    ∃ A n c L, v = .slice A n c ∧ n ≤ maxLen ∧ n ≤ c ∧ (A = none → n = 0 ∧ c = 0) ∧ OpsAt w A n L := by
  have ce : Try.prog.cellsOf 32 = 13 := by kernel_rfl
  obtain ⟨fuel, hf⟩ := h
  obtain ⟨A, n, c, rfl⟩ := hv
  rcases DataW.trod_slice Try.underlying22 hf with ⟨hcs, _⟩ | ⟨a, len, cap, elems, rest, m, _, hcs, _, hb, hl, hm, hlen, hel, _, _⟩
  · simp [Value.cells] at hcs
    obtain ⟨rfl, rfl, rfl⟩ := hcs
    exact ⟨none, 0, 0, [], rfl, by simp, Nat.le_refl _, fun _ => ⟨rfl, rfl⟩, rfl, (fun x hx => by cases hx), fun hh => by omega⟩
  · simp [Value.cells] at hcs
    obtain ⟨rfl, rfl, rfl⟩ := hcs
    have each : ∀ j, j < n → ∃ y : OpV, (∀ k u, ([.int .i64 y.obj.1, .string y.obj.2, .string y.key, .bool y.keyed, .int .i64 y.elem.1, .string y.elem.2, .bool y.ins, .int .i64 y.act, .int .i64 y.kind, .int .u64 y.u, .int .i64 y.n, .string y.s, .slice y.pA y.pn y.pc] : List Value)[k]? = some u → w.cell? ((a.add (j * 13)).add k) = some u) ∧ OpWf y ∧ NmsAt w y.pA y.pn y.preds := by
      intro j hj
      have hz := hel j hj
      rw [ce, List.getElem?_eq_getElem (show j < elems.length by omega)] at hz
      obtain ⟨cs', hcs', hz⟩ := Option.bind_eq_some_iff.1 hz
      obtain ⟨_, hcl, hcc⟩ := World.cells?_some hcs'
      obtain ⟨y, rfl, q0, q1⟩ := op_of_trod hz
      refine ⟨y, fun k u hu => ?_, q0, q1⟩
      have hk := (List.getElem?_eq_some_iff.1 hu)
      obtain ⟨hk, rfl⟩ := hk
      have a0 := hcc k hk
      rw [← List.getElem?_eq_getElem hk]
      simpa using a0
    obtain ⟨L, hL, hLs⟩ := any_choice noOp n each
    refine ⟨_, n, c, L, rfl, by omega, hl, (fun e => by cases e), hL, (fun y hy => ?_), fun hn => ?_⟩
    · obtain ⟨i, hi, rfl⟩ := List.getElem_of_mem hy
      have := (hLs i (by omega)).2
      rw [List.getD_eq_getElem?_getD, List.getElem?_eq_getElem hi] at this
      exact this
    · obtain ⟨b, o, s⟩ := a
      have hs : s = none := by
        have := (hLs 0 hn).1 0 _ rfl
        simpa [Addr.add] using World.cell?_spot this
      subst hs
      refine ⟨b, o, rfl, fun j hj => ?_⟩
      have h9 := (hLs j hj).1
      simp only [addr_add] at h9
      exact ⟨h9 0 _ rfl, h9 1 _ rfl, h9 2 _ rfl, h9 3 _ rfl, h9 4 _ rfl, h9 5 _ rfl, h9 6 _ rfl, h9 7 _ rfl, h9 8 _ rfl, h9 9 _ rfl, h9 10 _ rfl, h9 11 _ rfl, h9 12 _ rfl⟩
end
end Go.Proofs.Ytekhofnfikcpnaa
/-
  '==' of ops' names; op.Zero; the names that ops speak of (no program).
-/
namespace Go.Proofs.Ytekhofnfikcpnaa
open Go.RowKit

theorem eqStr_of {P : Program} {d : Nat} {t : TypeId} {w : World} (hu : P.underlying t = some .string) (a b : ByteArray) : (Op.equalIn (d + 1) t (.string a) (.string b)).run P w = .ok (a == b) w := by
  simp [Op.equalIn, run_underlying hu]
theorem bytes_beq (s t : ByteArray) : (s == t) = decide (s = t) := by
  obtain ⟨a⟩ := s
  obtain ⟨b⟩ := t
  show (a == b) = _
  by_cases h : a = b
  · subst h; simp
  · rw [beq_eq_false_iff_ne.2 h, decide_eq_false (fun e => h (by cases e; rfl))]
theorem emp_iff (s : ByteArray) : (s == ByteArray.empty) = decide (s.toList = []) := by
  rw [bytes_beq, Lib.toList_data]
  by_cases h : s.data.toList = []
  · rw [decide_eq_true h]
    obtain ⟨⟨l⟩⟩ := s
    simp at h
    subst h
    rfl
  · rw [decide_eq_false h, decide_eq_false (fun e => h (by subst e; rfl))]
def zeroNm (x : Nm) : Bool := x.1 == 0 && x.2 == ByteArray.empty
set_option maxRecDepth 100000 in
theorem eqlNm (a b : Int) (s t : ByteArray) (w : World) : (binOp .eql 26 (.agg #[.int .i64 a, .string s]) (.agg #[.int .i64 b, .string t])).run Try.prog w = .ok (.bool ((a == b) && ((s == t) && true))) w :=
  binEql_of (eqStruct_of Try.underlying26 (by kernel_rfl) (eqFields_cons rfl (by go_simp) (by go_simp) (eqInt_of Try.underlying2 _ _) (eqFields_cons rfl (by go_simp) (by go_simp) (eqStr_of Try.underlying9 _ _) eqFields_nil)))
theorem neqNm (a b : Int) (s t : ByteArray) (w : World) : (binOp .neq 26 (.agg #[.int .i64 a, .string s]) (.agg #[.int .i64 b, .string t])).run Try.prog w = .ok (.bool (!((a == b) && ((s == t) && true)))) w := by
  have h := eqlNm a b s t w
  simp only [binOp] at h ⊢
  simp only [Sem.run_bind] at h ⊢
  generalize Sem.run Try.prog (Op.equal 26 (.agg #[.int .i64 a, .string s]) (.agg #[.int .i64 b, .string t])) w = r at h ⊢
  cases r <;> simp_all
theorem Zero_calls (x : Nm) (w : World) : Calls Try.prog 51 #[.agg #[.int .i64 x.1, .string x.2]] w fun e w' => e = .returned (.bool (zeroNm x)) ∧ Below w.heap.size w w' := by
  have he : ∀ w, (binOp .eql 26 (.agg #[.int .i64 x.1, .string x.2]) (.agg #[.int .i64 0, .string ByteArray.empty])).run Try.prog w = .ok (.bool (zeroNm x)) w := fun w => by
    rw [eqlNm]; simp [zeroNm]
  go_enter Try.func51, Try.ntmps51
  go_wp2_with fail
  all_goals go_ret
  all_goals refine ⟨?_, (Below.refl w.heap.size w).alloc (Nat.le_refl _) _⟩
  all_goals simp_all [zeroNm, emp_iff]
/-- All names that an op speaks of, in order. -/
def namesOf (x : OpV) : List Nm := (x.obj :: x.elem :: x.preds).filter fun y => !zeroNm y
def namesL (L : List OpV) : List Nm := L.flatMap namesOf
def nms (N : List Nm) : List Value := N.flatMap fun y => [.int .i64 y.1, .string y.2]
theorem nms_app (a b : List Nm) : nms (a ++ b) = nms a ++ nms b := List.flatMap_append
theorem nms_length (N : List Nm) : (nms N).length = N.length * 2 := by
  induction N with
  | nil => rfl
  | cons x N ih => simp [nms] at ih ⊢; omega
theorem nms_one (N : List Nm) : (nms N).all (fun u => u.oneCell') = true := by
  rw [List.all_eq_true]
  intro u hu
  obtain ⟨x, _, h⟩ := List.mem_flatMap.1 hu
  simp at h
  rcases h with rfl | rfl <;> rfl
theorem nms_get : ∀ {N : List Nm} {j : Nat}, j < N.length → (nms N)[j * 2]? = some (.int .i64 (nm N j).1) ∧ (nms N)[j * 2 + 1]? = some (.string (nm N j).2) := by
  intro N
  induction N with
  | nil => intro j h; simp at h
  | cons x N ih =>
    intro j h
    cases j with
    | zero => exact ⟨rfl, rfl⟩
    | succ j =>
      have := ih (j := j) (by simpa using h)
      rw [show (j + 1) * 2 = j * 2 + 2 from by omega]
      exact this
theorem elNm : ElT Try.prog 30 26 (.agg #[.int .i64 0, .string ByteArray.empty]) 2 24 := ⟨Try.underlying30, by kernel_rfl, rfl, by decide, by decide⟩
theorem NmsAt.of {w : World} {A : Option Addr} {n : Nat} {N : List Nm} (h : RdV w A n 2 (nms N)) : NmsAt w A n N := by
  have hl := h.1
  rw [nms_length] at hl
  refine ⟨by omega, fun hn => ?_⟩
  obtain ⟨b, o, e, hc⟩ := h.2 hn
  refine ⟨b, o, e, fun j hj => ?_⟩
  obtain ⟨g0, g1⟩ := nms_get (N := N) (j := j) (by omega)
  exact ⟨hc _ _ g0, hc _ _ g1⟩
theorem NmsAt.toV {w : World} {A : Option Addr} {n : Nat} {N : List Nm} (h : NmsAt w A n N) : RdV w A n 2 (nms N) := by
  refine ⟨by rw [nms_length, h.1], fun hn => ?_⟩
  obtain ⟨b, o, e, hc⟩ := h.2 hn
  refine ⟨b, o, e, fun i u hu => ?_⟩
  have hi : i < N.length * 2 := by have := (List.getElem?_eq_some_iff.1 hu).1; rwa [nms_length] at this
  obtain ⟨k, hk⟩ : ∃ k, k = i / 2 := ⟨_, rfl⟩
  obtain ⟨g0, g1⟩ := nms_get (N := N) (j := k) (by omega)
  have hcj := hc k (by have := h.1; omega)
  rcases (show i = k * 2 ∨ i = k * 2 + 1 by omega) with e2 | e2
  · subst e2
    rw [g0] at hu
    cases hu
    exact hcj.c0
  · subst e2
    rw [g1] at hu
    cases hu
    rw [← Nat.add_assoc]
    exact hcj.c1
theorem own_nms {w : World} {base n : Nat} {e : TypeId} {v : Value} {N : List Nm} (h : w.ownsRow base e 2 v n (nms N)) : ∃ A c, v = .slice A n c ∧ n ≤ c ∧ NmsAt w A n N ∧ (A = none → n = 0 ∧ c = 0) := by
  obtain ⟨A, c, e, h1, h2, h3⟩ := own_rdV h
  exact ⟨A, c, e, h1, NmsAt.of h2, h3⟩
theorem namesOf_le (x : OpV) : (namesOf x).length ≤ 2 + x.preds.length := by
  unfold namesOf
  exact Nat.le_trans (List.length_filter_le _ _) (by simp; omega)
end Go.Proofs.Ytekhofnfikcpnaa
/-
  The walk of the reference's Few: ops are few, and their texts short.
-/
namespace Go.Proofs.Ytekhofnfikcpnaa
open Go.RowKit

structure FewAt (x : OpV) : Prop where
  p : x.pn ≤ 40
  k : x.key.size ≤ 5000
  s : x.s.size ≤ 5000
  o : x.obj.2.size ≤ 100
  e : x.elem.2.size ≤ 100
  y : ∀ i, i < x.pn → (nm x.preds i).2.size ≤ 100
/-- A bool that is true only if P holds; memory is as it was. -/
structure BoolEnd (w : World) (P : Prop) (e : Ending) (w' : World) : Prop where
  is : (e = .returned (.bool false) ∨ (e = .returned (.bool true) ∧ P)) ∧ w' = w
set_option maxHeartbeats 1000000 in
set_option maxRecDepth 100000 in
theorem Few_calls (A : Option Addr) (n cap : Nat) (L : List OpV) (most : Int) (w : World) (hO : OpsAt w A n L) (hn : n ≤ maxLen) (hm : 0 ≤ most ∧ most ≤ 1000) :
    Calls Try.prog 11 #[.slice A n cap, .int .i64 most] w (BoolEnd w ((n : Int) ≤ most ∧ ∀ i, i < n → FewAt (opv L i))) := by
  unfold maxLen at hn
  have hn' : n ≤ 9223372036854775807 := by omega
  obtain ⟨hm0, hm1⟩ := hm
  have HO := Lib.hid hO
  clear hn hO
  go_enter Try.func11, Try.ntmps11
  by_cases h0 : (n : Int) ≤ most
  · go_wp2_with fail
    go_loopw [5] (fun i wr => ∃ j : Nat, j ≤ n ∧ i = .int .i64 j ∧ Hid (∀ i, i < j → FewAt (opv L i)) ∧ wr = w) (fun i _ => n - (intOf i).toNat)
    case atStart => exact ⟨0, by omega, rfl, Lib.hid (fun i hi => by omega), rfl⟩
    case round =>
      obtain ⟨j, hj, rfl, HF, hw⟩ := hrel
      obtain ⟨W, hW⟩ : ∃ W, W = wr := ⟨_, rfl⟩
      rw [← hW] at hw ⊢
      subst hw
      clear hW
      by_cases hlt : j < n
      · obtain ⟨b, o, hA, hc⟩ := HO.out.2.2 (by omega)
        subst hA
        have hx := HO.out.2.1 _ (opv_mem (L := L) (j := j) (by rw [HO.out.1]; exact hlt))
        obtain ⟨x, hxe⟩ : ∃ x, x = opv L j := ⟨_, rfl⟩
        have hcj := hc j hlt
        rw [← hxe] at hx hcj
        have HXE := Lib.hid hxe
        obtain ⟨⟨io, ie, ia, ik, iu, jn, so, se, sk, ss, pl, pb, pz, ps⟩, hpr⟩ := hx
        unfold maxLen at so se sk ss pl
        have so' : x.obj.2.size ≤ 9223372036854775807 := by omega
        have se' : x.elem.2.size ≤ 9223372036854775807 := by omega
        have sk' : x.key.size ≤ 9223372036854775807 := by omega
        have ss' : x.s.size ≤ 9223372036854775807 := by omega
        have pl' : x.pn ≤ 9223372036854775807 := by omega
        have HP := Lib.hid hpr
        obtain ⟨c0, c1, c2, c3, c4, c5, c6, c7, c8, c9, c10, c11, c12⟩ := hcj
        clear hc hxe hpr io ie ia ik iu jn so se sk ss pl pb pz ps
        by_cases hx : x.pn ≤ 40 ∧ x.key.size ≤ 5000 ∧ x.s.size ≤ 5000 ∧ x.obj.2.size ≤ 100 ∧ x.elem.2.size ≤ 100
        · obtain ⟨h1, h2, h3, h4, h5⟩ := hx
          go_wp2_with fail
          go_loopw [6] (fun i wr => ∃ k : Nat, k ≤ x.pn ∧ i = .int .i64 k ∧ Hid (∀ i, i < k → (nm x.preds i).2.size ≤ 100) ∧ wr = W) (fun i _ => x.pn - (intOf i).toNat)
          case atStart => exact ⟨0, by omega, rfl, Lib.hid (fun i hi => by omega), rfl⟩
          case round =>
            obtain ⟨k, hk, rfl, HY, hw⟩ := hrel
            obtain ⟨W2, hW2⟩ : ∃ W, W = wr := ⟨_, rfl⟩
            rw [← hW2] at hw ⊢
            subst hw
            clear hW2
            by_cases hk2 : k < x.pn
            · obtain ⟨bp, op, hpA, hpc⟩ := HP.out.2 (by omega)
              obtain ⟨n0, n1⟩ := hpc k hk2
              obtain ⟨y, hy⟩ : ∃ y, y = nm x.preds k := ⟨_, rfl⟩
              rw [← hy] at n0 n1
              rw [hpA] at c12
              have HYe := Lib.hid hy
              clear hpc hpA hy
              by_cases hys : y.2.size ≤ 100
              · go_wp2_with fail
                go_roundw
                case rel =>
                  refine ⟨k + 1, by omega, by go_num, Lib.hid (fun i hi => ?_), trivial⟩
                  rcases Nat.lt_or_ge i k with g | g
                  · exact HY.out i g
                  · obtain rfl : i = k := by omega
                    rw [← HYe.out]; exact hys
                case measure => simp [intOf]; omega
              · go_wp2_with fail
                go_ret
                exact ⟨.inl rfl, rfl⟩
            · have Hke := Lib.hid (show k = x.pn by omega)
              go_wp2_with fail
              go_roundw
              case rel =>
                refine ⟨j + 1, by omega, by go_num, Lib.hid (fun i hi => ?_), trivial⟩
                rcases Nat.lt_or_ge i j with g | g
                · exact HF.out i g
                · obtain rfl : i = j := by omega
                  rw [← HXE.out]
                  exact ⟨h1, h2, h3, h4, h5, by rw [← Hke.out]; exact HY.out⟩
              case measure => simp [intOf]; omega
        · go_wp2_with fail
          all_goals first
            | exact absurd ⟨by omega, by omega, by omega, by omega, by omega⟩ hx
            | (go_ret; exact ⟨.inl rfl, rfl⟩)
      · obtain rfl : j = n := by omega
        go_wp2_with fail
        go_ret
        exact ⟨.inr ⟨rfl, h0, HF.out⟩, rfl⟩
  · go_wp2_with fail
    go_ret
    exact ⟨.inl rfl, rfl⟩
end Go.Proofs.Ytekhofnfikcpnaa
/-
  The walk of op.Names.
-/
namespace Go.Proofs.Ytekhofnfikcpnaa
open Go.RowKit

theorem namesL_next {L : List OpV} {j : Nat} (h : j < L.length) : namesL (L.take (j + 1)) = namesL (L.take j) ++ namesOf (opv L j) := by
  unfold namesL opv
  rw [List.take_succ_eq_append_getElem h, List.getD_eq_getElem?_getD, List.getElem?_eq_getElem h, List.flatMap_append]
  simp
set_option maxHeartbeats 1000000 in
set_option maxRecDepth 100000 in
theorem Names_calls (A : Option Addr) (n cap : Nat) (L : List OpV) (w : World) (hO : OpsAt w A n L) (hn : n ≤ 100) (hF : ∀ i, i < n → FewAt (opv L i)) :
    Calls Try.prog 28 #[.slice A n cap] w fun e w' => ∃ v, e = .returned v ∧ w'.ownsRow w.heap.size 26 2 v (namesL L).length (nms (namesL L)) ∧ (namesL L).length ≤ 42 * n ∧ Below w.heap.size w w' := by
  have HO := Lib.hid hO
  have HF := Lib.hid hF
  clear hO hF
  go_enter Try.func28, Try.ntmps28
  go_wp2_with fail
  go_loopw [3, 10] (fun v i wr => ∃ j : Nat, j ≤ n ∧ i = .int .i64 j ∧ Hid (wr.ownsRow w.heap.size 26 2 v (namesL (L.take j)).length (nms (namesL (L.take j)))) ∧ (namesL (L.take j)).length ≤ 42 * j ∧ Hid (Below w.heap.size w wr)) (fun _ i _ => n - (intOf i).toNat)
  case atStart => exact ⟨0, by omega, rfl, World.ownsRow_nil _ _ _ _, by simp [namesL], Below.refl _ _⟩
  case round =>
    obtain ⟨j, hj, rfl, HN, hN42, HB⟩ := hrel
    obtain ⟨W, hW⟩ : ∃ W, W = wr := ⟨_, rfl⟩
    subst hW
    by_cases hlt : j < n
    · obtain ⟨b, o, hA, hc⟩ := HO.out.2.2 (by omega)
      subst hA
      have hx := HO.out.2.1 _ (opv_mem (L := L) (j := j) (by rw [HO.out.1]; exact hlt))
      have hf := HF.out j hlt
      obtain ⟨x, hxe⟩ : ∃ x, x = opv L j := ⟨_, rfl⟩
      have hcj := (hc j hlt).below HB.out
      rw [← hxe] at hx hcj hf
      have HXE := Lib.hid hxe
      have HP := Lib.hid (hx.2.below HB.out)
      have HZ := Lib.hid hx.1.pz
      have hp40 := hf.p
      obtain ⟨c0, c1, c2, c3, c4, c5, c6, c7, c8, c9, c10, c11, c12⟩ := hcj
      clear hc hxe hx hf
      obtain ⟨ALL, hALL⟩ : ∃ ALL, ALL = x.obj :: x.elem :: x.preds := ⟨_, rfl⟩
      obtain ⟨M, hM⟩ : ∃ M, M = 2 + x.pn := ⟨_, rfl⟩
      have HALL := Lib.hid hALL
      have HM := Lib.hid hM
      have hM42 : M ≤ 42 := by omega
      clear hALL hM
      have hlit : ((W.alloc (.cells #[.int .i64 x.obj.1, .string x.obj.2, .string x.key, .bool x.keyed, .int .i64 x.elem.1, .string x.elem.2, .bool x.ins, .int .i64 x.act, .int .i64 x.kind, .int .u64 x.u, .int .i64 x.n, .string x.s, .slice x.pA x.pn x.pc] 32)).alloc (.cells #[.int .i64 x.obj.1, .string x.obj.2, .int .i64 x.elem.1, .string x.elem.2] 26)).ownsRow W.heap.size 26 2 (.slice (some ⟨W.heap.size + 1, 0, none⟩) 2 2) 2 [.int .i64 x.obj.1, .string x.obj.2, .int .i64 x.elem.1, .string x.elem.2] := by
        have h := World.ownsRow_lit (base := W.heap.size) (size := 2) (e := 26) (W.alloc (.cells #[.int .i64 x.obj.1, .string x.obj.2, .string x.key, .bool x.keyed, .int .i64 x.elem.1, .string x.elem.2, .bool x.ins, .int .i64 x.act, .int .i64 x.kind, .int .u64 x.u, .int .i64 x.n, .string x.s, .slice x.pA x.pn x.pc] 32)) #[.int .i64 x.obj.1, .string x.obj.2, .int .i64 x.elem.1, .string x.elem.2] 2 (by simp) (by simp [maxLen]) rfl
        simpa using h
      have Hlit := Lib.hid hlit
      have hp2 := HP.out.toV
      have hp3 := (hp2.below ((Below.refl W.heap.size W).alloc (Nat.le_refl _) (.cells #[.int .i64 x.obj.1, .string x.obj.2, .string x.key, .bool x.keyed, .int .i64 x.elem.1, .string x.elem.2, .bool x.ins, .int .i64 x.act, .int .i64 x.kind, .int .u64 x.u, .int .i64 x.n, .string x.s, .slice x.pA x.pn x.pc] 32)))
      have Hp4 := Lib.hid (hp3.below ((Below.refl _ _).alloc (Nat.le_refl _) (.cells #[.int .i64 x.obj.1, .string x.obj.2, .int .i64 x.elem.1, .string x.elem.2] 26)))
      clear hlit hp2 hp3
      go_wp2_with (at_builtin; refine wpList_appV rfl _ _ rfl elNm Hlit.out rfl rfl Hp4.out HZ.out (nms_one _) (by omega) (by simp <;> omega) ?_; intro v1 w1 hown1 hfr1 hat1; rw [← HM.out] at hown1; obtain ⟨A1, p1, rfl⟩ := own_slice hown1; have Hown1 := Lib.hid hown1; have Hfr1 := Lib.hid hfr1; clear hown1 hfr1 hat1)
      have hb1 : Below W.heap.size W w1 := (((Below.refl W.heap.size W).alloc (Nat.le_refl _) _).alloc (by simp) _).trans (Hfr1.out.below (by simp <;> omega) (fun o ho i e => by simp [Value.ownBlock] at ho; subst ho; simp at e; omega))
      have h1 : w1.ownsRow W.heap.size 26 2 (.slice A1 M p1) M (nms ALL) := by
        have h := Hown1.out
        have e : ([.int .i64 x.obj.1, .string x.obj.2, .int .i64 x.elem.1, .string x.elem.2] : List Value) ++ nms x.preds = nms ALL := by rw [HALL.out]; rfl
        rw [e] at h
        exact h
      have hALM : ALL.length = M := by rw [HALL.out, HM.out, ← HP.out.1]; simp; omega
      obtain ⟨N0, hN0⟩ : ∃ N, N = namesL (L.take j) := ⟨_, rfl⟩
      rw [← hN0] at HN hN42
      have HN0 := Lib.hid hN0
      have H1 := Lib.hid h1
      have HALM := Lib.hid hALM
      have hap : Apart u3.ownBlock (Value.slice A1 M p1).ownBlock := fun i hi e2 => by
        have q1 := (HN.out.lt i hi).2
        have q2 := (h1.lt i e2).1
        omega
      have Hap := Lib.hid hap
      have HN1 := Lib.hid (own_below HN.out hb1)
      have HB1 := Lib.hid (below_seq HB.out (Nat.le_refl _) hb1)
      have hbs := HB.out.size
      clear hb1 h1 hN0 hap hALM Hlit Hp4 Hfr1 Hown1 c0 c1 c2 c3 c4 c5 c6 c7 c8 c9 c10 c11 c12
      go_loopw [3, 23] (fun v i wr => ∃ k : Nat, k ≤ M ∧ i = .int .i64 k ∧ Hid (wr.ownsRow w.heap.size 26 2 v (N0 ++ (ALL.take k).filter fun y => !zeroNm y).length (nms (N0 ++ (ALL.take k).filter fun y => !zeroNm y))) ∧ (N0 ++ (ALL.take k).filter fun y => !zeroNm y).length ≤ 42 * j + k ∧ Hid (wr.ownsRow W.heap.size 26 2 (.slice A1 M p1) M (nms ALL)) ∧ Hid (Apart v.ownBlock (Value.slice A1 M p1).ownBlock) ∧ Hid (Below w.heap.size w wr)) (fun _ i _ => M - (intOf i).toNat)
      case atStart => exact ⟨0, by omega, rfl, Lib.hid (by simpa using HN1.out), by simpa using hN42, H1.out, Hap.out, HB1.out⟩
      case round =>
        obtain ⟨k, hk, rfl, HO2, hlen, H2, HA2, HB2⟩ := hrel
        obtain ⟨W2, hW2⟩ : ∃ W, W = wr := ⟨_, rfl⟩
        subst hW2
        by_cases hlk : k < M
        · obtain ⟨_, _, e2, _, hnm, _⟩ := own_nms H2.out
          cases e2
          obtain ⟨b2, o2, hA2, hc2⟩ := hnm.2 (by omega)
          obtain ⟨d0, d1⟩ := hc2 k hlk
          obtain ⟨y, hy⟩ : ∃ y, y = nm ALL k := ⟨_, rfl⟩
          rw [← hy] at d0 d1
          subst hA2
          have HY := Lib.hid hy
          clear hc2 hnm hy
          have hfn : (ALL.take (k + 1)).filter (fun y => !zeroNm y) = (ALL.take k).filter (fun y => !zeroNm y) ++ if zeroNm y then [] else [y] := by
            have hkA : k < ALL.length := by rw [HALM.out]; exact hlk
            rw [List.take_succ_eq_append_getElem hkA, List.filter_append]
            congr 1
            have : ALL[k] = y := by rw [HY.out]; unfold nm; rw [List.getD_eq_getElem?_getD, List.getElem?_eq_getElem hkA]; rfl
            rw [this]
            by_cases hz : zeroNm y = true <;> simp [hz]
          have Hfn := Lib.hid hfn
          clear hfn
          obtain ⟨OUT, hOUT⟩ : ∃ OUT, OUT = N0 ++ (ALL.take k).filter fun y => !zeroNm y := ⟨_, rfl⟩
          obtain ⟨nO, hnO⟩ : ∃ nO, nO = OUT.length := ⟨_, rfl⟩
          rw [← hOUT, ← hnO] at HO2
          rw [← hOUT, ← hnO] at hlen
          have HOUT := Lib.hid hOUT
          have HnO := Lib.hid hnO
          clear hOUT hnO
          obtain ⟨Au, pu, hvu⟩ := own_slice HO2.out
          subst hvu
          go_wp2_with fail
          refine (Zero_calls y _).mono ?_
          rintro e w3 ⟨rfl, hb3⟩
          have z0 := (laid_kept hb3 0 _ rfl).1
          have z1 := (laid_kept hb3 1 _ rfl).1
          have Hb23 := Lib.hid (((Below.refl W2.heap.size W2).alloc (Nat.le_refl _) _).trans (hb3.mono (by simp)))
          have HB23 := Lib.hid (HB2.out.trans (Hb23.out.mono HB2.out.size))
          have hsz3 := HB23.out.size
          have H23 := Lib.hid (own_below H2.out Hb23.out)
          have HO23 := Lib.hid (own_below HO2.out Hb23.out)
          clear hb3
          by_cases hz : zeroNm y = true
          · go_wp2_with fail
            go_roundw
            case rel =>
              have h := Hfn.out
              rw [if_pos hz, List.append_nil] at h
              exact ⟨k + 1, by omega, by go_num, by rw [h, ← HOUT.out, ← HnO.out]; exact HO23.out, by rw [h, ← HOUT.out, ← HnO.out]; omega, H23.out, HA2.out, HB23.out⟩
            case measure => simp [intOf]; omega
          · have hz' : zeroNm y = false := by simpa using hz
            go_wp2_with (at_builtin; refine wpList_app3 rfl _ _ rfl elNm HO23.out rfl rfl rfl rfl rfl (by omega) hsz3 ?_; intro g cg w4 hown4 hfr4 hat4 hlt4; have Hown4 := Lib.hid hown4; have Hfr4 := Lib.hid hfr4; have Hat4 := Lib.hid hat4; clear hown4 hfr4 hat4)
            go_roundw
            case rel =>
              have h := Hfn.out
              rw [if_neg hz] at h
              have ho := Hown4.out
              have e0 : N0 ++ (ALL.take (k + 1)).filter (fun y => !zeroNm y) = OUT ++ [y] := by rw [h, ← List.append_assoc, ← HOUT.out]
              have e : nms OUT ++ (#[Value.int .i64 y.1, Value.string y.2] : Array Value).toList = nms (N0 ++ (ALL.take (k + 1)).filter fun y => !zeroNm y) := by rw [e0, nms_app]; rfl
              have e2 : (N0 ++ (ALL.take (k + 1)).filter fun y => !zeroNm y).length = nO + 1 := by rw [e0, List.length_append, ← HnO.out]; rfl
              rw [e] at ho
              refine ⟨k + 1, by omega, by go_num, by rw [e2]; exact ho, by omega, own_fr H23.out Hfr4.out (fun o ho2 => by simp at ho2; subst ho2; exact HA2.out.symm), ?_, HB23.out.trans (Hfr4.out.below hsz3 (fun o ho2 i e3 => by simp at ho2; subst ho2; exact (HO23.out.lt i e3).1))⟩
              intro i hi e3
              have hi' : g = i := by simpa [Value.ownBlock] using hi
              subst hi'
              rcases Hat4.out with q | q
              · exact HA2.out g q e3
              · have q1 := (H23.out.lt g e3).2
                omega
            case measure => simp [intOf]; omega
        · obtain hke := Lib.hid (show k = M by omega)
          go_wp2_with fail
          go_roundw
          case rel =>
            have hfa : ALL.take k = ALL := List.take_of_length_le (by rw [HALM.out, hke.out]; exact Nat.le_refl _)
            have hno : N0 ++ ALL.filter (fun y => !zeroNm y) = namesL (L.take (j + 1)) := by
              rw [namesL_next (by rw [HO.out.1]; exact hlt), ← HN0.out, ← HXE.out, HALL.out]
              rfl
            rw [hfa, hno] at HO2 hlen
            exact ⟨j + 1, by omega, by go_num, HO2.out, by omega, HB2.out⟩
          case measure => simp [intOf]; omega
    · obtain rfl : j = n := by omega
      have hLt : L.take j = L := List.take_of_length_le (by rw [HO.out.1]; exact Nat.le_refl _)
      rw [hLt] at HN hN42
      go_wp2_with fail
      go_ret
      exact ⟨_, rfl, HN.out, hN42, HB.out⟩
end Go.Proofs.Ytekhofnfikcpnaa
/-
  The walk of the reference's Names.
-/
namespace Go.Proofs.Ytekhofnfikcpnaa
open Go.RowKit

theorem neqZero (y : Nm) : ∀ w, Sem.run Try.prog (binOp .neq 26 (.agg #[.int .i64 y.1, .string y.2]) (.agg #[.int .i64 0, .string ⟨#[]⟩])) w = .ok (.bool (!zeroNm y)) w := fun w => by
  have h := neqNm y.1 0 y.2 ⟨#[]⟩ w
  rw [h]
  have : ((y.1 == 0) && ((y.2 == (⟨#[]⟩ : ByteArray)) && true)) = zeroNm y := by rw [Bool.and_true]; rfl
  rw [this]
/-- A row of names that grows. -/
structure NSt (w wr : World) (v : Value) (n : Nat) (F : List Nm) : Prop where
  own : wr.ownsRow w.heap.size 26 2 v n (nms F)
  bel : Below w.heap.size w wr
theorem NSt.len {w wr : World} {v : Value} {n : Nat} {F : List Nm} (h : NSt w wr v n F) : F.length = n := by
  have := h.own.1
  rw [nms_length] at this
  omega
theorem NSt.app {w wr w4 : World} {v v' : Value} {n : Nat} {F : List Nm} {y : Nm} (h : NSt w wr v n F) (ho : w4.ownsRow w.heap.size 26 2 v' (n + 1) (nms F ++ (#[Value.int .i64 y.1, Value.string y.2] : Array Value).toList)) (hf : Fr wr w4 [v.ownBlock]) : NSt w w4 v' (n + 1) (F ++ [y]) :=
  ⟨by rw [nms_app]; exact ho, h.bel.trans (hf.below h.bel.size (fun o ho2 i e3 => by simp at ho2; subst ho2; exact (h.own.lt i e3).1))⟩
def keepNm (y : Nm) : List Nm := if zeroNm y then [] else [y]
theorem filter_keep (l : List Nm) : l.filter (fun y => !zeroNm y) = l.flatMap keepNm := by
  induction l with
  | nil => rfl
  | cons a l ih =>
    rw [List.flatMap_cons, ← ih]
    unfold keepNm
    by_cases h : zeroNm a = true <;> simp [h]
set_option maxHeartbeats 1000000 in
set_option maxRecDepth 100000 in
theorem rNames_calls (A : Option Addr) (n cap : Nat) (L : List OpV) (w : World) (hO : OpsAt w A n L) (hn : n ≤ 100) (hF : ∀ i, i < n → FewAt (opv L i)) :
    Calls Try.prog 19 #[.slice A n cap] w fun e w' => ∃ v, e = .returned v ∧ w'.ownsRow w.heap.size 26 2 v (namesL L).length (nms (namesL L)) ∧ (namesL L).length ≤ 42 * n ∧ Below w.heap.size w w' := by
  have HO := Lib.hid hO
  have HF := Lib.hid hF
  clear hO hF
  go_enter Try.func19, Try.ntmps19
  go_wp2_with fail
  go_loopg [3, 4] n (fun g v i wr => ∃ j m : Nat, j + g = n ∧ i = .int .i64 j ∧ Hid (NSt w wr v m (namesL (L.take j))) ∧ m ≤ 42 * j)
  case atStart => exact ⟨0, 0, by omega, rfl, ⟨World.ownsRow_nil _ _ _ _, Below.refl _ _⟩, by omega⟩
  case round =>
    obtain ⟨j, m, hj, rfl, HN, hm42⟩ := hrel
    obtain ⟨W, hW⟩ : ∃ W, W = wr := ⟨_, rfl⟩
    subst hW
    have HB := Lib.hid HN.out.bel
    by_cases hlt : j < n
    · obtain ⟨b, o, hA, hc⟩ := HO.out.2.2 (by omega)
      subst hA
      have hx := HO.out.2.1 _ (opv_mem (L := L) (j := j) (by rw [HO.out.1]; exact hlt))
      have hf := HF.out j hlt
      obtain ⟨x, hxe⟩ : ∃ x, x = opv L j := ⟨_, rfl⟩
      have hcw := hc j hlt
      have hcj := hcw.below HB.out
      rw [← hxe] at hx hcj hf hcw
      have HXE := Lib.hid hxe
      have HPw := Lib.hid hx.2
      have HCw := Lib.hid hcw
      have hp40 := hf.p
      have c0 := hcj.c0
      have c1 := hcj.c1
      obtain ⟨N0, hN0⟩ : ∃ N, N = namesL (L.take j) := ⟨_, rfl⟩
      rw [← hN0] at HN
      have HN0 := Lib.hid hN0
      have q0 := neqZero x.obj
      have q1 := neqZero x.elem
      obtain ⟨Au, pu, hvu⟩ := own_slice HN.out.own
      subst hvu
      have hsz := HB.out.size
      clear hc hxe hx hf hcw hcj hN0
      go_upto_if 18 with fail
      go_cut [3] from 6 to 72 (fun v wx => ∃ m1, Hid (NSt w wx v m1 (N0 ++ keepNm x.obj)) ∧ m1 ≤ m + 1)
      case first =>
        by_cases ho : zeroNm x.obj = true
        · rw [ho]
          go_wp2_with fail
          go_meet
          exact ⟨m, by unfold keepNm; rw [if_pos ho, List.append_nil]; exact HN.out, by omega⟩
        · have ho' : zeroNm x.obj = false := by simpa using ho
          rw [ho']
          go_wp2_with (at_builtin; refine wpList_app3 rfl _ _ rfl elNm HN.out.own rfl rfl rfl rfl rfl (by omega) hsz ?_; intro g4 cg w4 hown4 hfr4 hat4 hlt4; have H4 := Lib.hid (HN.out.app hown4 hfr4); clear hown4 hfr4 hat4)
          go_meet
          exact ⟨m + 1, by unfold keepNm; rw [if_neg ho]; exact H4.out, by omega⟩
      case rest =>
        obtain ⟨m1, H1, hm1⟩ := hcut
        obtain ⟨W1, hW1⟩ : ∃ W, W = wc := ⟨_, rfl⟩
        subst hW1
        obtain ⟨Av, pv, hvv⟩ := own_slice H1.out.own
        subst hvv
        have hc1 := HCw.out.below H1.out.bel
        have c4 := hc1.c4
        have c5 := hc1.c5
        have hsz1 := H1.out.bel.size
        clear c0 c1 hc1
        go_upto_if 33 with fail
        go_cut [3] from 6 to 72 (fun v wx => ∃ m2, Hid (NSt w wx v m2 (N0 ++ keepNm x.obj ++ keepNm x.elem)) ∧ m2 ≤ m + 2)
        case first =>
          by_cases ho : zeroNm x.elem = true
          · rw [ho]
            go_wp2_with fail
            go_meet
            exact ⟨m1, by unfold keepNm; rw [if_pos ho, List.append_nil]; exact H1.out, by omega⟩
          · have ho' : zeroNm x.elem = false := by simpa using ho
            rw [ho']
            go_wp2_with (at_builtin; refine wpList_app3 rfl _ _ rfl elNm H1.out.own rfl rfl rfl rfl rfl (by omega) hsz1 ?_; intro g4 cg w4 hown4 hfr4 hat4 hlt4; have H4 := Lib.hid (H1.out.app hown4 hfr4); clear hown4 hfr4 hat4)
            go_meet
            exact ⟨m1 + 1, by unfold keepNm; rw [if_neg ho]; exact H4.out, by omega⟩
        case rest =>
          obtain ⟨m2, H2, hm2⟩ := hcut
          obtain ⟨W2, hW2⟩ : ∃ W, W = wc := ⟨_, rfl⟩
          subst hW2
          have hlp : Hid (x.preds.length = x.pn) := Lib.hid HPw.out.1
          clear c4 c5 hsz1 q0 q1 hsz
          go_wp2_with fail
          go_loopg [3, 5] x.pn (fun g2 v i wx => ∃ k m3 : Nat, k + g2 = x.pn ∧ i = .int .i64 k ∧ Hid (NSt w wx v m3 (N0 ++ keepNm x.obj ++ keepNm x.elem ++ (x.preds.take k).flatMap keepNm)) ∧ m3 ≤ m + 2 + k)
          case atStart => exact ⟨0, m2, by omega, rfl, Lib.hid (by simpa using H2.out), by omega⟩
          case round =>
            obtain ⟨k, m3, hk, rfl, H3, hm3⟩ := hrel
            obtain ⟨W3, hW3⟩ : ∃ W, W = wr := ⟨_, rfl⟩
            subst hW3
            have c12 := (HCw.out.below H3.out.bel).c12
            have hsz3 := H3.out.bel.size
            by_cases hkl : k < x.pn
            · obtain ⟨bp, op, hpA, hpc⟩ := HPw.out.2 (by omega)
              obtain ⟨d0, d1⟩ := (hpc k hkl).below H3.out.bel
              obtain ⟨y, hy⟩ : ∃ y, y = nm x.preds k := ⟨_, rfl⟩
              rw [← hy] at d0 d1
              rw [hpA] at c12
              have hfn : (x.preds.take (k + 1)).flatMap keepNm = (x.preds.take k).flatMap keepNm ++ keepNm y := by
                have hkA : k < x.preds.length := by rw [hlp.out]; exact hkl
                rw [List.take_succ_eq_append_getElem hkA, List.flatMap_append]
                congr 1
                have : x.preds[k] = y := by rw [hy]; unfold nm; rw [List.getD_eq_getElem?_getD, List.getElem?_eq_getElem hkA]; rfl
                rw [this]
                simp
              have Hfn := Lib.hid hfn
              have qy := neqZero y
              obtain ⟨Av3, pv3, hvv3⟩ := own_slice H3.out.own
              subst hvv3
              clear hpc hpA hy hfn
              by_cases ho : zeroNm y = true
              · have hb9 : (!zeroNm y) = false := by rw [ho]; rfl
                go_wp2_with fail
                go_roundg (gk - 1)
                case measure => omega
                case rel =>
                  exact ⟨k + 1, m3, by omega, by go_num, by rw [Hfn.out]; unfold keepNm; rw [if_pos ho, List.append_nil]; exact H3.out, by omega⟩
              · have ho' : zeroNm y = false := by simpa using ho
                have hb9 : (!zeroNm y) = true := by rw [ho']; rfl
                go_wp2_with (at_builtin; refine wpList_app3 rfl _ _ rfl elNm H3.out.own rfl rfl rfl rfl rfl (by omega) hsz3 ?_; intro g4 cg w4 hown4 hfr4 hat4 hlt4; have H4 := Lib.hid (H3.out.app hown4 hfr4); clear hown4 hfr4 hat4)
                go_roundg (gk - 1)
                case measure => omega
                case rel =>
                  have e9 : keepNm y = [y] := by unfold keepNm; rw [if_neg ho]
                  exact ⟨k + 1, m3 + 1, by omega, by go_num, by rw [Hfn.out, e9, ← List.append_assoc]; exact H4.out, by omega⟩
            · have Hke := Lib.hid (show k = x.pn by omega)
              go_wp2_with fail
              go_roundg (n - j - 1)
              case measure => omega
              case rel =>
                have hfa : x.preds.take k = x.preds := List.take_of_length_le (by rw [hlp.out, Hke.out]; exact Nat.le_refl _)
                have hno : N0 ++ keepNm x.obj ++ keepNm x.elem ++ x.preds.flatMap keepNm = namesL (L.take (j + 1)) := by
                  rw [namesL_next (by rw [HO.out.1]; exact hlt), ← HN0.out, ← HXE.out]
                  unfold namesOf
                  rw [filter_keep, List.flatMap_cons, List.flatMap_cons]
                  simp [List.append_assoc]
                have h3 := H3.out
                rw [hfa, hno] at h3
                exact ⟨j + 1, m3, by omega, by go_num, h3, by omega⟩
    · obtain rfl : j = n := by omega
      have hLt : L.take j = L := List.take_of_length_le (by rw [HO.out.1]; exact Nat.le_refl _)
      rw [hLt] at HN
      have hl := HN.out.len
      subst hl
      go_wp2_with fail
      go_ret
      exact ⟨_, rfl, HN.out.own, by omega, HB.out⟩
end Go.Proofs.Ytekhofnfikcpnaa
/-
  Who is spoken of (no program).
-/
namespace Go.Proofs.Ytekhofnfikcpnaa
open Go.RowKit

abbrev bytes (s : ByteArray) : List UInt8 := s.data.toList
abbrev text (l : List UInt8) : ByteArray := ⟨l.toArray⟩
theorem text_bytes (s : ByteArray) : text (bytes s) = s := by simp [bytes]
theorem bytes_text (l : List UInt8) : bytes (text l) = l := by simp [bytes]
theorem bytes_inj' {a b : ByteArray} (h : bytes a = bytes b) : a = b := by rw [← text_bytes a, h, text_bytes]
theorem tl_iff (a b : ByteArray) : a.toList = b.toList ↔ a = b := by
  rw [Lib.toList_data, Lib.toList_data]
  exact ⟨bytes_inj', fun e => by rw [e]⟩
theorem tl_beq (a b : ByteArray) : (a.toList == b.toList) = decide (a = b) := by
  by_cases h : a = b
  · subst h; rw [decide_eq_true rfl]; exact beq_self_eq_true _
  · rw [decide_eq_false h]; exact beq_eq_false_iff_ne.2 (fun e => h ((tl_iff a b).1 e))
def ltB (a b : ByteArray) : Prop := bytes a < bytes b
theorem ltB_irrefl (a : ByteArray) : ¬ ltB a a := List.lt_irrefl _
theorem ltB_trans {a b c : ByteArray} (h : ltB a b) (k : ltB b c) : ltB a c := List.lt_trans h k
theorem ltB_or {a b : ByteArray} (h : ¬ ltB a b) (hne : a ≠ b) : ltB b a := by
  have h1 : bytes b ≤ bytes a := List.not_lt.1 h
  refine Classical.byContradiction fun h2 => hne (bytes_inj' ?_)
  exact List.le_antisymm (List.not_lt.1 h2) h1
theorem unique_rising : ∀ {l m : List ByteArray}, l.Pairwise ltB → m.Pairwise ltB → (∀ x, x ∈ l ↔ x ∈ m) → l = m := by
  intro l
  induction l with
  | nil =>
    intro m _ _ h
    cases m with
    | nil => rfl
    | cons b m => exact absurd ((h b).2 (List.mem_cons_self ..)) (by simp)
  | cons a l ih =>
    intro m hl hm h
    cases m with
    | nil => exact absurd ((h a).1 (List.mem_cons_self ..)) (by simp)
    | cons b m =>
      obtain ⟨h1, h2⟩ := List.pairwise_cons.1 hl
      obtain ⟨k1, k2⟩ := List.pairwise_cons.1 hm
      have hab : a = b := by
        rcases List.mem_cons.1 ((h a).1 (List.mem_cons_self ..)) with e | e
        · exact e
        · rcases List.mem_cons.1 ((h b).2 (List.mem_cons_self ..)) with e2 | e2
          · exact e2.symm
          · exact absurd (ltB_trans (k1 a e) (h1 b e2)) (ltB_irrefl _)
      subst hab
      congr 1
      refine ih h2 k2 (fun x => ?_)
      constructor
      · intro hx
        rcases List.mem_cons.1 ((h x).1 (List.mem_cons_of_mem _ hx)) with e | e
        · subst e; exact absurd (h1 x hx) (ltB_irrefl _)
        · exact e
      · intro hx
        rcases List.mem_cons.1 ((h x).2 (List.mem_cons_of_mem _ hx)) with e | e
        · subst e; exact absurd (k1 x hx) (ltB_irrefl _)
        · exact e
/-- The author, and behind it all others that are spoken of, rising. -/
structure IsTable (au : ByteArray) (N : List Nm) (T : List ByteArray) : Prop where
  is : ∃ t, T = au :: t ∧ t.Pairwise ltB ∧ ∀ s, s ∈ t ↔ s ≠ au ∧ ∃ y ∈ N, y.2 = s
theorem IsTable.same {au : ByteArray} {N N' : List Nm} {T T' : List ByteArray} (h : IsTable au N T) (k : IsTable au N' T') (hN : ∀ s, (∃ y ∈ N, y.2 = s) ↔ ∃ y ∈ N', y.2 = s) : T = T' := by
  obtain ⟨t, rfl, h1, h2⟩ := h.is
  obtain ⟨t', rfl, k1, k2⟩ := k.is
  congr 1
  exact unique_rising h1 k1 (fun x => by rw [h2, k2, hN])
/-- Those that were met, each once. -/
structure Dist (au : ByteArray) (N : List Nm) (out : List ByteArray) : Prop where
  once : out.Nodup
  mem : ∀ s, s ∈ out ↔ s ≠ au ∧ ∃ y ∈ N, y.2 = s
theorem Dist.nil (au : ByteArray) : Dist au [] [] := ⟨List.nodup_nil, fun s => by simp⟩
theorem Dist.old {au : ByteArray} {N : List Nm} {out : List ByteArray} {y : Nm} (h : Dist au N out) (hy : y.2 = au ∨ y.2 ∈ out) : Dist au (N ++ [y]) out := by
  refine ⟨h.once, fun s => ?_⟩
  rw [h.mem s]
  constructor
  · rintro ⟨h1, z, hz, e⟩
    exact ⟨h1, z, List.mem_append_left _ hz, e⟩
  · rintro ⟨h1, z, hz, rfl⟩
    refine ⟨h1, ?_⟩
    rcases List.mem_append.1 hz with hz | hz
    · exact ⟨z, hz, rfl⟩
    · obtain rfl : z = y := by simpa using hz
      rcases hy with e | e
      · exact absurd e h1
      · exact ((h.mem _).1 e).2
theorem Dist.new {au : ByteArray} {N : List Nm} {out : List ByteArray} {y : Nm} (h : Dist au N out) (hy : ¬ (y.2 = au ∨ y.2 ∈ out)) : Dist au (N ++ [y]) (out ++ [y.2]) := by
  refine ⟨?_, fun s => ?_⟩
  · rw [List.nodup_append]
    refine ⟨h.once, by simp, fun a ha b hb => ?_⟩
    obtain rfl : b = y.2 := by simpa using hb
    rintro rfl
    exact hy (.inr ha)
  · rw [List.mem_append, h.mem s]
    constructor
    · rintro (⟨h1, z, hz, e⟩ | hs)
      · exact ⟨h1, z, List.mem_append_left _ hz, e⟩
      · obtain rfl : s = y.2 := by simpa using hs
        exact ⟨fun e => hy (.inl e), y, by simp, rfl⟩
    · rintro ⟨h1, z, hz, rfl⟩
      rcases List.mem_append.1 hz with hz | hz
      · exact .inl ⟨h1, z, hz, rfl⟩
      · obtain rfl : z = y := by simpa using hz
        exact .inr (by simp)
theorem Dist.table {au : ByteArray} {N : List Nm} {out : List ByteArray} (h : Dist au N out) : IsTable au N (au :: ((out.map bytes).mergeSort fun x y => decide (x ≤ y)).map text) := by
  have tr : ∀ a b c : List UInt8, decide (a ≤ b) = true → decide (b ≤ c) = true → decide (a ≤ c) = true := fun a b c h1 h2 => by simp only [decide_eq_true_eq] at *; exact List.le_trans h1 h2
  have tot : ∀ a b : List UInt8, (decide (a ≤ b) || decide (b ≤ a)) = true := fun a b => by simp only [Bool.or_eq_true, decide_eq_true_eq]; exact List.le_total a b
  have hp := List.pairwise_mergeSort (le := fun x y : List UInt8 => decide (x ≤ y)) tr tot (out.map bytes)
  have hperm := List.mergeSort_perm (out.map bytes) (fun x y => decide (x ≤ y))
  have hnd : (out.map bytes).Nodup := by
    refine List.pairwise_map.2 (h.once.imp ?_)
    intro a b hne e
    exact hne (bytes_inj' e)
  have hnd2 := hperm.nodup_iff.2 hnd
  refine ⟨⟨_, rfl, ?_, fun s => ?_⟩⟩
  · refine List.pairwise_map.2 ?_
    refine (hp.and hnd2).imp ?_
    rintro a b ⟨h1, h2⟩
    simp only [decide_eq_true_eq] at h1
    show bytes (text a) < bytes (text b)
    rw [bytes_text, bytes_text]
    exact Decidable.byContradiction fun h3 => h2 (List.le_antisymm h1 (List.not_lt.1 h3))
  · rw [← h.mem s, List.mem_map]
    constructor
    · rintro ⟨l, hl, rfl⟩
      obtain ⟨x, hx, rfl⟩ := List.mem_map.1 (hperm.mem_iff.1 hl)
      rw [text_bytes]; exact hx
    · intro hs
      exact ⟨bytes s, hperm.mem_iff.2 (List.mem_map.2 ⟨s, hs, rfl⟩), text_bytes s⟩
theorem IsTable.length {au : ByteArray} {N : List Nm} {T : List ByteArray} (h : IsTable au N T) : 0 < T.length := by
  obtain ⟨t, rfl, _⟩ := h.is
  simp
theorem namesL_small {L : List OpV} {n : Nat} (hl : L.length = n) (hF : ∀ i, i < n → (opv L i).obj.2.size ≤ 100 ∧ (opv L i).elem.2.size ≤ 100 ∧ ∀ y ∈ (opv L i).preds, y.2.size ≤ 100) : ∀ y ∈ namesL L, y.2.size ≤ 100 := by
  intro y hy
  obtain ⟨x, hx, hy⟩ := List.mem_flatMap.1 hy
  obtain ⟨i, hi, rfl⟩ := List.getElem_of_mem hx
  have h9 := hF i (by omega)
  have e : opv L i = L[i] := by unfold opv; rw [List.getD_eq_getElem?_getD, List.getElem?_eq_getElem hi]; rfl
  rw [e] at h9
  unfold namesOf at hy
  have hm := (List.mem_filter.1 hy).1
  rcases List.mem_cons.1 hm with rfl | hm
  · exact h9.1
  rcases List.mem_cons.1 hm with rfl | hm
  · exact h9.2.1
  · exact h9.2.2 y hm
end Go.Proofs.Ytekhofnfikcpnaa
/-
  slices.Sort at strings, by the shelf.
-/
namespace Go.Proofs.Ytekhofnfikcpnaa
open Go.RowKit Go.Shelf
end Go.Proofs.Ytekhofnfikcpnaa
namespace Go.Proofs
open Go.Shelf
shelf_lay_g SlLaysN.n54 Slgn 54 at Try 29 as Try.sortStr
end Go.Proofs
