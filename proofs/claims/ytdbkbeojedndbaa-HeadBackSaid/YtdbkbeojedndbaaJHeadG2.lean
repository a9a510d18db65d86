/-
  Texts joined into one file: Str, Ops, LebSP, NmEq, TlB, TabP, ReadsP.
-/
import Derived.Test.YtdbkbeojedndbaaJHeadG1
import Derived.Laws.AppendOwnNone
import Derived.ProofKit
import Derived.OpenShut
import Derived.ChangeSame
import Derived.ChangeSlices
import Derived.Lib.Bytes
import Derived.Sort.KeysCollected
import Derived.Lib.Strings
/-
  Rows of values of one size that are read; an append of such a row; rows of strings.
-/
namespace Go.Proofs.Ytdbkbeojedndbaa
open Go.RowKit

/-- m elements of s cells each, one behind the other. -/
def RdV (w : World) (A : Option Addr) (m s : Nat) (vs : List Value) : Prop :=
  vs.length = m * s ∧ (0 < m → ∃ b o, A = some ⟨b, o, none⟩ ∧ ∀ j u, vs[j]? = some u → w.cell? ⟨b, o + j, none⟩ = some u)
theorem RdV.below {w w' : World} {A : Option Addr} {m s : Nat} {vs : List Value} (h : RdV w A m s vs) (hb : Below w.heap.size w w') : RdV w' A m s vs :=
  ⟨h.1, fun hm => by obtain ⟨b, o, e, hc⟩ := h.2 hm; exact ⟨b, o, e, fun j u hu => kept_cell hb (hc j u hu)⟩⟩
theorem own_rdV {w : World} {base n s : Nat} {e : TypeId} {v : Value} {xs : List Value} (h : w.ownsRow base e s v n xs) : ∃ A c, v = .slice A n c ∧ n ≤ c ∧ RdV w A n s xs ∧ (A = none → n = 0 ∧ c = 0) := by
  have hl := h.1
  rcases h.2 with ⟨rfl, rfl⟩ | ⟨g, cap, cur, rfl, hb, hg, hc, _⟩
  · exact ⟨none, 0, rfl, Nat.le_refl _, ⟨hl, fun h0 => by omega⟩, fun _ => ⟨rfl, rfl⟩⟩
  · refine ⟨_, cap, rfl, hc, ⟨hl, fun _ => ⟨g, 0, rfl, fun j u hu => ?_⟩⟩, fun e => by cases e⟩
    have hj : j < xs.length := (List.getElem?_eq_some_iff.1 hu).1
    rw [Nat.zero_add, h.cellAt j (by rw [hl] at hj; exact hj)]
    exact hu
/-- 'append' of a row that is read: where the row lies then. -/
theorem wpList_appV {P : Program} {w : World} {ops : Array Oper} {rest : List Oper} {o : Oper} {a : Act} {Q : Exit → Act → World → Prop} (hgd : o.guard = none) (s x : Operand) {t : TypeId}
    (ho : o.op = .call { callee := .builtin .append, args := #[s, x], argTypes := #[t, t] })
    {base : Nat} {e : TypeId} {z : Value} {size bytes : Nat} (El : ElT P t e z size bytes) {v : Value} {n : Nat} {xs : List Value} (hown : w.ownsRow base e size v n xs) (hs : a.eval s = v)
    {A : Option Addr} {m c : Nat} {vs : List Value} (hx : a.eval x = .slice A m c) (hR : RdV w A m size vs) (hA : A = none → m = 0 ∧ c = 0) (h1 : vs.all (fun u => u.oneCell') = true) (hbytes : (n + m) * bytes ≤ 140737488355328) (hbase : base ≤ w.heap.size)
    (h : ∀ v' w', w'.ownsRow base e size v' (n + m) (xs ++ vs) → Fr w w' [v.ownBlock] → (v'.ownBlock = v.ownBlock ∨ ∀ k, v'.ownBlock = some k → w.heap.size ≤ k) → wpList P ops Q rest (a.put o.dst v') w') : wpList P ops Q (o :: rest) a w := by
  obtain ⟨i0, hi, hz0, hz1, hz2⟩ := info_parts El.info
  have hn : n + m ≤ maxLen := by
    have := Nat.mul_le_mul_left (n + m) El.bpos
    unfold maxLen
    omega
  have hl := hR.1
  cases A with
  | none =>
    obtain ⟨rfl, rfl⟩ := hA rfl
    have hz : vs = [] := List.length_eq_zero_iff.1 (by omega)
    subst hz
    refine wpList_append_own_none hgd s x t ho base e i0 size El.und hi v n _ hs hown hx (h v w ?_ (Fr.refl _ _) (.inl rfl))
    simpa using hown
  | some ad =>
    refine wpList_append_own_at _ hgd s x t ho base e i0 z size bytes El.und hi hz0 hz1 hz2 El.zs El.pos v n _ hs hown ad m c vs hx hl ?_ (fun u hu => List.all_eq_true.1 h1 u hu) hn hbytes hbase ?_
    · intro j u hu
      have hj : j < vs.length := (List.getElem?_eq_some_iff.1 hu).1
      have hm : 0 < m := by
        rcases Nat.eq_zero_or_pos m with h0 | h0
        · subst h0; omega
        · exact h0
      obtain ⟨b, o', e', hc⟩ := hR.2 hm
      cases e'
      rw [addr_add]
      exact hc j u hu
    · intro v' w' h2 h3 _ h5
      exact h v' w' h2 (Fr.ofGrown h3) (h5.imp id (fun e k hk => by rw [e] at hk; cases hk; exact Nat.le_refl _))
def strs (L : List ByteArray) : List Value := L.map Value.string
theorem strs_app (a b : List ByteArray) : strs (a ++ b) = strs a ++ strs b := List.map_append
theorem strs_length (L : List ByteArray) : (strs L).length = L.length := List.length_map ..
theorem strs_one (L : List ByteArray) : (strs L).all (fun u => u.oneCell') = true := by
  rw [List.all_eq_true]
  intro u hu
  obtain ⟨x, _, rfl⟩ := List.mem_map.1 hu
  rfl
def str (L : List ByteArray) (j : Nat) : ByteArray := L.getD j ByteArray.empty
theorem strs_get {L : List ByteArray} {j : Nat} (h : j < L.length) : (strs L)[j]? = some (.string (str L j)) := by
  simp [strs, str, List.getD_eq_getElem?_getD, List.getElem?_eq_getElem h]
/-- Strings one behind the other. -/
def RdS (w : World) (A : Option Addr) (n : Nat) (L : List ByteArray) : Prop := L.length = n ∧ (0 < n → ∃ b o, A = some ⟨b, o, none⟩ ∧ ∀ j, j < n → w.cell? ⟨b, o + j, none⟩ = some (.string (str L j)))
theorem RdS.below {w w' : World} {A : Option Addr} {n : Nat} {L : List ByteArray} (h : RdS w A n L) (hb : Below w.heap.size w w') : RdS w' A n L :=
  ⟨h.1, fun hm => by obtain ⟨b, o, e, hc⟩ := h.2 hm; exact ⟨b, o, e, fun j hj => kept_cell hb (hc j hj)⟩⟩
theorem RdS.of {w : World} {A : Option Addr} {n : Nat} {L : List ByteArray} (h : RdV w A n 1 (strs L)) : RdS w A n L := by
  have hl := h.1
  rw [strs_length, Nat.mul_one] at hl
  refine ⟨hl, fun hn => ?_⟩
  obtain ⟨b, o, e, hc⟩ := h.2 hn
  exact ⟨b, o, e, fun j hj => hc j _ (strs_get (by omega))⟩
theorem RdS.toV {w : World} {A : Option Addr} {n : Nat} {L : List ByteArray} (h : RdS w A n L) : RdV w A n 1 (strs L) := by
  refine ⟨by rw [strs_length, Nat.mul_one]; exact h.1, fun hn => ?_⟩
  obtain ⟨b, o, e, hc⟩ := h.2 hn
  refine ⟨b, o, e, fun j u hu => ?_⟩
  have hj : j < L.length := by have := (List.getElem?_eq_some_iff.1 hu).1; rwa [strs_length] at this
  rw [strs_get hj] at hu
  cases hu
  exact hc j (by rw [← h.1]; exact hj)
theorem own_rdS {w : World} {base n : Nat} {e : TypeId} {v : Value} {L : List ByteArray} (h : w.ownsRow base e 1 v n (strs L)) : ∃ A c, v = .slice A n c ∧ n ≤ c ∧ RdS w A n L ∧ (A = none → n = 0 ∧ c = 0) := by
  obtain ⟨A, c, e, h1, h2, h3⟩ := own_rdV h
  exact ⟨A, c, e, h1, RdS.of h2, h3⟩
end Go.Proofs.Ytdbkbeojedndbaa
/-
  Slices of ops as rows hold them.
-/
namespace Go.Proofs.Ytdbkbeojedndbaa
open Go.RowKit

/-- An op's name: its number, and whose it is. -/
abbrev Nm := Int × ByteArray
def nm (L : List Nm) (j : Nat) : Nm := L.getD j (0, ByteArray.empty)
structure NmCells (w : World) (b p : Nat) (x : Nm) : Prop where
  c0 : w.cell? ⟨b, p, none⟩ = some (.int .i64 x.1)
  c1 : w.cell? ⟨b, p + 1, none⟩ = some (.string x.2)
theorem NmCells.below {w w' : World} {b p : Nat} {x : Nm} (h : NmCells w b p x) (hb : Below w.heap.size w w') : NmCells w' b p x := ⟨kept_cell hb h.c0, kept_cell hb h.c1⟩
def NmsAt (w : World) (A : Option Addr) (n : Nat) (L : List Nm) : Prop := L.length = n ∧ (0 < n → ∃ b o, A = some ⟨b, o, none⟩ ∧ ∀ j, j < n → NmCells w b (o + j * 2) (nm L j))
theorem NmsAt.below {w w' : World} {A : Option Addr} {n : Nat} {L : List Nm} (h : NmsAt w A n L) (hb : Below w.heap.size w w') : NmsAt w' A n L :=
  ⟨h.1, fun hm => by obtain ⟨b, o, e, hc⟩ := h.2 hm; exact ⟨b, o, e, fun j hj => (hc j hj).below hb⟩⟩
structure OpV where
  obj : Nm
  key : ByteArray
  keyed : Bool
  elem : Nm
  ins : Bool
  act : Int
  kind : Int
  u : Int
  n : Int
  s : ByteArray
  preds : List Nm
  pA : Option Addr
  pn : Nat
  pc : Nat
def noOp : OpV := ⟨(0, ByteArray.empty), ByteArray.empty, false, (0, ByteArray.empty), false, 0, 0, 0, 0, ByteArray.empty, [], none, 0, 0⟩
def opv (L : List OpV) (j : Nat) : OpV := L.getD j noOp
structure OpCells (w : World) (b p : Nat) (x : OpV) : Prop where
  c0 : w.cell? ⟨b, p, none⟩ = some (.int .i64 x.obj.1)
  c1 : w.cell? ⟨b, p + 1, none⟩ = some (.string x.obj.2)
  c2 : w.cell? ⟨b, p + 2, none⟩ = some (.string x.key)
  c3 : w.cell? ⟨b, p + 3, none⟩ = some (.bool x.keyed)
  c4 : w.cell? ⟨b, p + 4, none⟩ = some (.int .i64 x.elem.1)
  c5 : w.cell? ⟨b, p + 5, none⟩ = some (.string x.elem.2)
  c6 : w.cell? ⟨b, p + 6, none⟩ = some (.bool x.ins)
  c7 : w.cell? ⟨b, p + 7, none⟩ = some (.int .i64 x.act)
  c8 : w.cell? ⟨b, p + 8, none⟩ = some (.int .i64 x.kind)
  c9 : w.cell? ⟨b, p + 9, none⟩ = some (.int .u64 x.u)
  c10 : w.cell? ⟨b, p + 10, none⟩ = some (.int .i64 x.n)
  c11 : w.cell? ⟨b, p + 11, none⟩ = some (.string x.s)
  c12 : w.cell? ⟨b, p + 12, none⟩ = some (.slice x.pA x.pn x.pc)
theorem OpCells.below {w w' : World} {b p : Nat} {x : OpV} (h : OpCells w b p x) (k : Below w.heap.size w w') : OpCells w' b p x :=
  ⟨kept_cell k h.c0, kept_cell k h.c1, kept_cell k h.c2, kept_cell k h.c3, kept_cell k h.c4, kept_cell k h.c5, kept_cell k h.c6, kept_cell k h.c7, kept_cell k h.c8, kept_cell k h.c9, kept_cell k h.c10, kept_cell k h.c11, kept_cell k h.c12⟩
def I64 (n : Int) : Prop := -9223372036854775808 ≤ n ∧ n ≤ 9223372036854775807
/-- What an op holds beside its cells. -/
structure OpWf (x : OpV) : Prop where
  io : I64 x.obj.1
  ie : I64 x.elem.1
  ia : I64 x.act
  ik : I64 x.kind
  iu : 0 ≤ x.u ∧ x.u ≤ 18446744073709551615
  jn : I64 x.n
  so : x.obj.2.size ≤ maxLen
  se : x.elem.2.size ≤ maxLen
  sk : x.key.size ≤ maxLen
  ss : x.s.size ≤ maxLen
  pl : x.pn ≤ maxLen
  pb : x.pn ≤ x.pc
  pz : x.pA = none → x.pn = 0 ∧ x.pc = 0
  ps : ∀ y ∈ x.preds, I64 y.1 ∧ y.2.size ≤ maxLen
def OpsAt (w : World) (A : Option Addr) (n : Nat) (L : List OpV) : Prop :=
  L.length = n ∧ (∀ x ∈ L, OpWf x ∧ NmsAt w x.pA x.pn x.preds) ∧ (0 < n → ∃ b o, A = some ⟨b, o, none⟩ ∧ ∀ j, j < n → OpCells w b (o + j * 13) (opv L j))
theorem OpsAt.below {w w' : World} {A : Option Addr} {n : Nat} {L : List OpV} (h : OpsAt w A n L) (hb : Below w.heap.size w w') : OpsAt w' A n L :=
  ⟨h.1, fun x hx => ⟨(h.2.1 x hx).1, (h.2.1 x hx).2.below hb⟩, fun hm => by obtain ⟨b, o, e, hc⟩ := h.2.2 hm; exact ⟨b, o, e, fun j hj => (hc j hj).below hb⟩⟩
theorem opv_mem {L : List OpV} {j : Nat} (h : j < L.length) : opv L j ∈ L := by
  unfold opv
  rw [List.getD_eq_getElem?_getD, List.getElem?_eq_getElem h]
  exact List.getElem_mem h
theorem any_choice {α : Type} (d : α) {P : Nat → α → Prop} (n : Nat) (h : ∀ j, j < n → ∃ x, P j x) : ∃ l : List α, l.length = n ∧ ∀ j, j < n → P j (l.getD j d) := by
  have h' : ∀ j, ∃ x, j < n → P j x := fun j => by
    by_cases hj : j < n
    · obtain ⟨x, hx⟩ := h j hj; exact ⟨x, fun _ => hx⟩
    · exact ⟨d, fun hh => absurd hh hj⟩
  have ⟨f, hf⟩ := Classical.axiomOfChoice h'
  refine ⟨(List.range n).map f, by simp, fun j hj => ?_⟩
  have : ((List.range n).map f).getD j d = f j := by simp [List.getD_eq_getElem?_getD, List.getElem?_range hj]
  rw [this]
  exact hf j hj
theorem i64_wf {n : Int} (h : (Lit.int .i64 n).wf = true) : I64 n := by
  simp [Lit.wf, IntKind.min, IntKind.max, IntKind.signed, IntKind.bits] at h
  unfold I64
  omega
theorem u64_wf {n : Int} (h : (Lit.int .u64 n).wf = true) : 0 ≤ n ∧ n ≤ 18446744073709551615 := by
  simp [Lit.wf, IntKind.min, IntKind.max, IntKind.signed, IntKind.bits] at h
  omega
section
variable {H : Type} {enc : TypeId × Value → H} {w : World} {base : Nat} {sp : Nat → Bool} {held : Bool}
set_option maxRecDepth 100000 in
theorem nm_of_trod {fuel : Nat} {cs : List Value} {x : DataW H × List MemPlace} (h : DataW.trod enc Try.prog w base sp held fuel 44 cs = some x) : ∃ y : Nm, cs = [.int .i64 y.1, .string y.2] ∧ I64 y.1 ∧ y.2.size ≤ maxLen := by
  obtain ⟨xs, n, _, _, hl, hxl, hx⟩ := DataW.trod_struct Try.underlying44 h
  have c : Try.prog.cellsOf 44 = 2 := by kernel_rfl
  have c0 : Try.prog.cellsOf 2 = 1 := by kernel_rfl
  have c1 : Try.prog.cellsOf 9 = 1 := by kernel_rfl
  rw [c] at hl
  have hxl2 : xs.length = 2 := by simpa using hxl
  match cs, hl with
  | [y0, y1], _ =>
    have g0 := hx 0 _ rfl
    have g1 := hx 1 _ rfl
    rw [List.getElem?_eq_getElem (by omega)] at g0 g1

    simp only [List.getElem_toArray, List.getElem_cons_zero, List.getElem_cons_succ, c0, c1] at g0 g1
    obtain ⟨a, e0, _, q0⟩ := DataW.trod_int Try.underlying2 g0
    obtain ⟨s, e1, _, q1⟩ := DataW.trod_string Try.underlying9 g1
    simp at e0 e1
    subst e0 e1
    exact ⟨(a, s), rfl, i64_wf q0, q1⟩
set_option maxRecDepth 100000 in
theorem val_of_trod {fuel : Nat} {cs : List Value} {x : DataW H × List MemPlace} (h : DataW.trod enc Try.prog w base sp held fuel 47 cs = some x) : ∃ (k u n : Int) (s : ByteArray), cs = [.int .i64 k, .int .u64 u, .int .i64 n, .string s] ∧ I64 k ∧ (0 ≤ u ∧ u ≤ 18446744073709551615) ∧ I64 n ∧ s.size ≤ maxLen := by
  obtain ⟨xs, n, _, _, hl, hxl, hx⟩ := DataW.trod_struct Try.underlying47 h
  have c : Try.prog.cellsOf 47 = 4 := by kernel_rfl
  have c0 : Try.prog.cellsOf 2 = 1 := by kernel_rfl
  have c1 : Try.prog.cellsOf 9 = 1 := by kernel_rfl
  have c2 : Try.prog.cellsOf 3 = 1 := by kernel_rfl
  have c3 : Try.prog.cellsOf 45 = 1 := by kernel_rfl
  rw [c] at hl
  have hxl2 : xs.length = 4 := by simpa using hxl
  match cs, hl with
  | [y0, y1, y2, y3], _ =>
    have g0 := hx 0 _ rfl
    have g1 := hx 1 _ rfl
    have g2 := hx 2 _ rfl
    have g3 := hx 3 _ rfl
    rw [List.getElem?_eq_getElem (by omega)] at g0 g1 g2 g3

    simp only [List.getElem_toArray, List.getElem_cons_zero, List.getElem_cons_succ, c0, c1, c2, c3] at g0 g1 g2 g3
    obtain ⟨k, e0, _, q0⟩ := DataW.trod_int Try.underlying3 g0
    obtain ⟨u, e1, _, q1⟩ := DataW.trod_int Try.underlying45 g1
    obtain ⟨m, e2, _, q2⟩ := DataW.trod_int Try.underlying2 g2
    obtain ⟨s, e3, _, q3⟩ := DataW.trod_string Try.underlying9 g3
    simp at e0 e1 e2 e3
    subst e0 e1 e2 e3
    exact ⟨k, u, m, s, rfl, i64_wf q0, u64_wf q1, i64_wf q2, q3⟩
set_option maxRecDepth 100000 in
theorem nms_of_trod {fuel : Nat} {cs : List Value} {x : DataW H × List MemPlace} (h : DataW.trod enc Try.prog w base sp held fuel 48 cs = some x) :
    ∃ A n c L, cs = [.slice A n c] ∧ n ≤ maxLen ∧ n ≤ c ∧ (A = none → n = 0 ∧ c = 0) ∧ NmsAt w A n L ∧ ∀ y ∈ L, I64 y.1 ∧ y.2.size ≤ maxLen := by
  have ce : Try.prog.cellsOf 44 = 2 := by kernel_rfl
  rcases DataW.trod_slice Try.underlying48 h with ⟨hcs, _⟩ | ⟨a, len, cap, elems, rest, m, _, hcs, _, hb, hl, hm, hlen, hel, _, _⟩
  · exact ⟨none, 0, 0, [], hcs, by simp, Nat.le_refl _, fun _ => ⟨rfl, rfl⟩, ⟨rfl, fun hh => by omega⟩, fun y hy => by cases hy⟩
  · have each : ∀ j, j < len → ∃ y : Nm, (w.cell? (a.add (j * 2)) = some (.int .i64 y.1) ∧ w.cell? ((a.add (j * 2)).add 1) = some (.string y.2)) ∧ I64 y.1 ∧ y.2.size ≤ maxLen := by
      intro j hj
      have hz := hel j hj
      rw [ce, List.getElem?_eq_getElem (show j < elems.length by omega)] at hz
      obtain ⟨cs', hcs', hz⟩ := Option.bind_eq_some_iff.1 hz
      obtain ⟨_, hcl, hcc⟩ := World.cells?_some hcs'
      obtain ⟨y, rfl, q0, q1⟩ := nm_of_trod hz
      have a0 := hcc 0 (by simp)
      have a1 := hcc 1 (by simp)
      exact ⟨y, ⟨by simpa [Addr.add] using a0, by simpa using a1⟩, q0, q1⟩
    obtain ⟨L, hL, hLs⟩ := any_choice (0, ByteArray.empty) len each
    refine ⟨_, len, cap, L, hcs, by omega, hl, (fun e => by cases e), ⟨hL, fun hn => ?_⟩, fun y hy => ?_⟩
    · obtain ⟨b, o, s⟩ := a
      have hs : s = none := by simpa [Addr.add] using World.cell?_spot (hLs 0 hn).1.1
      subst hs
      refine ⟨b, o, rfl, fun j hj => ?_⟩
      have := (hLs j hj).1
      rw [addr_add, addr_add] at this
      exact ⟨this.1, this.2⟩
    · obtain ⟨i, hi, rfl⟩ := List.getElem_of_mem hy
      have := (hLs i (by omega)).2
      rw [List.getD_eq_getElem?_getD, List.getElem?_eq_getElem hi] at this
      exact this
set_option maxRecDepth 100000 in
theorem op_of_trod {fuel : Nat} {cs : List Value} {x : DataW H × List MemPlace} (h : DataW.trod enc Try.prog w base sp held fuel 50 cs = some x) :
    ∃ y : OpV, cs = [.int .i64 y.obj.1, .string y.obj.2, .string y.key, .bool y.keyed, .int .i64 y.elem.1, .string y.elem.2, .bool y.ins, .int .i64 y.act, .int .i64 y.kind, .int .u64 y.u, .int .i64 y.n, .string y.s, .slice y.pA y.pn y.pc] ∧ OpWf y ∧ NmsAt w y.pA y.pn y.preds := by
  obtain ⟨xs, n, _, _, hl, hxl, hx⟩ := DataW.trod_struct Try.underlying50 h
  have c : Try.prog.cellsOf 50 = 13 := by kernel_rfl
  have c0 : Try.prog.cellsOf 2 = 1 := by kernel_rfl
  have c1 : Try.prog.cellsOf 9 = 1 := by kernel_rfl
  have c2 : Try.prog.cellsOf 4 = 1 := by kernel_rfl
  have c3 : Try.prog.cellsOf 44 = 2 := by kernel_rfl
  have c4 : Try.prog.cellsOf 47 = 4 := by kernel_rfl
  have c5 : Try.prog.cellsOf 48 = 1 := by kernel_rfl
  rw [c] at hl
  have hxl2 : xs.length = 8 := by simpa using hxl
  match cs, hl with
  | [y0, y1, y2, y3, y4, y5, y6, y7, y8, y9, y10, y11, y12], _ =>
    have g0 := hx 0 _ rfl
    have g1 := hx 1 _ rfl
    have g2 := hx 2 _ rfl
    have g3 := hx 3 _ rfl
    have g4 := hx 4 _ rfl
    have g5 := hx 5 _ rfl
    have g6 := hx 6 _ rfl
    have g7 := hx 7 _ rfl
    rw [List.getElem?_eq_getElem (by omega)] at g0 g1 g2 g3 g4 g5 g6 g7

    simp only [List.getElem_toArray, List.getElem_cons_zero, List.getElem_cons_succ, c0, c1, c2, c3, c4, c5] at g0 g1 g2 g3 g4 g5 g6 g7
    obtain ⟨obj, e0, q0, r0⟩ := nm_of_trod g0
    obtain ⟨key, e1, _, q1⟩ := DataW.trod_string Try.underlying9 g1
    obtain ⟨keyed, e2, _⟩ := DataW.trod_bool Try.underlying4 g2
    obtain ⟨el, e3, q3, r3⟩ := nm_of_trod g3
    obtain ⟨ins, e4, _⟩ := DataW.trod_bool Try.underlying4 g4
    obtain ⟨act, e5, _, q5⟩ := DataW.trod_int Try.underlying2 g5
    obtain ⟨k, u, m, s, e6, q6, r6, s6, t6⟩ := val_of_trod g6
    obtain ⟨pA, pn, pc, preds, e7, q7, r7, s7, t7, u7⟩ := nms_of_trod g7
    simp at e0 e1 e2 e3 e4 e5 e6 e7
    obtain ⟨rfl, rfl⟩ := e0
    obtain ⟨rfl, rfl⟩ := e3
    obtain ⟨rfl, rfl, rfl, rfl⟩ := e6
    subst e1 e2 e4 e5 e7
    exact ⟨⟨obj, key, keyed, el, ins, act, k, u, m, s, preds, pA, pn, pc⟩, rfl, ⟨q0, q3, i64_wf q5, q6, r6, s6, r0, r3, q1, t6, q7, r7, s7, u7⟩, t7⟩
set_option maxRecDepth 100000 in
theorem ops_of_trod {v : Value} {d : DataW H} {p : List MemPlace} (hv : ∃ A n c, v = .slice A n c) (h : DataW.Trod enc Try.prog w base sp held 25 v d p) :
    ∃ A n c L, v = .slice A n c ∧ n ≤ maxLen ∧ n ≤ c ∧ (A = none → n = 0 ∧ c = 0) ∧ OpsAt w A n L := by
  have ce : Try.prog.cellsOf 50 = 13 := by kernel_rfl
  obtain ⟨fuel, hf⟩ := h
  obtain ⟨A, n, c, rfl⟩ := hv
  rcases DataW.trod_slice Try.underlying25 hf with ⟨hcs, _⟩ | ⟨a, len, cap, elems, rest, m, _, hcs, _, hb, hl, hm, hlen, hel, _, _⟩
  · simp [Value.cells] at hcs
    obtain ⟨rfl, rfl, rfl⟩ := hcs
    exact ⟨none, 0, 0, [], rfl, by simp, Nat.le_refl _, fun _ => ⟨rfl, rfl⟩, rfl, (fun x hx => by cases hx), fun hh => by omega⟩
  · simp [Value.cells] at hcs
    obtain ⟨rfl, rfl, rfl⟩ := hcs
    have each : ∀ j, j < n → ∃ y : OpV, (∀ k u, ([.int .i64 y.obj.1, .string y.obj.2, .string y.key, .bool y.keyed, .int .i64 y.elem.1, .string y.elem.2, .bool y.ins, .int .i64 y.act, .int .i64 y.kind, .int .u64 y.u, .int .i64 y.n, .string y.s, .slice y.pA y.pn y.pc] : List Value)[k]? = some u → w.cell? ((a.add (j * 13)).add k) = some u) ∧ OpWf y ∧ NmsAt w y.pA y.pn y.preds := by
      intro j hj
      have hz := hel j hj
      rw [ce, List.getElem?_eq_getElem (show j < elems.length by omega)] at hz
      obtain ⟨cs', hcs', hz⟩ := Option.bind_eq_some_iff.1 hz
      obtain ⟨_, hcl, hcc⟩ := World.cells?_some hcs'
      obtain ⟨y, rfl, q0, q1⟩ := op_of_trod hz
      refine ⟨y, fun k u hu => ?_, q0, q1⟩
      have hk := (List.getElem?_eq_some_iff.1 hu)
      obtain ⟨hk, rfl⟩ := hk
      have a0 := hcc k hk
      rw [← List.getElem?_eq_getElem hk]
      simpa using a0
    obtain ⟨L, hL, hLs⟩ := any_choice noOp n each
    refine ⟨_, n, c, L, rfl, by omega, hl, (fun e => by cases e), hL, (fun y hy => ?_), fun hn => ?_⟩
    · obtain ⟨i, hi, rfl⟩ := List.getElem_of_mem hy
      have := (hLs i (by omega)).2
      rw [List.getD_eq_getElem?_getD, List.getElem?_eq_getElem hi] at this
      exact this
    · obtain ⟨b, o, s⟩ := a
      have hs : s = none := by
        have := (hLs 0 hn).1 0 _ rfl
        simpa [Addr.add] using World.cell?_spot this
      subst hs
      refine ⟨b, o, rfl, fun j hj => ?_⟩
      have h9 := (hLs j hj).1
      simp only [addr_add] at h9
      exact ⟨h9 0 _ rfl, h9 1 _ rfl, h9 2 _ rfl, h9 3 _ rfl, h9 4 _ rfl, h9 5 _ rfl, h9 6 _ rfl, h9 7 _ rfl, h9 8 _ rfl, h9 9 _ rfl, h9 10 _ rfl, h9 11 _ rfl, h9 12 _ rfl⟩
end
end Go.Proofs.Ytdbkbeojedndbaa
/-
  Numbers with a sign in digits of seven bits (no program).
-/
namespace Go.Proofs.Ytdbkbeojedndbaa
open Go.RowKit

/-- The bytes of a number with a sign. -/
def lebS (n : Int) : List Int := if -64 ≤ n ∧ n ≤ 63 then [n % 128] else (n % 128 + 128) :: lebS (n / 128)
termination_by n.natAbs
decreasing_by omega
theorem lebS_last {n : Int} (h : -64 ≤ n ∧ n ≤ 63) : lebS n = [n % 128] := by rw [lebS, if_pos h]
theorem lebS_more {n : Int} (h : ¬ (-64 ≤ n ∧ n ≤ 63)) : lebS n = (n % 128 + 128) :: lebS (n / 128) := by rw [lebS, if_neg h]
theorem int_ind {P : Int → Prop} (h : ∀ n, (∀ m : Int, m.natAbs < n.natAbs → P m) → P n) (n : Int) : P n := by
  obtain ⟨k, hk⟩ : ∃ k, k = n.natAbs := ⟨_, rfl⟩
  induction k using Nat.strongRecOn generalizing n with
  | ind k ih => exact h n (fun m hm => ih m.natAbs (by omega) m rfl)
theorem lebS_byte (n : Int) : ∀ x ∈ lebS n, 0 ≤ x ∧ x ≤ 255 := by
  induction n using int_ind with
  | h n ih =>
    intro x hx
    by_cases h : -64 ≤ n ∧ n ≤ 63
    · rw [lebS_last h] at hx
      simp at hx
      omega
    · rw [lebS_more h] at hx
      rcases List.mem_cons.1 hx with e | e
      · omega
      · exact ih (n / 128) (by omega) x e
theorem lebS_len : ∀ (k : Nat) (n : Int), -(64 * 128 ^ k) ≤ n → n < 64 * 128 ^ k → 1 ≤ (lebS n).length ∧ (lebS n).length ≤ k + 1 := by
  intro k
  induction k with
  | zero => intro n h h1; rw [lebS_last (by omega)]; simp
  | succ k ih =>
    intro n h h1
    by_cases h2 : -64 ≤ n ∧ n ≤ 63
    · rw [lebS_last h2]; simp
    · rw [lebS_more h2]
      have e : (128 : Int) ^ (k + 1) = 128 ^ k * 128 := Int.pow_succ ..
      rw [e] at h h1
      have h2 := ih (n / 128) (by omega) (by omega)
      simp only [List.length_cons]
      omega
theorem lebS_10 {n : Int} (h : I64 n) : 1 ≤ (lebS n).length ∧ (lebS n).length ≤ 10 := by
  obtain ⟨h0, h1⟩ := h
  refine lebS_len 9 n ?_ ?_
  · simp only [Int.reducePow, Int.reduceMul]; omega
  · simp only [Int.reducePow, Int.reduceMul]; omega
/-- The number with a sign that digits tell. -/
def svalB : List Int → Int
  | [] => 0
  | [x] => if 64 ≤ x % 128 then x % 128 - 128 else x % 128
  | x :: y :: l => x % 128 + 128 * svalB (y :: l)
theorem svalB_leb (n : Int) : svalB (lebS n) = n := by
  induction n using int_ind with
  | h n ih =>
    by_cases h : -64 ≤ n ∧ n ≤ 63
    · rw [lebS_last h]
      simp only [svalB]
      split <;> omega
    · have h1 := ih (n / 128) (by omega)
      rw [lebS_more h]
      cases hl : lebS (n / 128) with
      | nil =>
        exfalso
        by_cases h9 : -64 ≤ n / 128 ∧ n / 128 ≤ 63
        · rw [lebS_last h9] at hl; cases hl
        · rw [lebS_more h9] at hl; cases hl
      | cons y l =>
        rw [hl] at h1
        simp only [svalB]
        rw [h1]
        omega
theorem lebS_inj {n m : Int} (h : lebS n = lebS m) : n = m := by rw [← svalB_leb n, h, svalB_leb]
theorem svalB_val : ∀ (l : List Int), l ≠ [] → svalB l = valB l - (if 64 ≤ rd l (l.length - 1) % 128 then 128 ^ l.length else 0) := by
  intro l
  induction l with
  | nil => intro h; exact absurd rfl h
  | cons x l ih =>
    intro _
    cases l with
    | nil =>
      simp only [svalB, valB]
      show _ = (((x % 128).toNat + 128 * 0 : Nat) : Int) - (if 64 ≤ x % 128 then 128 ^ 1 else 0)
      have : ((x % 128).toNat : Int) = x % 128 := by omega
      split <;> omega
    | cons y l =>
      have h := ih (by simp)
      have ev : valB (x :: y :: l) = (x % 128).toNat + 128 * valB (y :: l) := rfl
      rw [svalB, h, ev]
      have e : rd (x :: y :: l) ((x :: y :: l).length - 1) = rd (y :: l) ((y :: l).length - 1) := rfl
      rw [e, List.length_cons (a := x)]
      have e2 : (128 : Int) ^ ((y :: l).length + 1) = 128 ^ (y :: l).length * 128 := Int.pow_succ ..
      rw [e2]
      obtain ⟨V, hV⟩ : ∃ V, V = valB (y :: l) := ⟨_, rfl⟩
      obtain ⟨Q, hQ⟩ : ∃ Q : Int, Q = 128 ^ (y :: l).length := ⟨_, rfl⟩
      rw [← hV, ← hQ]
      split <;> omega
theorem lebS_last128 (n : Int) : rd (lebS n) ((lebS n).length - 1) < 128 ∧ ∀ i, i + 1 < (lebS n).length → 128 ≤ rd (lebS n) i := by
  induction n using int_ind with
  | h n ih =>
    by_cases h : -64 ≤ n ∧ n ≤ 63
    · rw [lebS_last h]
      exact ⟨by show n % 128 < 128; omega, fun i hi => by simp at hi⟩
    · obtain ⟨h1, h2⟩ := ih (n / 128) (by omega)
      rw [lebS_more h]
      have hl : 1 ≤ (lebS (n / 128)).length := by
        by_cases h9 : -64 ≤ n / 128 ∧ n / 128 ≤ 63
        · rw [lebS_last h9]; simp
        · rw [lebS_more h9]; simp
      obtain ⟨q, hq⟩ : ∃ q, (lebS (n / 128)).length = q + 1 := ⟨_, (Nat.sub_add_cancel hl).symm⟩
      rw [hq] at h1 h2
      constructor
      · rw [List.length_cons, hq]
        exact h1
      · intro i hi
        cases i with
        | zero => show (128 : Int) ≤ n % 128 + 128; omega
        | succ i => exact h2 i (by rw [List.length_cons, hq] at hi; omega)
theorem lebS_of : ∀ (b : List Int), (∀ x ∈ b, 0 ≤ x ∧ x ≤ 255) → 1 ≤ b.length → (∀ i, i + 1 < b.length → 128 ≤ rd b i) → rd b (b.length - 1) < 128 → (lebS (svalB b)).length = b.length → lebS (svalB b) = b := by
  intro b
  induction b with
  | nil => intro _ h; simp at h
  | cons x b ih =>
    intro hb _ h1 h2 h3
    have hx := hb x (List.mem_cons_self ..)
    cases b with
    | nil =>
      have hx2 : x < 128 := h2
      simp only [svalB]
      split
      · rw [lebS_last (by omega)]
        congr 1
        omega
      · rw [lebS_last (by omega)]
        congr 1
        omega
    | cons y b =>
      have hx1 : 128 ≤ x := h1 0 (by simp)
      by_cases hn : -64 ≤ svalB (x :: y :: b) ∧ svalB (x :: y :: b) ≤ 63
      · rw [lebS_last hn] at h3
        simp at h3
      · rw [lebS_more hn] at h3 ⊢
        have ed : svalB (x :: y :: b) / 128 = svalB (y :: b) := by rw [svalB]; omega
        have em : svalB (x :: y :: b) % 128 = x % 128 := by rw [svalB]; omega
        rw [ed] at h3 ⊢
        rw [em, ih (fun z hz => hb z (List.mem_cons_of_mem _ hz)) (by simp) (fun i hi => h1 (i + 1) (by simp at hi ⊢; omega)) (show rd (y :: b) ((y :: b).length - 1) < 128 from h2) (by simpa using h3)]
        congr 1
        omega
/-- What reading a number with a sign tells: the number, how many bytes, or why there is none. -/
def IsGetS (b : List Int) (n : Int) (k : Nat) (e : Int) : Prop :=
  ∃ s f, IsSpan b s f ∧ ((f ≠ 0 ∧ n = 0 ∧ k = 0 ∧ e = f) ∨ (f = 0 ∧ I64 n ∧ lebS n = b.take s ∧ k = s ∧ e = 0) ∨ (f = 0 ∧ (∀ m, I64 m → lebS m ≠ b.take s) ∧ n = 0 ∧ k = 0 ∧ e = 3))
theorem IsGetS.same {b : List Int} {n n' : Int} {k k' : Nat} {e e' : Int} (h : IsGetS b n k e) (g : IsGetS b n' k' e') : n = n' ∧ k = k' ∧ e = e' := by
  obtain ⟨s, f, h0, h⟩ := h
  obtain ⟨s', f', g0, g⟩ := g
  obtain ⟨rfl, rfl⟩ := h0.same g0
  rcases h with ⟨h1, rfl, rfl, rfl⟩ | ⟨rfl, h1, h2, rfl, rfl⟩ | ⟨rfl, h1, rfl, rfl, rfl⟩ <;>
    rcases g with ⟨g1, rfl, rfl, rfl⟩ | ⟨g9, g1, g2, rfl, rfl⟩ | ⟨g9, g1, rfl, rfl, rfl⟩
  · exact ⟨rfl, rfl, rfl⟩
  · exact absurd g9 h1
  · exact absurd g9 h1
  · exact absurd rfl g1
  · exact ⟨lebS_inj (h2.trans g2.symm), rfl, rfl⟩
  · exact absurd h2 (g1 _ h1)
  · exact absurd rfl g1
  · exact absurd g2 (h1 _ g1)
  · exact ⟨rfl, rfl, rfl⟩
theorem isGetS_rng {b : List Int} {n : Int} {k : Nat} (h : IsGetS b n k 0) : 1 ≤ k ∧ k ≤ 10 ∧ k ≤ b.length ∧ I64 n := by
  obtain ⟨s, f, h0, h⟩ := h
  rcases h with ⟨h1, _, _, e⟩ | ⟨rfl, h1, h2, rfl, _⟩ | ⟨_, _, _, _, e⟩
  · exact absurd e.symm h1
  · rcases h0 with ⟨_, a, b, c, _⟩ | ⟨_, g, _⟩ | ⟨_, g, _⟩
    · exact ⟨a, b, c, h1⟩
    · omega
    · omega
  · omega
/-- The number that the digits of a span tell, as 64 bits hold it. -/
theorem getS_err {b : List Int} {s : Nat} {f : Int} (hs : IsSpan b s f) (hf : f ≠ 0) : IsGetS b 0 0 f := ⟨s, f, hs, .inl ⟨hf, rfl, rfl, rfl⟩⟩
theorem lebS_ten {n : Int} (hn : I64 n) (hl : (lebS n).length = 10) : rd (lebS n) 9 = 0 ∨ rd (lebS n) 9 = 127 := by
  have h1 := (lebS_last128 n).1
  rw [hl] at h1
  have h1 : rd (lebS n) 9 < 128 := h1
  have e : lebS n = (lebS n).take 9 ++ [rd (lebS n) 9] := by
    have h := List.take_append_drop 9 (lebS n)
    rw [List.drop_eq_getElem_cons (by omega), List.drop_of_length_le (by omega)] at h
    rw [rd_getElem (by omega)]
    exact h.symm
  have hb := lebS_byte n (rd (lebS n) 9) (by rw [rd_getElem (by omega)]; exact List.getElem_mem _)
  have hv := svalB_val (lebS n) (by intro h; rw [h] at hl; cases hl)
  rw [svalB_leb, hl] at hv
  have e9 : valB [rd (lebS n) 9] = (rd (lebS n) 9).toNat := by simp [valB]; omega
  have hv2 : valB (lebS n) = valB ((lebS n).take 9) + 9223372036854775808 * (rd (lebS n) 9).toNat := by
    conv => lhs; rw [e, valB_app, List.length_take, hl, e9]
    have : (128 : Nat) ^ min 9 10 = 9223372036854775808 := by decide
    rw [this]
  have h9 : rd (lebS n) (10 - 1) = rd (lebS n) 9 := rfl
  rw [hv2, h9] at hv
  have h8 := valB_take_lt (lebS n) 9
  have h7 : (128 : Nat) ^ 9 = 9223372036854775808 := by decide
  rw [h7] at h8
  have h6 : (128 : Int) ^ 10 = 1180591620717411303424 := by decide
  rw [h6] at hv
  obtain ⟨i0, i1⟩ := hn
  obtain ⟨V, hV⟩ : ∃ V, V = valB ((lebS n).take 9) := ⟨_, rfl⟩
  rw [← hV] at hv h8
  split at hv <;> omega
/-- What both ways to read come to: the 64 bits that the digits make, and a test. -/
theorem getS_none {b : List Int} {s : Nat} (hs : IsSpan b s 0) (hl : I64 (svalB (b.take s)) → (lebS (svalB (b.take s))).length ≠ s) : IsGetS b 0 0 3 := by
  refine ⟨s, 0, hs, .inr (.inr ⟨rfl, fun m hm e => ?_, rfl, rfl, rfl⟩)⟩
  have hv := svalB_leb m
  rw [e] at hv
  rw [hv] at hl
  refine hl hm ?_
  rw [e, List.length_take]
  rcases hs with ⟨_, _, _, h, _⟩ | ⟨_, h, _⟩ | ⟨_, h, _⟩
  · omega
  · omega
  · omega
theorem getS_ten {b : List Int} (hs : IsSpan b 10 0) (h9 : rd b 9 ≠ 0 ∧ rd b 9 ≠ 127) : IsGetS b 0 0 3 := by
  refine ⟨10, 0, hs, .inr (.inr ⟨rfl, fun m hm e => ?_, rfl, rfl, rfl⟩)⟩
  have hbl : 10 ≤ b.length := by
    rcases hs with ⟨_, _, _, h, _⟩ | ⟨_, h, _⟩ | ⟨_, h, _⟩ <;> omega
  have hl : (lebS m).length = 10 := by rw [e, List.length_take]; omega
  have h := lebS_ten hm hl
  rw [e, take_rdl (by omega)] at h
  omega
theorem getS_some {b : List Int} {s : Nat} (hb : ∀ x ∈ b, 0 ≤ x ∧ x ≤ 255) (hs : IsSpan b s 0) (hi : I64 (svalB (b.take s))) (hl : (lebS (svalB (b.take s))).length = s) : IsGetS b (svalB (b.take s)) s 0 := by
  have hs' := hs
  rcases hs with ⟨_, h1, h2, h3, h4, h5⟩ | ⟨_, h, _⟩ | ⟨_, h, _⟩
  · have htl : (b.take s).length = s := by rw [List.length_take]; omega
    refine ⟨s, 0, hs', .inr (.inl ⟨rfl, hi, ?_, rfl, rfl⟩)⟩
    refine lebS_of _ (fun x hx => hb x (List.mem_of_mem_take hx)) (by omega) (fun i hi => ?_) ?_ (by rw [htl, hl])
    · rw [take_rdl (by omega)]; exact h4 i (by omega)
    · rw [htl, take_rdl (by omega)]; exact h5
  · omega
  · omega
theorem getS_same {b : List Int} {s : Nat} (hs : IsSpan b s 0) {q : Int} (hi : I64 q) (he : lebS q = b.take s) : IsGetS b q s 0 := ⟨s, 0, hs, .inr (.inl ⟨rfl, hi, he, rfl, rfl⟩)⟩
theorem getS_other {b : List Int} {s : Nat} (hs : IsSpan b s 0) (he : I64 (svalB (b.take s)) → lebS (svalB (b.take s)) ≠ b.take s) : IsGetS b 0 0 3 := by
  refine ⟨s, 0, hs, .inr (.inr ⟨rfl, fun m hm e => ?_, rfl, rfl, rfl⟩)⟩
  have hv := svalB_leb m
  rw [e] at hv
  rw [hv] at he
  exact he hm e
/-- Short spans: the number is within 64 bits. -/
theorem sval_small {b : List Int} {s : Nat} (h1 : 1 ≤ s) (h9 : s ≤ 9) (hb : s ≤ b.length) :
    svalB (b.take s) = (valB (b.take s) : Int) - (if 64 ≤ rd b (s - 1) % 128 then 128 ^ s else 0) ∧ I64 (svalB (b.take s)) := by
  have hl : (b.take s).length = s := by rw [List.length_take]; omega
  have h := svalB_val (b.take s) (by intro h; rw [h] at hl; simp at hl; omega)
  rw [hl, take_rdl (by omega)] at h
  refine ⟨h, ?_⟩
  have h2 := valB_take_lt b s
  have h3 : 128 ^ s ≤ 9223372036854775808 := pow9 h9
  have h4 : ((128 : Int) ^ s) = ((128 ^ s : Nat) : Int) := by simp
  rw [h4] at h
  unfold I64
  obtain ⟨V, hV⟩ : ∃ V, V = valB (b.take s) := ⟨_, rfl⟩
  obtain ⟨Q, hQ⟩ : ∃ Q : Nat, Q = 128 ^ s := ⟨_, rfl⟩
  rw [← hV, ← hQ] at h
  rw [← hV, ← hQ] at h2
  rw [← hQ] at h3
  split at h <;> omega
/-- Ten bytes, the last one 0 or 127: likewise. -/
theorem sval_ten {b : List Int} (hb : 10 ≤ b.length) (h9 : rd b 9 = 0 ∨ rd b 9 = 127) :
    svalB (b.take 10) = (valB (b.take 9) : Int) - (if rd b 9 = 0 then 0 else 9223372036854775808) ∧ I64 (svalB (b.take 10)) ∧ (valB (b.take 10) : Int) = valB (b.take 9) + 9223372036854775808 * rd b 9 := by
  have hl : (b.take 10).length = 10 := by rw [List.length_take]; omega
  have h := svalB_val (b.take 10) (by intro h; rw [h] at hl; simp at hl)
  have hv : valB (b.take 10) = valB (b.take 9) + 9223372036854775808 * (rd b 9 % 128).toNat := by
    have := valB_next (b := b) (k := 9) (by omega)
    rw [show (128 : Nat) ^ 9 = 9223372036854775808 by decide] at this
    exact this
  rw [hl, take_rdl (by omega), show 10 - 1 = 9 from rfl, hv, show (128 : Int) ^ 10 = 1180591620717411303424 by decide] at h
  have h8 := valB_take_lt b 9
  rw [show (128 : Nat) ^ 9 = 9223372036854775808 by decide] at h8
  obtain ⟨V, hV⟩ : ∃ V, V = valB (b.take 9) := ⟨_, rfl⟩
  rw [← hV] at h h8 hv ⊢
  unfold I64
  rw [hv]
  rcases h9 with e | e
  · rw [e] at h ⊢
    rw [if_neg (by decide)] at h
    rw [if_pos rfl]
    omega
  · rw [e] at h ⊢
    rw [if_pos (by decide)] at h
    rw [if_neg (by decide)]
    omega
theorem get_lebS {n : Int} (hn : I64 n) (R : List Int) : IsGetS (lebS n ++ R) n (lebS n).length 0 := by
  obtain ⟨h1, h2⟩ := lebS_last128 n
  have h3 := lebS_10 hn
  refine ⟨(lebS n).length, 0, .inl ⟨rfl, h3.1, h3.2, by rw [List.length_append]; omega, fun i hi => ?_, ?_⟩, .inr (.inl ⟨rfl, hn, ?_, rfl, rfl⟩)⟩
  · rw [rd_app_l (by omega)]; exact h2 i hi
  · rw [rd_app_l (by omega)]; exact h1
  · rw [List.take_left]
theorem get_frontS {n : Int} (hn : I64 n) {k : Nat} (hk : k < (lebS n).length) : IsGetS ((lebS n).take k) 0 0 2 := by
  obtain ⟨h1, h2⟩ := lebS_last128 n
  have h3 := lebS_10 hn
  refine ⟨0, 2, .inr (.inr ⟨rfl, rfl, by rw [List.length_take]; omega, fun i hi => ?_⟩), .inl ⟨by decide, rfl, rfl, rfl⟩⟩
  rw [List.length_take] at hi
  have : rd ((lebS n).take k) i = rd (lebS n) i := take_rdl (by omega)
  rw [this]
  exact h2 i (by omega)
end Go.Proofs.Ytdbkbeojedndbaa
/-
  '==' of ops' names; op.Zero; the names that ops speak of (no program).
-/
namespace Go.Proofs.Ytdbkbeojedndbaa
open Go.RowKit

theorem eqStr_of {P : Program} {d : Nat} {t : TypeId} {w : World} (hu : P.underlying t = some .string) (a b : ByteArray) : (Op.equalIn (d + 1) t (.string a) (.string b)).run P w = .ok (a == b) w := by
  simp [Op.equalIn, run_underlying hu]
theorem bytes_beq (s t : ByteArray) : (s == t) = decide (s = t) := by
  obtain ⟨a⟩ := s
  obtain ⟨b⟩ := t
  show (a == b) = _
  by_cases h : a = b
  · subst h; simp
  · rw [beq_eq_false_iff_ne.2 h, decide_eq_false (fun e => h (by cases e; rfl))]
theorem emp_iff (s : ByteArray) : (s == ByteArray.empty) = decide (s.toList = []) := by
  rw [bytes_beq, Lib.toList_data]
  by_cases h : s.data.toList = []
  · rw [decide_eq_true h]
    obtain ⟨⟨l⟩⟩ := s
    simp at h
    subst h
    rfl
  · rw [decide_eq_false h, decide_eq_false (fun e => h (by subst e; rfl))]
def zeroNm (x : Nm) : Bool := x.1 == 0 && x.2 == ByteArray.empty
set_option maxRecDepth 100000 in
theorem eqlNm (a b : Int) (s t : ByteArray) (w : World) : (binOp .eql 44 (.agg #[.int .i64 a, .string s]) (.agg #[.int .i64 b, .string t])).run Try.prog w = .ok (.bool ((a == b) && ((s == t) && true))) w :=
  binEql_of (eqStruct_of Try.underlying44 (by kernel_rfl) (eqFields_cons rfl (by go_simp) (by go_simp) (eqInt_of Try.underlying2 _ _) (eqFields_cons rfl (by go_simp) (by go_simp) (eqStr_of Try.underlying9 _ _) eqFields_nil)))
theorem neqNm (a b : Int) (s t : ByteArray) (w : World) : (binOp .neq 44 (.agg #[.int .i64 a, .string s]) (.agg #[.int .i64 b, .string t])).run Try.prog w = .ok (.bool (!((a == b) && ((s == t) && true)))) w := by
  have h := eqlNm a b s t w
  simp only [binOp] at h ⊢
  simp only [Sem.run_bind] at h ⊢
  generalize Sem.run Try.prog (Op.equal 44 (.agg #[.int .i64 a, .string s]) (.agg #[.int .i64 b, .string t])) w = r at h ⊢
  cases r <;> simp_all
theorem Zero_calls (x : Nm) (w : World) : Calls Try.prog 95 #[.agg #[.int .i64 x.1, .string x.2]] w fun e w' => e = .returned (.bool (zeroNm x)) ∧ Below w.heap.size w w' := by
  have he : ∀ w, (binOp .eql 44 (.agg #[.int .i64 x.1, .string x.2]) (.agg #[.int .i64 0, .string ByteArray.empty])).run Try.prog w = .ok (.bool (zeroNm x)) w := fun w => by
    rw [eqlNm]; simp [zeroNm]
  go_enter Try.func95, Try.ntmps95
  go_wp2_with fail
  all_goals go_ret
  all_goals refine ⟨?_, (Below.refl w.heap.size w).alloc (Nat.le_refl _) _⟩
  all_goals simp_all [zeroNm, emp_iff]
/-- All names that an op speaks of, in order. -/
def namesOf (x : OpV) : List Nm := (x.obj :: x.elem :: x.preds).filter fun y => !zeroNm y
def namesL (L : List OpV) : List Nm := L.flatMap namesOf
def nms (N : List Nm) : List Value := N.flatMap fun y => [.int .i64 y.1, .string y.2]
theorem nms_app (a b : List Nm) : nms (a ++ b) = nms a ++ nms b := List.flatMap_append
theorem nms_length (N : List Nm) : (nms N).length = N.length * 2 := by
  induction N with
  | nil => rfl
  | cons x N ih => simp [nms] at ih ⊢; omega
theorem nms_one (N : List Nm) : (nms N).all (fun u => u.oneCell') = true := by
  rw [List.all_eq_true]
  intro u hu
  obtain ⟨x, _, h⟩ := List.mem_flatMap.1 hu
  simp at h
  rcases h with rfl | rfl <;> rfl
theorem nms_get : ∀ {N : List Nm} {j : Nat}, j < N.length → (nms N)[j * 2]? = some (.int .i64 (nm N j).1) ∧ (nms N)[j * 2 + 1]? = some (.string (nm N j).2) := by
  intro N
  induction N with
  | nil => intro j h; simp at h
  | cons x N ih =>
    intro j h
    cases j with
    | zero => exact ⟨rfl, rfl⟩
    | succ j =>
      have := ih (j := j) (by simpa using h)
      rw [show (j + 1) * 2 = j * 2 + 2 from by omega]
      exact this
theorem elNm : ElT Try.prog 48 44 (.agg #[.int .i64 0, .string ByteArray.empty]) 2 24 := ⟨Try.underlying48, by kernel_rfl, rfl, by decide, by decide⟩
theorem NmsAt.of {w : World} {A : Option Addr} {n : Nat} {N : List Nm} (h : RdV w A n 2 (nms N)) : NmsAt w A n N := by
  have hl := h.1
  rw [nms_length] at hl
  refine ⟨by omega, fun hn => ?_⟩
  obtain ⟨b, o, e, hc⟩ := h.2 hn
  refine ⟨b, o, e, fun j hj => ?_⟩
  obtain ⟨g0, g1⟩ := nms_get (N := N) (j := j) (by omega)
  exact ⟨hc _ _ g0, hc _ _ g1⟩
theorem NmsAt.toV {w : World} {A : Option Addr} {n : Nat} {N : List Nm} (h : NmsAt w A n N) : RdV w A n 2 (nms N) := by
  refine ⟨by rw [nms_length, h.1], fun hn => ?_⟩
  obtain ⟨b, o, e, hc⟩ := h.2 hn
  refine ⟨b, o, e, fun i u hu => ?_⟩
  have hi : i < N.length * 2 := by have := (List.getElem?_eq_some_iff.1 hu).1; rwa [nms_length] at this
  obtain ⟨k, hk⟩ : ∃ k, k = i / 2 := ⟨_, rfl⟩
  obtain ⟨g0, g1⟩ := nms_get (N := N) (j := k) (by omega)
  have hcj := hc k (by have := h.1; omega)
  rcases (show i = k * 2 ∨ i = k * 2 + 1 by omega) with e2 | e2
  · subst e2
    rw [g0] at hu
    cases hu
    exact hcj.c0
  · subst e2
    rw [g1] at hu
    cases hu
    rw [← Nat.add_assoc]
    exact hcj.c1
theorem own_nms {w : World} {base n : Nat} {e : TypeId} {v : Value} {N : List Nm} (h : w.ownsRow base e 2 v n (nms N)) : ∃ A c, v = .slice A n c ∧ n ≤ c ∧ NmsAt w A n N ∧ (A = none → n = 0 ∧ c = 0) := by
  obtain ⟨A, c, e, h1, h2, h3⟩ := own_rdV h
  exact ⟨A, c, e, h1, NmsAt.of h2, h3⟩
theorem namesOf_le (x : OpV) : (namesOf x).length ≤ 2 + x.preds.length := by
  unfold namesOf
  exact Nat.le_trans (List.length_filter_le _ _) (by simp; omega)
end Go.Proofs.Ytdbkbeojedndbaa
/-
  Bytes of strings as lists (no program).
-/
namespace Go.Proofs.Ytdbkbeojedndbaa
open Go.RowKit

abbrev bytes (s : ByteArray) : List UInt8 := s.data.toList
abbrev text (l : List UInt8) : ByteArray := ⟨l.toArray⟩
theorem text_bytes (s : ByteArray) : text (bytes s) = s := by simp [bytes]
theorem bytes_text (l : List UInt8) : bytes (text l) = l := by simp [bytes]
theorem bytes_inj' {a b : ByteArray} (h : bytes a = bytes b) : a = b := by rw [← text_bytes a, h, text_bytes]
theorem tl_iff (a b : ByteArray) : a.toList = b.toList ↔ a = b := by
  rw [Lib.toList_data, Lib.toList_data]
  exact ⟨bytes_inj', fun e => by rw [e]⟩
theorem tl_beq (a b : ByteArray) : (a.toList == b.toList) = decide (a = b) := by
  by_cases h : a = b
  · subst h; rw [decide_eq_true rfl]; exact beq_self_eq_true _
  · rw [decide_eq_false h]; exact beq_eq_false_iff_ne.2 (fun e => h ((tl_iff a b).1 e))
end Go.Proofs.Ytdbkbeojedndbaa
/-
  Who is spoken of (no program).
-/
namespace Go.Proofs.Ytdbkbeojedndbaa
open Go.RowKit

def ltB (a b : ByteArray) : Prop := bytes a < bytes b
theorem ltB_irrefl (a : ByteArray) : ¬ ltB a a := List.lt_irrefl _
theorem ltB_trans {a b c : ByteArray} (h : ltB a b) (k : ltB b c) : ltB a c := List.lt_trans h k
theorem ltB_or {a b : ByteArray} (h : ¬ ltB a b) (hne : a ≠ b) : ltB b a := by
  have h1 : bytes b ≤ bytes a := List.not_lt.1 h
  refine Classical.byContradiction fun h2 => hne (bytes_inj' ?_)
  exact List.le_antisymm (List.not_lt.1 h2) h1
theorem unique_rising : ∀ {l m : List ByteArray}, l.Pairwise ltB → m.Pairwise ltB → (∀ x, x ∈ l ↔ x ∈ m) → l = m := by
  intro l
  induction l with
  | nil =>
    intro m _ _ h
    cases m with
    | nil => rfl
    | cons b m => exact absurd ((h b).2 (List.mem_cons_self ..)) (by simp)
  | cons a l ih =>
    intro m hl hm h
    cases m with
    | nil => exact absurd ((h a).1 (List.mem_cons_self ..)) (by simp)
    | cons b m =>
      obtain ⟨h1, h2⟩ := List.pairwise_cons.1 hl
      obtain ⟨k1, k2⟩ := List.pairwise_cons.1 hm
      have hab : a = b := by
        rcases List.mem_cons.1 ((h a).1 (List.mem_cons_self ..)) with e | e
        · exact e
        · rcases List.mem_cons.1 ((h b).2 (List.mem_cons_self ..)) with e2 | e2
          · exact e2.symm
          · exact absurd (ltB_trans (k1 a e) (h1 b e2)) (ltB_irrefl _)
      subst hab
      congr 1
      refine ih h2 k2 (fun x => ?_)
      constructor
      · intro hx
        rcases List.mem_cons.1 ((h x).1 (List.mem_cons_of_mem _ hx)) with e | e
        · subst e; exact absurd (h1 x hx) (ltB_irrefl _)
        · exact e
      · intro hx
        rcases List.mem_cons.1 ((h x).2 (List.mem_cons_of_mem _ hx)) with e | e
        · subst e; exact absurd (k1 x hx) (ltB_irrefl _)
        · exact e
/-- The author, and behind it all others that are spoken of, rising. -/
structure IsTable (au : ByteArray) (N : List Nm) (T : List ByteArray) : Prop where
  is : ∃ t, T = au :: t ∧ t.Pairwise ltB ∧ ∀ s, s ∈ t ↔ s ≠ au ∧ ∃ y ∈ N, y.2 = s
theorem IsTable.same {au : ByteArray} {N N' : List Nm} {T T' : List ByteArray} (h : IsTable au N T) (k : IsTable au N' T') (hN : ∀ s, (∃ y ∈ N, y.2 = s) ↔ ∃ y ∈ N', y.2 = s) : T = T' := by
  obtain ⟨t, rfl, h1, h2⟩ := h.is
  obtain ⟨t', rfl, k1, k2⟩ := k.is
  congr 1
  exact unique_rising h1 k1 (fun x => by rw [h2, k2, hN])
/-- Those that were met, each once. -/
structure Dist (au : ByteArray) (N : List Nm) (out : List ByteArray) : Prop where
  once : out.Nodup
  mem : ∀ s, s ∈ out ↔ s ≠ au ∧ ∃ y ∈ N, y.2 = s
theorem Dist.nil (au : ByteArray) : Dist au [] [] := ⟨List.nodup_nil, fun s => by simp⟩
theorem Dist.old {au : ByteArray} {N : List Nm} {out : List ByteArray} {y : Nm} (h : Dist au N out) (hy : y.2 = au ∨ y.2 ∈ out) : Dist au (N ++ [y]) out := by
  refine ⟨h.once, fun s => ?_⟩
  rw [h.mem s]
  constructor
  · rintro ⟨h1, z, hz, e⟩
    exact ⟨h1, z, List.mem_append_left _ hz, e⟩
  · rintro ⟨h1, z, hz, rfl⟩
    refine ⟨h1, ?_⟩
    rcases List.mem_append.1 hz with hz | hz
    · exact ⟨z, hz, rfl⟩
    · obtain rfl : z = y := by simpa using hz
      rcases hy with e | e
      · exact absurd e h1
      · exact ((h.mem _).1 e).2
theorem Dist.new {au : ByteArray} {N : List Nm} {out : List ByteArray} {y : Nm} (h : Dist au N out) (hy : ¬ (y.2 = au ∨ y.2 ∈ out)) : Dist au (N ++ [y]) (out ++ [y.2]) := by
  refine ⟨?_, fun s => ?_⟩
  · rw [List.nodup_append]
    refine ⟨h.once, by simp, fun a ha b hb => ?_⟩
    obtain rfl : b = y.2 := by simpa using hb
    rintro rfl
    exact hy (.inr ha)
  · rw [List.mem_append, h.mem s]
    constructor
    · rintro (⟨h1, z, hz, e⟩ | hs)
      · exact ⟨h1, z, List.mem_append_left _ hz, e⟩
      · obtain rfl : s = y.2 := by simpa using hs
        exact ⟨fun e => hy (.inl e), y, by simp, rfl⟩
    · rintro ⟨h1, z, hz, rfl⟩
      rcases List.mem_append.1 hz with hz | hz
      · exact .inl ⟨h1, z, hz, rfl⟩
      · obtain rfl : z = y := by simpa using hz
        exact .inr (by simp)
theorem Dist.table {au : ByteArray} {N : List Nm} {out : List ByteArray} (h : Dist au N out) : IsTable au N (au :: ((out.map bytes).mergeSort fun x y => decide (x ≤ y)).map text) := by
  have tr : ∀ a b c : List UInt8, decide (a ≤ b) = true → decide (b ≤ c) = true → decide (a ≤ c) = true := fun a b c h1 h2 => by simp only [decide_eq_true_eq] at *; exact List.le_trans h1 h2
  have tot : ∀ a b : List UInt8, (decide (a ≤ b) || decide (b ≤ a)) = true := fun a b => by simp only [Bool.or_eq_true, decide_eq_true_eq]; exact List.le_total a b
  have hp := List.pairwise_mergeSort (le := fun x y : List UInt8 => decide (x ≤ y)) tr tot (out.map bytes)
  have hperm := List.mergeSort_perm (out.map bytes) (fun x y => decide (x ≤ y))
  have hnd : (out.map bytes).Nodup := by
    refine List.pairwise_map.2 (h.once.imp ?_)
    intro a b hne e
    exact hne (bytes_inj' e)
  have hnd2 := hperm.nodup_iff.2 hnd
  refine ⟨⟨_, rfl, ?_, fun s => ?_⟩⟩
  · refine List.pairwise_map.2 ?_
    refine (hp.and hnd2).imp ?_
    rintro a b ⟨h1, h2⟩
    simp only [decide_eq_true_eq] at h1
    show bytes (text a) < bytes (text b)
    rw [bytes_text, bytes_text]
    exact Decidable.byContradiction fun h3 => h2 (List.le_antisymm h1 (List.not_lt.1 h3))
  · rw [← h.mem s, List.mem_map]
    constructor
    · rintro ⟨l, hl, rfl⟩
      obtain ⟨x, hx, rfl⟩ := List.mem_map.1 (hperm.mem_iff.1 hl)
      rw [text_bytes]; exact hx
    · intro hs
      exact ⟨bytes s, hperm.mem_iff.2 (List.mem_map.2 ⟨s, hs, rfl⟩), text_bytes s⟩
theorem IsTable.length {au : ByteArray} {N : List Nm} {T : List ByteArray} (h : IsTable au N T) : 0 < T.length := by
  obtain ⟨t, rfl, _⟩ := h.is
  simp
theorem namesL_small {L : List OpV} {n : Nat} (hl : L.length = n) (hF : ∀ i, i < n → (opv L i).obj.2.size ≤ 100 ∧ (opv L i).elem.2.size ≤ 100 ∧ ∀ y ∈ (opv L i).preds, y.2.size ≤ 100) : ∀ y ∈ namesL L, y.2.size ≤ 100 := by
  intro y hy
  obtain ⟨x, hx, hy⟩ := List.mem_flatMap.1 hy
  obtain ⟨i, hi, rfl⟩ := List.getElem_of_mem hx
  have h9 := hF i (by omega)
  have e : opv L i = L[i] := by unfold opv; rw [List.getD_eq_getElem?_getD, List.getElem?_eq_getElem hi]; rfl
  rw [e] at h9
  unfold namesOf at hy
  have hm := (List.mem_filter.1 hy).1
  rcases List.mem_cons.1 hm with rfl | hm
  · exact h9.1
  rcases List.mem_cons.1 hm with rfl | hm
  · exact h9.2.1
  · exact h9.2.2 y hm
end Go.Proofs.Ytdbkbeojedndbaa
/-
  What reading a table tells (no program).
-/
namespace Go.Proofs.Ytdbkbeojedndbaa
open Go.RowKit

/-- The text of so many bytes from a place on. -/
def textAt (b : List Int) (p v : Nat) : ByteArray := strOfNums ((b.drop p).take v)
/-- No name that may come next. -/
def BadNm (au : ByteArray) (out : List ByteArray) (a : ByteArray) : Prop := a = au ∨ (1 < out.length ∧ ¬ ltB (str out (out.length - 1)) a)
inductive Reads (au : ByteArray) (b : List Int) : Nat → Nat → List ByteArray → List ByteArray → Nat → Int → Prop
  | done (p : Nat) (out : List ByteArray) : Reads au b 0 p out out p 0
  | num {m p v k : Nat} {f : Int} {out : List ByteArray} : IsGet (b.drop p) v k f → f ≠ 0 → Reads au b (m + 1) p out [] 0 f
  | long {m p v k : Nat} {out : List ByteArray} : IsGet (b.drop p) v k 0 → (v < 1 ∨ 16 < v) → Reads au b (m + 1) p out [] 0 4
  | short {m p v k : Nat} {out : List ByteArray} : IsGet (b.drop p) v k 0 → 1 ≤ v → v ≤ 16 → b.length < p + k + v → Reads au b (m + 1) p out [] 0 2
  | form {m p v k : Nat} {out : List ByteArray} : IsGet (b.drop p) v k 0 → 1 ≤ v → v ≤ 16 → p + k + v ≤ b.length → BadNm au out (textAt b (p + k) v) → Reads au b (m + 1) p out [] 0 3
  | next {m p v k : Nat} {out T : List ByteArray} {q : Nat} {e : Int} : IsGet (b.drop p) v k 0 → 1 ≤ v → v ≤ 16 → p + k + v ≤ b.length → ¬ BadNm au out (textAt b (p + k) v) →
      Reads au b m (p + k + v) (out ++ [textAt b (p + k) v]) T q e → Reads au b (m + 1) p out T q e
theorem Reads.same {au : ByteArray} {b : List Int} {m p : Nat} {out T T' : List ByteArray} {q q' : Nat} {e e' : Int} (h : Reads au b m p out T q e) (g : Reads au b m p out T' q' e') : T = T' ∧ q = q' ∧ e = e' := by
  induction h with
  | done p out => cases g; exact ⟨rfl, rfl, rfl⟩
  | num h1 h2 =>
    cases g with
    | num g1 g2 => exact ⟨rfl, rfl, (h1.same g1).2.2⟩
    | long g1 => exact absurd (h1.same g1).2.2 h2
    | short g1 => exact absurd (h1.same g1).2.2 h2
    | form g1 => exact absurd (h1.same g1).2.2 h2
    | next g1 => exact absurd (h1.same g1).2.2 h2
  | long h1 h2 =>
    cases g with
    | num g1 g2 => exact absurd (h1.same g1).2.2.symm g2
    | long g1 => exact ⟨rfl, rfl, rfl⟩
    | short g1 g2 g3 => have := (h1.same g1).1; omega
    | form g1 g2 g3 => have := (h1.same g1).1; omega
    | next g1 g2 g3 => have := (h1.same g1).1; omega
  | short h1 h2 h3 h4 =>
    cases g with
    | num g1 g2 => exact absurd (h1.same g1).2.2.symm g2
    | long g1 g2 => have := (h1.same g1).1; omega
    | short g1 => exact ⟨rfl, rfl, rfl⟩
    | form g1 g2 g3 g4 => have := h1.same g1; omega
    | next g1 g2 g3 g4 => have := h1.same g1; omega
  | form h1 h2 h3 h4 h5 =>
    cases g with
    | num g1 g2 => exact absurd (h1.same g1).2.2.symm g2
    | long g1 g2 => have := (h1.same g1).1; omega
    | short g1 g2 g3 g4 => have := h1.same g1; omega
    | form g1 => exact ⟨rfl, rfl, rfl⟩
    | next g1 g2 g3 g4 g5 =>
      obtain ⟨rfl, rfl, _⟩ := h1.same g1
      exact absurd h5 g5
  | next h1 h2 h3 h4 h5 _ ih =>
    cases g with
    | num g1 g2 => exact absurd (h1.same g1).2.2.symm g2
    | long g1 g2 => have := (h1.same g1).1; omega
    | short g1 g2 g3 g4 => have := h1.same g1; omega
    | form g1 g2 g3 g4 g5 =>
      obtain ⟨rfl, rfl, _⟩ := h1.same g1
      exact absurd g5 h5
    | next g1 g2 g3 g4 g5 g6 =>
      obtain ⟨rfl, rfl, _⟩ := h1.same g1
      exact ih g6
def IsTab (au : ByteArray) (b : List Int) (T : List ByteArray) (p : Nat) (e : Int) : Prop :=
  ∃ n k f, IsGet b n k f ∧ ((f ≠ 0 ∧ T = [] ∧ p = 0 ∧ e = f) ∨ (f = 0 ∧ Reads au b n k [au] T p e))
theorem IsTab.same {au : ByteArray} {b : List Int} {T T' : List ByteArray} {p p' : Nat} {e e' : Int} (h : IsTab au b T p e) (g : IsTab au b T' p' e') : T = T' ∧ p = p' ∧ e = e' := by
  obtain ⟨n, k, f, h1, h2⟩ := h
  obtain ⟨n', k', f', g1, g2⟩ := g
  obtain ⟨rfl, rfl, rfl⟩ := h1.same g1
  rcases h2 with ⟨h3, rfl, rfl, rfl⟩ | ⟨h3, h4⟩ <;> rcases g2 with ⟨g3, rfl, rfl, rfl⟩ | ⟨g3, g4⟩
  · exact ⟨rfl, rfl, rfl⟩
  · exact absurd g3 h3
  · exact absurd h3 g3
  · exact h4.same g4
end Go.Proofs.Ytdbkbeojedndbaa
