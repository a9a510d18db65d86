/-
  Texts joined into one file: B, C, A, Fr, Conv, BitsP, Bits, BitsN, RdA.
-/
import Derived.Test.YtendohnkhbgfbaaDoorRows
import Derived.WalkKit
import Derived.WalkSpells
import Derived.WalkLawsBesides
import Derived.Deep.QuietTactic
import Derived.BigQuiet
import Derived.Lib.Hide
import Derived.Laws.StructEq
import Derived.KernelRfl
import Derived.SizedLaws
import Derived.ChangeSlices
import Derived.Laws.AppendOwnNone
import Derived.OneCell
import Derived.Deep.AppendLies
import Derived.Laws.BytesString
import Derived.Laws.BytesArg
import Derived.WalkSmall
import Derived.IntWalk
import Derived.Laws.Bits64b
import Derived.Deep.RegionWith
import Derived.Deep.RegionHeld3
/-
  Small laws that all walks use: what a call leaves of old memory; rows that the call owns; slices that are read.
-/
namespace Go.Proofs.YtendohnkhbgfbaaDoor
open Go.RowKit

/-- What a call leaves of a block that was laid right ahead of it. -/
theorem laid_kept {w w' : World} {vs : Array Value} {T : TypeId} (hb : Below (w.alloc (Obj.cells vs T)).heap.size (w.alloc (Obj.cells vs T)) w') (i : Nat) (v : Value) (h : vs[i]? = some v) :
    w'.cell? ⟨w.heap.size, i, none⟩ = some v ∧ w'.frozen? ⟨w.heap.size, i, none⟩ = false :=
  ⟨(hb.cell (p := ⟨w.heap.size, i, none⟩) (by simp)).trans (by simp [h]), (hb.frozen (p := ⟨w.heap.size, i, none⟩) (by simp)).trans (by simp)⟩
theorem kept_cell {w w' : World} (hb : Below w.heap.size w w') {a : Addr} {v : Value} (h : w.cell? a = some v) : w'.cell? a = some v := (hb.cell (World.block_lt_of_cell? w a h)).trans h
theorem kept_new {w : World} {a : Addr} {v : Value} (h : w.cell? a = some v) (o : Obj) : (w.alloc o).cell? a = some v := kept_cell ((Below.refl _ _).alloc (Nat.le_refl _) _) h
theorem kept_new2 {w : World} {a : Addr} {v : Value} (h : w.cell? a = some v) (o o' : Obj) : ((w.alloc o).alloc o').cell? a = some v := kept_new (kept_new h o) o'
theorem below_seq {B : Nat} {w w1 w2 : World} (h : Below B w w1) (hB : B ≤ w.heap.size) (k : Below w1.heap.size w1 w2) : Below B w w2 := h.trans (k.mono (Nat.le_trans hB h.size))
theorem below_new {B : Nat} {w w1 : World} (h : Below B w w1) (hB : B ≤ w.heap.size) (o : Obj) : Below B w (w1.alloc o) := h.alloc (Nat.le_trans hB h.size) o

/-! ### rows that the call owns -/
theorem own_below {w w1 : World} {base : Nat} {e : TypeId} {size n : Nat} {v : Value} {xs : List Value} (h : w.ownsRow base e size v n xs) (hb : Below w.heap.size w w1) : w1.ownsRow base e size v n xs :=
  h.kept ⟨hb.os, hb.tape, hb.output, hb.size, fun i hi _ => hb.block i hi⟩ (row := none) (by cases v.ownBlock <;> simp)
theorem own_slice {w : World} {base n : Nat} {e : TypeId} {size : Nat} {v : Value} {xs : List Value} (h : w.ownsRow base e size v n xs) : ∃ A c, v = .slice A n c := by
  rcases h.2 with ⟨rfl, rfl⟩ | ⟨g, cap, cur, rfl, _⟩
  · exact ⟨none, 0, rfl⟩
  · exact ⟨_, cap, rfl⟩
/-- An owned row that isn't empty begins at the head of a block of the call's own. -/
theorem own_form {w : World} {base n : Nat} {e : TypeId} {size : Nat} {v : Value} {xs : List Value} (h : w.ownsRow base e size v n xs) (hn : 0 < n) :
    ∃ g c, v = .slice (some ⟨g, 0, none⟩) n c ∧ base ≤ g ∧ g < w.heap.size ∧ n ≤ c ∧ (∀ j u, xs[j]? = some u → w.cell? ⟨g, j, none⟩ = some u) ∧ ∀ j, w.frozen? ⟨g, j, none⟩ = false := by
  rcases h.2 with ⟨rfl, rfl⟩ | ⟨g, cap, cur, rfl, hb, hh, hc, _⟩
  · omega
  · refine ⟨g, cap, rfl, hb, (Array.getElem?_eq_some_iff.1 hh).1, hc, fun j u hj => ?_, fun j => h.frozenAt j⟩
    have hl : j < xs.length := (List.getElem?_eq_some_iff.1 hj).1
    rw [h.cellAt j (by rw [h.1] at hl; exact hl)]
    exact hj
theorem own_mono {w : World} {base base' n : Nat} {e : TypeId} {size : Nat} {v : Value} {xs : List Value} (h : w.ownsRow base e size v n xs) (hb : base' ≤ base) : w.ownsRow base' e size v n xs := by
  refine ⟨h.1, ?_⟩
  rcases h.2 with h2 | ⟨g, cap, cur, hv, hg, r⟩
  · exact .inl h2
  · exact .inr ⟨g, cap, cur, hv, Nat.le_trans hb hg, r⟩
/-- Behind an append to a row of the call's own. -/
theorem below_app {B : Nat} {w w1 w2 : World} {base : Nat} {e : TypeId} {size n : Nat} {v : Value} {xs : List Value} (h : Below B w w1) (hB : B ≤ w.heap.size) (ho : w1.ownsRow base e size v n xs) (hbase : B ≤ base) (hg : w1.grownBy w2 v.ownBlock) : Below B w w2 :=
  h.grown hg (Nat.le_trans hB h.size) (fun k hk => Nat.le_trans hbase (ho.lt k hk).1)
/-- The one new element that 'append(out, x)' lays ahead of it. -/
theorem news_at (w : World) (vs : Array Value) (T : TypeId) : ∀ j u, vs.toList[j]? = some u → (w.alloc (Obj.cells vs T)).cell? ((⟨w.heap.size, 0, none⟩ : Addr).add j) = some u := by
  intro j u hu
  have : (⟨w.heap.size, 0, none⟩ : Addr).add j = ⟨w.heap.size, j, none⟩ := by unfold Addr.add; split <;> simp_all
  rw [this]
  simpa using hu
/-! ### append of one element that is built right ahead of it -/
structure ElT (P : Program) (t e : TypeId) (z : Value) (size bytes : Nat) : Prop where
  und : P.underlying t = some (.slice e)
  info : (P.info? e).map (fun i => (i.zero, i.size, i.bytes)) = some (some z, size, bytes)
  zs : z.cells.size = size
  pos : 0 < size
  bpos : 0 < bytes
theorem wpList_app1 {P : Program} {wr : World} {ops : Array Oper} {rest : List Oper} {o : Oper} {a : Act} {Q : Exit → Act → World → Prop} (hgd : o.guard = none) (s x : Operand) {t : TypeId}
    (ho : o.op = .call { callee := .builtin .append, args := #[s, x], argTypes := #[t, t] })
    {base : Nat} {e : TypeId} {z : Value} {size bytes : Nat} (El : ElT P t e z size bytes) {v : Value} {n : Nat} {xs : List Value} (hown : wr.ownsRow base e size v n xs)
    (hs : a.eval s = v) {vs : Array Value} {T : TypeId} (hx : a.eval x = .slice (some ⟨wr.heap.size, 0, none⟩) 1 1) (hl : vs.size = size) (h1 : vs.toList.all (fun u => u.oneCell') = true)
    (hbytes : (n + 1) * bytes ≤ 140737488355328) (hbase : base ≤ wr.heap.size)
    (h : ∀ v' w', w'.ownsRow base e size v' (n + 1) (xs ++ vs.toList) → Below base wr w' → (wr.alloc (.cells vs T)).grownBy w' v.ownBlock → wpList P ops Q rest (a.put o.dst v') w') : wpList P ops Q (o :: rest) a (wr.alloc (.cells vs T)) := by
  obtain ⟨i0, hi, hz0, hz1, hz2⟩ := info_parts El.info
  have hn : n + 1 ≤ maxLen := by
    have := Nat.mul_le_mul_left (n + 1) El.bpos
    unfold maxLen
    omega
  refine wpList_append_own _ hgd s x t ho base e i0 z size bytes El.und hi hz0 hz1 hz2 El.zs El.pos v n xs hs (hown.alloc _) ⟨wr.heap.size, 0, none⟩ 1 1 vs.toList hx (by simpa using hl) (news_at _ _ _) (fun u hu => List.all_eq_true.1 h1 u hu) hn hbytes (by simp; omega) ?_
  intro v' w' h2 h3 _
  refine h v' w' h2 ?_ h3
  refine ((Below.refl base wr).alloc hbase _).grown h3 (by simp; omega) (fun k hk => (hown.lt k hk).1)
/-- The same where the block's number is spelled otherwise. -/
theorem wpList_app2 {P : Program} {wr : World} {ops : Array Oper} {rest : List Oper} {o : Oper} {a : Act} {Q : Exit → Act → World → Prop} (hgd : o.guard = none) (s x : Operand) {t : TypeId}
    (ho : o.op = .call { callee := .builtin .append, args := #[s, x], argTypes := #[t, t] })
    {base : Nat} {e : TypeId} {z : Value} {size bytes : Nat} (El : ElT P t e z size bytes) {v : Value} {n : Nat} {xs : List Value} (hown : wr.ownsRow base e size v n xs)
    (hs : a.eval s = v) {vs : Array Value} {T : TypeId} {bx : Nat} (hx : a.eval x = .slice (some ⟨bx, 0, none⟩) 1 1) (hbx : bx = wr.heap.size) (hl : vs.size = size) (h1 : vs.toList.all (fun u => u.oneCell') = true)
    (hbytes : (n + 1) * bytes ≤ 140737488355328) (hbase : base ≤ wr.heap.size)
    (h : ∀ v' w', w'.ownsRow base e size v' (n + 1) (xs ++ vs.toList) → Below base wr w' → (wr.alloc (.cells vs T)).grownBy w' v.ownBlock → wpList P ops Q rest (a.put o.dst v') w') : wpList P ops Q (o :: rest) a (wr.alloc (.cells vs T)) := by
  subst hbx
  exact wpList_app1 hgd s x ho El hown hs hx hl h1 hbytes hbase h
/-- Another row of the call's own lives on. -/
theorem own_other {w w' : World} {base : Nat} {e : TypeId} {size n : Nat} {v : Value} {xs : List Value} {o : Obj} {row : Option Nat} (h : w.ownsRow base e size v n xs) (hg : (w.alloc o).grownBy w' row) (hne : v.ownBlock = none ∨ v.ownBlock ≠ row) : w'.ownsRow base e size v n xs :=
  (h.alloc o).kept hg hne
/-- A later world: all that was there in W0 is there as it was. A fact in this form is a rule for the walk in whatever later world. -/
structure Later (W0 W : World) : Prop where
  bel : Below W0.heap.size W0 W
theorem Later.refl (W0 : World) : Later W0 W0 := ⟨Below.refl _ _⟩
theorem Later.drew {W0 W : World} (h : Later W0 W) : Later W0 W.drew := ⟨h.bel.drew⟩
theorem Later.step {W0 W W' : World} (h : Later W0 W) (k : Below W.heap.size W W') : Later W0 W' := ⟨below_seq h.bel (Nat.le_refl _) k⟩
theorem Later.alloc {W0 W : World} (h : Later W0 W) (o : Obj) : Later W0 (W.alloc o) := ⟨below_new h.bel (Nat.le_refl _) o⟩
theorem Later.cell {W0 : World} {a : Addr} {v : Value} (h : W0.cell? a = some v) : ∀ W, Later W0 W → W.cell? a = some v := fun _ k => kept_cell k.bel h
/-! ### '==' of structs, field by field -/
theorem eqFields_cons {P : Program} {d : Nat} {xs ys : Array Value} {f : Field} {fs : List Field} {a b : Value} {r s : Bool} {w : World} (hn : (f.name == "_") = false)
    (ha : (part f.type xs f.offset).run P w = .ok a w) (hb : (part f.type ys f.offset).run P w = .ok b w) (he : (Op.equalIn d f.type a b).run P w = .ok r w)
    (hr : (Op.eqFields d xs ys fs).run P w = .ok s w) : (Op.eqFields d xs ys (f :: fs)).run P w = .ok (r && s) w := by
  have hn' : f.name ≠ "_" := by simpa using hn
  rw [Op.eqFields]
  simp only [if_pos hn', Sem.run_bind, ha, hb, he, Result.andThen_ok]
  cases r
  · simp
  · simpa using hr
theorem eqFields_nil {P : Program} {d : Nat} {xs ys : Array Value} {w : World} : (Op.eqFields d xs ys []).run P w = .ok true w := by simp [Op.eqFields]
theorem eqStruct_of {P : Program} {d : Nat} {xs ys : Array Value} {t : TypeId} {fs : Array Field} {r : Bool} {w : World} (hu : P.underlying t = some (.struct fs)) (hp : P.stoodInHeld t = false) (h : (Op.eqFields d xs ys fs.toList).run P w = .ok r w) : (Op.equalIn (d + 1) t (.agg xs) (.agg ys)).run P w = .ok r w := by
  have hf : P.fieldsOf t = fs := by simp [Program.fieldsOf, hu]
  rw [run_equalIn_struct (P := P) w d t xs ys (by rw [hf]; exact hu) hp, hf]
  exact h
theorem eqInt_of {P : Program} {d : Nat} {t : TypeId} {k : IntKind} {w : World} (hu : P.underlying t = some (.int k)) (a b : Int) : (Op.equalIn (d + 1) t (.int k a) (.int k b)).run P w = .ok (a == b) w := by
  simp [Op.equalIn, run_underlying hu]
theorem binEql_of {P : Program} {t : TypeId} {xs ys : Array Value} {r : Bool} {w : World} (h : (Op.equalIn (9998 + 2) t (.agg xs) (.agg ys)).run P w = .ok r w) : (binOp .eql t (.agg xs) (.agg ys)).run P w = .ok (.bool r) w := by
  simp only [binOp]
  simp only [Op.equal, Op.maxDepth, Sem.run_bind]
  have h' : Sem.run P (Op.equalIn 10000 t (.agg xs) (.agg ys)) w = .ok r w := h
  rw [h']
  rfl
theorem below_drewN {B : Nat} {w w1 : World} (h : Below B w w1) (n : Nat) : Below B w (w1.drewN n) := ⟨h.os, h.tape, h.output, h.size, h.block⟩
/-- A block of three cells, a draw, three stores into it. -/
theorem drawn3 (w : World) (o : Obj) (n : Nat) (u0 u1 u2 : Value) : Below w.heap.size w (((((w.alloc o).drewN n).setCell ⟨w.heap.size, 0, none⟩ u0).setCell ⟨w.heap.size, 1, none⟩ u1).setCell ⟨w.heap.size, 2, none⟩ u2) :=
  (((below_drewN ((Below.refl _ _).alloc (Nat.le_refl _) o) n).setCell (Nat.le_refl _) u0).setCell (Nat.le_refl _) u1).setCell (Nat.le_refl _) u2
/-! ### slices of numbers that are read; blocks of numbers that the call made -/
def rd (xs : List Int) (j : Nat) : Int := xs.getD j 0
theorem rd_getElem {xs : List Int} {j : Nat} (h : j < xs.length) : rd xs j = xs[j] := by simp [rd, List.getD_eq_getElem?_getD, List.getElem?_eq_getElem h]
theorem rd_set {xs : List Int} {j m : Nat} {v : Int} (h : m < xs.length) : rd (xs.set m v) j = if m = j then v else rd xs j := by
  unfold rd
  simp only [List.getD_eq_getElem?_getD, List.getElem?_set]
  split
  · simp_all
  · rfl
/-- The slice reads as these numbers. -/
def Rd (w : World) (k : IntKind) (A : Option Addr) (n : Nat) (xs : List Int) : Prop :=
  xs.length = n ∧ (0 < n → ∃ b o, A = some ⟨b, o, none⟩ ∧ ∀ j, j < n → w.cell? ⟨b, o + j, none⟩ = some (.int k (rd xs j)))
theorem Rd.below {w w1 : World} {k : IntKind} {A : Option Addr} {n : Nat} {xs : List Int} (h : Rd w k A n xs) (hb : Below w.heap.size w w1) : Rd w1 k A n xs :=
  ⟨h.1, fun hn => by obtain ⟨b, o, e, hc⟩ := h.2 hn; exact ⟨b, o, e, fun j hj => kept_cell hb (hc j hj)⟩⟩
theorem Rd.drew {w : World} {k : IntKind} {A : Option Addr} {n : Nat} {xs : List Int} (h : Rd w k A n xs) : Rd w.drew k A n xs := h.below (Below.refl _ _).drew
theorem Rd.alloc {w : World} {k : IntKind} {A : Option Addr} {n : Nat} {xs : List Int} (h : Rd w k A n xs) (o : Obj) : Rd (w.alloc o) k A n xs := h.below ((Below.refl _ _).alloc (Nat.le_refl _) _)
def ints (k : IntKind) (l : List Int) : List Value := l.map (Value.int k)
theorem ints_length (k : IntKind) (l : List Int) : (ints k l).length = l.length := by simp [ints]
theorem ints_append (k : IntKind) (a b : List Int) : ints k (a ++ b) = ints k a ++ ints k b := by simp [ints]
theorem ints_set (k : IntKind) (l : List Int) (j : Nat) (v : Int) : ints k (l.set j v) = (ints k l).set j (.int k v) := by simp [ints, List.map_set]
theorem ints_get {k : IntKind} {l : List Int} {j : Nat} (h : j < l.length) : (ints k l)[j]? = some (.int k (rd l j)) := by simp [ints, rd_getElem h, List.getElem?_eq_getElem h]
theorem ints_one (k : IntKind) (l : List Int) : (ints k l).toArray.all (fun u => u.oneCell') = true := by simp [ints, Value.oneCell']
theorem ints_size (k : IntKind) (l : List Int) : (ints k l).toArray.size = l.length := by simp [ints]
/-- The block holds these numbers. -/
def Blk (w : World) (b : Nat) (T : TypeId) (k : IntKind) (l : List Int) : Prop := w.heap[b]? = some (.cells (ints k l).toArray T (0, 0))
theorem Blk.cell {w : World} {b : Nat} {T : TypeId} {k : IntKind} {l : List Int} (h : Blk w b T k l) {j : Nat} (hj : j < l.length) : w.cell? ⟨b, j, none⟩ = some (.int k (rd l j)) := by
  rw [cell_of_row w b j _ T (0, 0) h, List.getElem?_toArray, ints_get hj]
theorem Blk.frozen {w : World} {b : Nat} {T : TypeId} {k : IntKind} {l : List Int} (h : Blk w b T k l) (j : Nat) : w.frozen? ⟨b, j, none⟩ = false := frozen_of_row w b j _ T h
theorem Blk.set {w : World} {b : Nat} {T : TypeId} {k : IntKind} {l : List Int} (h : Blk w b T k l) (j : Nat) (v : Int) : Blk (w.setCell ⟨b, j, none⟩ (.int k v)) b T k (l.set j v) := by
  unfold Blk
  rw [heap_setCell_same w b j _ T _ h, ints_set]
  simp
theorem Blk.lt {w : World} {b : Nat} {T : TypeId} {k : IntKind} {l : List Int} (h : Blk w b T k l) : b < w.heap.size := (Array.getElem?_eq_some_iff.1 h).1
theorem Blk.other {w : World} {b : Nat} {T : TypeId} {k : IntKind} {l : List Int} (h : Blk w b T k l) (a : Addr) (v : Value) (hne : b ≠ a.block) : Blk (w.setCell a v) b T k l := (heap_setCell_other w a b v hne).trans h
theorem Blk.alloc {w : World} {b : Nat} {T : TypeId} {k : IntKind} {l : List Int} (h : Blk w b T k l) (o : Obj) : Blk (w.alloc o) b T k l := (Below.heap_alloc _ _ _ h.lt).trans h
theorem Blk.below {w w' : World} {b : Nat} {T : TypeId} {k : IntKind} {l : List Int} (h : Blk w b T k l) {B : Nat} (hb : Below B w w') (hB : b < B) : Blk w' b T k l := (hb.block b hB).trans h
theorem Blk.rd {w : World} {b : Nat} {T : TypeId} {k : IntKind} {l : List Int} (h : Blk w b T k l) {n : Nat} (hn : l.length = n) : Rd w k (some ⟨b, 0, none⟩) n l :=
  ⟨hn, fun _ => ⟨b, 0, rfl, fun j hj => by rw [Nat.zero_add]; exact h.cell (by omega)⟩⟩
/-- A row of numbers that the call owns reads as they are. -/
theorem own_rd {w : World} {base n : Nat} {e : TypeId} {k : IntKind} {v : Value} {xs : List Int} (h : w.ownsRow base e 1 v n (ints k xs)) : ∃ A c, v = .slice A n c ∧ n ≤ c ∧ Rd w k A n xs := by
  have hl : xs.length = n := by have := h.1; simpa [ints] using this
  rcases Nat.eq_zero_or_pos n with h0 | h0
  · obtain ⟨A, c, hv⟩ := own_slice h
    exact ⟨A, c, hv, by omega, hl, fun hp => by omega⟩
  · obtain ⟨g, c, hv, _, _, hc, hcell, _⟩ := own_form h h0
    exact ⟨_, c, hv, hc, hl, fun _ => ⟨g, 0, rfl, fun j hj => by rw [Nat.zero_add]; exact hcell j _ (ints_get (by omega))⟩⟩
theorem Blk.own {w : World} {b : Nat} {T : TypeId} {k : IntKind} {l : List Int} (h : Blk w b T k l) {n base : Nat} (hn : l.length = n) (hb : base ≤ b) (hm : n ≤ maxLen) : w.ownsRow base T 1 (.slice (some ⟨b, 0, none⟩) n n) n (ints k l) :=
  ⟨by rw [ints_length, hn, Nat.mul_one], .inr ⟨b, n, _, rfl, hb, h, Nat.le_refl _, hm, by simp [ints_length, hn], by simp; exact List.take_of_length_le (by rw [ints_length, hn]; exact Nat.le_refl _)⟩⟩
/-- 'make([]T, n)' of one-cell elements: n zeros are owned. -/
theorem wpList_mk1 {P : Program} (w : World) {ops : Array Oper} {rest : List Oper} {o : Oper} {a : Act} {Q : Exit → Act → World → Prop} (hg : o.guard = none) (l c : Operand) {t : TypeId} (hop : o.op = Op.makeSlice t l c)
    {base : Nat} {e : TypeId} {k : IntKind} {bytes : Nat} (El : ElT P t e (.int k 0) 1 bytes) {kl kc : IntKind} {L C : Int} {n : Nat} (hl : a.eval l = .int kl L) (hc : a.eval c = .int kc C) (hL : L = (n : Int)) (hC : C = (n : Int))
    (hbytes : bytes * n ≤ 140737488355328) (hbase : base ≤ w.heap.size)
    (hK : ∀ w', w'.ownsRow base e 1 (.slice (some ⟨w.heap.size, 0, none⟩) n n) n (ints k (List.replicate n 0)) → Below w.heap.size w w' → w'.heap.size = w.heap.size + 1 → wpList P ops Q rest (a.put o.dst (.slice (some ⟨w.heap.size, 0, none⟩) n n)) w') :
    wpList P ops Q (o :: rest) a w := by
  obtain ⟨i0, hi, hz0, hz1, hz2⟩ := info_parts El.info
  subst hL hC
  have hn : n ≤ maxLen := by
    have := Nat.mul_le_mul_right n El.bpos
    unfold maxLen
    omega
  have hn' : (n : Int) ≤ 9223372036854775807 := by unfold maxLen at hn; omega
  have hb' : (i0.bytes : Int) * n ≤ 281474976710656 := by
    rw [hz2]
    have h : ((bytes * n : Nat) : Int) ≤ 281474976710656 := by omega
    rwa [Int.natCast_mul] at h
  have hr := run_make (P := P) w t e i0 (.int k 0) El.und hi hz0 kl kc n n (by omega) (Int.le_refl _) hb' hn'
  simp only [Int.toNat_natCast] at hr
  refine wpList_plain hg fun K hK' => ?_
  unfold Oper.wp
  simp [execOp, hop, hl, hc, hr, Result.andThen]
  refine hK' _ _ (hK _ ?_ ((Below.refl _ _).alloc (Nat.le_refl _) _) (by simp))
  have hz : i0.size = 1 := hz1
  have e1 : (madeCells (Value.int k 0).cells (n * i0.size)).toList = ints k (List.replicate n 0) := by
    rw [hz, Nat.mul_one]
    show (madeCells #[Value.int k 0] n).toList = _
    rw [toList_madeCells_one]
    simp [ints]
  rw [← e1]
  exact World.ownsRow_lit w _ n hbase hn (by rw [size_madeCells, hz])
/-! ### a row's slices of numbers -/
def IsRow (k : IntKind) (w : World) (a : Option Addr) (len cap : Nat) (zs : List Int) : Prop :=
  (a = none ∧ len = 0 ∧ cap = 0 ∧ zs = []) ∨
  ∃ x, a = some x ∧ len ≤ cap ∧ cap ≤ maxLen ∧ zs.length = cap ∧ (∀ i, i < zs.length → w.cell? (x.add i) = some (.int k (zs.getD i 0))) ∧ ∀ n ∈ zs, (Lit.int k n).wf = true
theorem IsRow.rd {k : IntKind} {w : World} {a : Option Addr} {len cap : Nat} {zs : List Int} (h : IsRow k w a len cap zs) : Rd w k a len (zs.take len) := by
  rcases h with ⟨rfl, rfl, rfl, rfl⟩ | ⟨⟨b, o, s⟩, rfl, hl, hm, hz, hc, hw⟩
  · exact ⟨rfl, fun h => by omega⟩
  · refine ⟨by simp; omega, fun hn => ?_⟩
    have hs : s = none := by simpa [Addr.add] using World.cell?_spot (hc 0 (by omega))
    subst hs
    refine ⟨b, o, rfl, fun j hj => ?_⟩
    have e : (⟨b, o, none⟩ : Addr).add j = ⟨b, o + j, none⟩ := by unfold Addr.add; split <;> simp_all
    have := hc j (by omega)
    rw [e] at this
    rw [this, rd_getElem (by simp; omega)]
    simp [List.getD_eq_getElem?_getD, List.getElem?_eq_getElem (show j < zs.length by omega)]
theorem IsRow.wf {k : IntKind} {w : World} {a : Option Addr} {len cap : Nat} {zs : List Int} (h : IsRow k w a len cap zs) : ∀ j, j < len → (Lit.int k (Go.Proofs.YtendohnkhbgfbaaDoor.rd (zs.take len) j)).wf = true := by
  intro j hj
  rcases h with ⟨rfl, rfl, rfl, rfl⟩ | ⟨x, rfl, hl, hm, hz, hc, hw⟩
  · omega
  · rw [rd_getElem (by simp; omega)]
    exact hw _ (List.mem_of_mem_take (List.getElem_mem _))
theorem u8_of_wf {n : Int} (h : (Lit.int .u8 n).wf = true) : 0 ≤ n ∧ n ≤ 255 := by
  simp [Lit.wf, IntKind.min, IntKind.max, IntKind.signed, IntKind.bits] at h
  omega
theorem u16_of_wf {n : Int} (h : (Lit.int .u16 n).wf = true) : 0 ≤ n ∧ n ≤ 65535 := by
  simp [Lit.wf, IntKind.min, IntKind.max, IntKind.signed, IntKind.bits] at h
  omega
theorem IsRow.u8 {w : World} {a : Option Addr} {len cap : Nat} {zs : List Int} (h : IsRow .u8 w a len cap zs) : ∀ j, j < len → 0 ≤ Go.Proofs.YtendohnkhbgfbaaDoor.rd (zs.take len) j ∧ Go.Proofs.YtendohnkhbgfbaaDoor.rd (zs.take len) j ≤ 255 := fun j hj => u8_of_wf (h.wf j hj)
/-- A row's slice of whole numbers is no longer than its weight allows. -/
theorem sized_ints {H : Type} {enc : TypeId × Value → H} {P : Program} {W : World} {base : Nat} {spare : Nat → Bool} {held : Bool} {t e : TypeId} {k : IntKind} {a : Option Addr} {len cap : Nat} {d : DataW H} {ps : List MemPlace} {ts : List TypeId} {ds : List (DataW H)} {j : Nat}
    (hsz : (DataW.weightsEach P ts ds).all (· ≤ reachBytes) = true) (ht : ts[j]? = some t) (hd : ds[j]? = some d) (hu : P.underlying t = some (.slice e)) (he : P.underlying e = some (.int k)) (hc : P.cellsOf e = 1) {B : Nat} (hB : P.bytesOf e = B)
    (h : DataW.Trod enc P W base spare held t (.slice a len cap) d ps) : len * B ≤ 140737488351232 := by
  obtain ⟨fuel, hf⟩ := h
  rcases Go.ChangeShapes.open_ints hu he hc hf with ⟨hcs, _⟩ | ⟨x, l, c, zs, hcs, _, hl, _, hz, hx, _, _⟩
  · simp [Value.cells] at hcs
    obtain ⟨rfl, rfl, rfl⟩ := hcs
    simp
  · simp [Value.cells] at hcs
    obtain ⟨rfl, rfl, rfl⟩ := hcs
    obtain ⟨hx, _⟩ := Prod.mk.inj hx
    subst hx
    have z := sized_slice hsz ht hd hu
    rw [hB] at z
    have hlz : len ≤ zs.length := by rw [hz]; split <;> omega
    have hsum : (Go.ChangeShapes.lits (H := H) k (zs.take len)).length + (Go.ChangeShapes.lits (H := H) k (zs.drop len)).length = zs.length := by
      simp [Go.ChangeShapes.lits]
      omega
    rw [hsum] at z
    exact Nat.le_trans (Nat.mul_le_mul_right _ hlz) z
end Go.Proofs.YtendohnkhbgfbaaDoor
/-
  More small laws that walks use: 'make' in a region that draws.
-/
namespace Go.Proofs.YtendohnkhbgfbaaDoor
open Go.RowKit

/-- 'make' as a rule for the walk: for a region that draws. -/
theorem make_rule {P : Program} {t e : TypeId} {k : IntKind} {bytes : Nat} (El : ElT P t e (.int k 0) 1 bytes) (n : Nat) (L : Int) (hL : L = n) (hbytes : bytes * n ≤ 140737488355328) :
    ∃ (o : Obj) (l : List Int), (∀ w : World, Sem.run P (Instr.makeSlice t (.int .i64 L) (.int .i64 L)) w = .ok (.slice (some ⟨w.heap.size, 0, none⟩) n n) (w.alloc o)) ∧ Hid (l = List.replicate n 0) ∧
      Hid (∀ (w : World) (g base : Nat), g = w.heap.size → base ≤ g → (w.alloc o).ownsRow base e 1 (.slice (some ⟨g, 0, none⟩) n n) n (ints k l)) := by
  obtain ⟨i0, hi, hz0, hz1, hz2⟩ := info_parts El.info
  subst hL
  have hn : n ≤ maxLen := by
    have := Nat.mul_le_mul_right n El.bpos
    unfold maxLen
    omega
  have hn' : (n : Int) ≤ 9223372036854775807 := by unfold maxLen at hn; omega
  have hb' : (i0.bytes : Int) * n ≤ 281474976710656 := by
    rw [hz2]
    have h : ((bytes * n : Nat) : Int) ≤ 281474976710656 := by omega
    rwa [Int.natCast_mul] at h
  refine ⟨Obj.cells (madeCells (Value.int k 0).cells (n * i0.size)) e, List.replicate n 0, fun w => ?_, rfl, ?_⟩
  · have hr := run_make (P := P) w t e i0 (.int k 0) El.und hi hz0 .i64 .i64 n n (by omega) (Int.le_refl _) hb' hn'
    simp only [Int.toNat_natCast] at hr
    exact hr
  · show ∀ (w : World) (g base : Nat), g = w.heap.size → base ≤ g → _
    intro w g base hg hbase
    subst hg
    have hz : i0.size = 1 := hz1
    have e1 : (madeCells (Value.int k 0).cells (n * i0.size)).toList = ints k (List.replicate n 0) := by
      rw [hz, Nat.mul_one]
      show (madeCells #[Value.int k 0] n).toList = _
      rw [toList_madeCells_one]
      simp [ints]
    rw [← e1]
    exact World.ownsRow_lit w _ n hbase hn (by rw [size_madeCells, hz])
end Go.Proofs.YtendohnkhbgfbaaDoor
/-
  Append of a slice of numbers that is read.
-/
namespace Go.Proofs.YtendohnkhbgfbaaDoor
open Go.RowKit

theorem addr_add (b o j : Nat) : (⟨b, o, none⟩ : Addr).add j = ⟨b, o + j, none⟩ := by unfold Addr.add; split <;> simp_all
theorem wpList_appRd {P : Program} {w : World} {ops : Array Oper} {rest : List Oper} {o : Oper} {a : Act} {Q : Exit → Act → World → Prop} (hgd : o.guard = none) (s x : Operand) {t : TypeId}
    (ho : o.op = .call { callee := .builtin .append, args := #[s, x], argTypes := #[t, t] })
    {base : Nat} {e : TypeId} {k : IntKind} {bytes : Nat} (El : ElT P t e (.int k 0) 1 bytes) {v : Value} {n : Nat} {ys : List Int} (hown : w.ownsRow base e 1 v n (ints k ys)) (hs : a.eval s = v)
    {A : Option Addr} {m c : Nat} {zs : List Int} (hx : a.eval x = .slice A m c) (hR : Rd w k A m zs) (hA : A = none → m = 0 ∧ c = 0) (hbytes : (n + m) * bytes ≤ 140737488355328) (hbase : base ≤ w.heap.size)
    (h : ∀ v' w', w'.ownsRow base e 1 v' (n + m) (ints k (ys ++ zs)) → w.grownBy w' v.ownBlock → wpList P ops Q rest (a.put o.dst v') w') : wpList P ops Q (o :: rest) a w := by
  obtain ⟨i0, hi, hz0, hz1, hz2⟩ := info_parts El.info
  have hn : n + m ≤ maxLen := by
    have := Nat.mul_le_mul_left (n + m) El.bpos
    unfold maxLen
    omega
  have hl := hR.1
  cases A with
  | none =>
    obtain ⟨rfl, rfl⟩ := hA rfl
    have hz : zs = [] := List.length_eq_zero_iff.1 hl
    subst hz
    refine wpList_append_own_none hgd s x t ho base e i0 1 El.und hi v n _ hs hown hx (h v w ?_ ?_)
    · simpa using hown
    · exact ⟨rfl, rfl, rfl, Nat.le_refl _, fun _ _ _ => rfl⟩
  | some ad =>
    refine wpList_append_own _ hgd s x t ho base e i0 (.int k 0) 1 bytes El.und hi hz0 hz1 hz2 El.zs El.pos v n _ hs hown ad m c (ints k zs) hx (by rw [ints_length]; omega) ?_ (fun u hu => ?_) hn hbytes hbase ?_
    · intro j u hu
      have hj : j < zs.length := by
        have := (List.getElem?_eq_some_iff.1 hu).1
        rwa [ints_length] at this
      obtain ⟨b, o', e', hc⟩ := hR.2 (by omega)
      cases e'
      rw [ints_get hj] at hu
      cases hu
      rw [addr_add]
      exact hc j (by omega)
    · unfold ints at hu
      obtain ⟨y, _, rfl⟩ := List.mem_map.1 hu
      rfl
    · intro v' w' h2 h3 _
      rw [← ints_append] at h2
      exact h v' w' h2 h3
end Go.Proofs.YtendohnkhbgfbaaDoor
/-
  What a call leaves of old memory, but for the blocks that are named; appends that tell where the row lies then.
-/
namespace Go.Proofs.YtendohnkhbgfbaaDoor
open Go.RowKit

/-- All old blocks are as they were, but for these. -/
structure Fr (w w' : World) (S : List (Option Nat)) : Prop where
  os : w'.os = w.os
  tape : w'.tape = w.tape
  output : w'.output = w.output
  size : w.heap.size ≤ w'.heap.size
  block : ∀ k, k < w.heap.size → (∀ o ∈ S, o ≠ some k) → w'.heap[k]? = w.heap[k]?
theorem Fr.refl (w : World) (S : List (Option Nat)) : Fr w w S := ⟨rfl, rfl, rfl, Nat.le_refl _, fun _ _ _ => rfl⟩
theorem Fr.trans {w w1 w2 : World} {S T : List (Option Nat)} (h : Fr w w1 S) (k : Fr w1 w2 T) (hT : ∀ o ∈ T, o ∈ S ∨ ∀ j, o = some j → w.heap.size ≤ j) : Fr w w2 S :=
  ⟨k.os.trans h.os, k.tape.trans h.tape, k.output.trans h.output, Nat.le_trans h.size k.size, fun j hj hS =>
    (k.block j (Nat.lt_of_lt_of_le hj h.size) (fun o ho e => by
      rcases hT o ho with h1 | h1
      · exact hS o h1 e
      · have := h1 j e; omega)).trans (h.block j hj hS)⟩
theorem Fr.ofBelow {w w' : World} (h : Below w.heap.size w w') (S : List (Option Nat)) : Fr w w' S := ⟨h.os, h.tape, h.output, h.size, fun k hk _ => h.block k hk⟩
theorem Fr.below {w w' : World} {S : List (Option Nat)} {B : Nat} (h : Fr w w' S) (hB : B ≤ w.heap.size) (hS : ∀ o ∈ S, ∀ j, o = some j → B ≤ j) : Below B w w' :=
  ⟨h.os, h.tape, h.output, h.size, fun k hk => h.block k (Nat.lt_of_lt_of_le hk hB) (fun o ho e => by have := hS o ho k e; omega)⟩
theorem Fr.ofGrown {w w' : World} {row : Option Nat} (h : w.grownBy w' row) : Fr w w' [row] := ⟨h.os, h.tape, h.output, h.size, fun k hk hS => h.block k hk (fun e => hS row (by simp) e.symm)⟩
theorem Fr.mono {w w' : World} {S T : List (Option Nat)} (h : Fr w w' S) (hS : ∀ o ∈ S, o ∈ T) : Fr w w' T := ⟨h.os, h.tape, h.output, h.size, fun k hk hT => h.block k hk (fun o ho => hT o (hS o ho))⟩
theorem Fr.set {w w' : World} {S : List (Option Nat)} (h : Fr w w' S) (a : Addr) (v : Value) (ha : some a.block ∈ S ∨ w.heap.size ≤ a.block) : Fr w (w'.setCell a v) S :=
  ⟨h.os, h.tape, h.output, by simpa using h.size, fun k hk hS => (heap_setCell_other w' a k v (by
    intro e
    rcases ha with h1 | h1
    · exact hS _ h1 (by rw [e])
    · omega)).trans (h.block k hk hS)⟩
theorem Fr.alloc {w w' : World} {S : List (Option Nat)} (h : Fr w w' S) (o : Obj) : Fr w (w'.alloc o) S :=
  ⟨h.os, h.tape, h.output, by have := h.size; simp; omega, fun k hk hS => (Below.heap_alloc _ _ _ (Nat.lt_of_lt_of_le hk h.size)).trans (h.block k hk hS)⟩
theorem Fr.drew {w w' : World} {S : List (Option Nat)} (h : Fr w w' S) : Fr w w'.drew S := ⟨h.os, h.tape, h.output, h.size, h.block⟩
/-- Two rows that aren't one. -/
def Apart (a b : Option Nat) : Prop := ∀ k, a = some k → b ≠ some k
theorem Apart.symm {a b : Option Nat} (h : Apart a b) : Apart b a := fun k e f => h k f e
theorem own_fr {w w' : World} {base : Nat} {e : TypeId} {size n : Nat} {v : Value} {xs : List Value} {S : List (Option Nat)} (h : w.ownsRow base e size v n xs) (hf : Fr w w' S) (hS : ∀ o ∈ S, Apart v.ownBlock o) : w'.ownsRow base e size v n xs := by
  refine ⟨h.1, ?_⟩
  rcases h.2 with h2 | ⟨g, cap, cur, rfl, hb, hg, r⟩
  · exact .inl h2
  · refine .inr ⟨g, cap, cur, rfl, hb, ?_, r⟩
    rw [hf.block g (Array.getElem?_eq_some_iff.1 hg).1 (fun o ho => hS o ho g rfl)]
    exact hg
/-- A row of another type than a block's is another block. -/
theorem own_apart {w : World} {h : Nat} {cells : Array Value} {T e : TypeId} {fz : Nat × Nat} {base n size : Nat} {v : Value} {xs : List Value} (hh : w.heap[h]? = some (.cells cells T fz)) (hT : T ≠ e) (ho : w.ownsRow base e size v n xs) : Apart v.ownBlock (some h) := by
  intro k hk e2
  cases e2
  rcases ho.2 with ⟨rfl, _⟩ | ⟨g, cap, cur, rfl, _, hg, _⟩
  · simp [Value.ownBlock] at hk
  · simp [Value.ownBlock] at hk
    subst hk
    rw [hh] at hg
    simp at hg
    exact hT hg.2.1
theorem own_apart2 {w : World} {e e' : TypeId} {base base' n n' size size' : Nat} {v v' : Value} {xs xs' : List Value} (he : e ≠ e') (h : w.ownsRow base e size v n xs) (h' : w.ownsRow base' e' size' v' n' xs') : Apart v.ownBlock v'.ownBlock := by
  intro k hk e2
  rcases h'.2 with ⟨rfl, _⟩ | ⟨g, cap, cur, rfl, _, hg, _⟩
  · simp [Value.ownBlock] at e2
  · simp [Value.ownBlock] at e2
    subst e2
    exact own_apart hg (Ne.symm he) h g hk rfl
theorem own_base0 {w : World} {base n : Nat} {e : TypeId} {size : Nat} {v : Value} {xs : List Value} (h : w.ownsRow base e size v n xs) : w.ownsRow 0 e size v n xs := own_mono h (Nat.zero_le _)
/-- The front of a row. -/
theorem own_front {w : World} {base n : Nat} {e : TypeId} {A : Option Addr} {c : Nat} {xs : List Value} (h : w.ownsRow base e 1 (.slice A n c) n xs) (m : Nat) (hm : m ≤ n) : w.ownsRow base e 1 (.slice A m c) m (xs.take m) := by
  refine ⟨by rw [List.length_take, h.1]; omega, ?_⟩
  rcases h.2 with ⟨h1, h2⟩ | ⟨g, cap, cur, h1, hb, hg, h3, h4, h5, h6⟩
  · simp at h1
    obtain ⟨rfl, rfl, rfl⟩ := h1
    exact .inl ⟨by rw [show m = 0 from by omega], by omega⟩
  · simp at h1
    obtain ⟨rfl, rfl⟩ := h1
    refine .inr ⟨g, c, cur, rfl, hb, hg, by omega, h4, h5, ?_⟩
    rw [← h6, List.take_take]
    congr 1
    omega
/-- A store into a row. -/
theorem own_store {w : World} {base n : Nat} {e : TypeId} {size : Nat} {g c : Nat} {xs : List Value} (h : w.ownsRow base e size (.slice (some ⟨g, 0, none⟩) n c) n xs) (j : Nat) (u : Value) :
    (w.setCell ⟨g, j, none⟩ u).ownsRow base e size (.slice (some ⟨g, 0, none⟩) n c) n (xs.set j u) := by
  refine ⟨by rw [List.length_set, h.1], ?_⟩
  rcases h.2 with ⟨h1, h2⟩ | ⟨g', cap, cur, h1, hb, hg, h3, h4, h5, h6⟩
  · cases h1
  · simp at h1
    obtain ⟨rfl, rfl⟩ := h1
    refine .inr ⟨g, c, cur.setIfInBounds j u, rfl, hb, ?_, h3, h4, by rw [Array.size_setIfInBounds, h5], ?_⟩
    · exact heap_setCell_same w g j _ _ _ hg
    · rw [Array.toList_setIfInBounds, List.take_set, h6]
/-- 'append' of one element that is built right ahead of it: where the row lies then, and what is left of old memory. -/
theorem wpList_app3 {P : Program} {wr : World} {ops : Array Oper} {rest : List Oper} {o : Oper} {a : Act} {Q : Exit → Act → World → Prop} (hgd : o.guard = none) (s x : Operand) {t : TypeId}
    (ho : o.op = .call { callee := .builtin .append, args := #[s, x], argTypes := #[t, t] })
    {base : Nat} {e : TypeId} {z : Value} {size bytes : Nat} (El : ElT P t e z size bytes) {v : Value} {n : Nat} {xs : List Value} (hown : wr.ownsRow base e size v n xs)
    (hs : a.eval s = v) {vs : Array Value} {T : TypeId} {bx : Nat} (hx : a.eval x = .slice (some ⟨bx, 0, none⟩) 1 1) (hbx : bx = wr.heap.size) (hl : vs.size = size) (h1 : vs.toList.all (fun u => u.oneCell') = true)
    (hbytes : (n + 1) * bytes ≤ 140737488355328) (hbase : base ≤ wr.heap.size)
    (h : ∀ g cap w', w'.ownsRow base e size (.slice (some ⟨g, 0, none⟩) (n + 1) cap) (n + 1) (xs ++ vs.toList) → Fr wr w' [v.ownBlock] → (v.ownBlock = some g ∨ wr.heap.size ≤ g) → g < w'.heap.size → wpList P ops Q rest (a.put o.dst (.slice (some ⟨g, 0, none⟩) (n + 1) cap)) w') : wpList P ops Q (o :: rest) a (wr.alloc (.cells vs T)) := by
  subst hbx
  obtain ⟨i0, hi, hz0, hz1, hz2⟩ := info_parts El.info
  have hn : n + 1 ≤ maxLen := by
    have := Nat.mul_le_mul_left (n + 1) El.bpos
    unfold maxLen
    omega
  refine wpList_append_lies _ hgd s x t ho base e i0 z size bytes El.und hi hz0 hz1 hz2 El.zs El.pos v n xs hs (hown.alloc _) ⟨wr.heap.size, 0, none⟩ 1 1 vs.toList hx (by simpa using hl) (news_at _ _ _) (fun u hu => List.all_eq_true.1 h1 u hu) (by omega) hn hbytes (by simp; omega) (wr.heap.size + 1) (by simp) ?_
  intro g cap w' h2 h3 h4 h5
  refine h g cap w' h2 (((Fr.refl wr [v.ownBlock]).alloc _).trans (Fr.ofGrown h3) (fun o ho => .inl ho)) ?_ h5
  rcases h4 with h4 | h4
  · exact .inl h4
  · exact .inr (by omega)
theorem Later.made {W0 W : World} (a : Addr) (u : Value) (ha : W0.heap.size ≤ a.block) (h : Later W0 W) : Later W0 (W.setCell a u) := ⟨h.bel.setCell ha u⟩
theorem Later.new {W0 W : World} (o : Obj) (h : Later W0 W) : Later W0 (W.alloc o) := h.alloc o
theorem Later.below {W0 W : World} (h : Later W0 W) : Below W0.heap.size W0 W := h.bel
end Go.Proofs.YtendohnkhbgfbaaDoor
/-
  Strings of bytes that are read, none too.
-/
namespace Go.Proofs.YtendohnkhbgfbaaDoor
open Go.RowKit

theorem conv_all {W : World} {A : Option Addr} {n c : Nat} {ns : List Int} (h : Rd W .u8 A n ns) : (convert 22 9 (.slice A n c)).run Tryd.prog W = .ok (.string (strOfNums ns)) W := by
  rcases Nat.eq_zero_or_pos n with h0 | h0
  · subst h0
    have : ns = [] := List.length_eq_zero_iff.1 h.1
    subst this
    rw [run_convert_bytes_string W 22 9 A 0 c (e := 5) Tryd.underlying22 Tryd.underlying5 Tryd.underlying9]
    cases A <;> simp [Conv.bytesToString, loadCells]
    all_goals rfl
  · obtain ⟨b, o, rfl, hc⟩ := h.2 h0
    exact run_convert_bytes_arg W _ 5 Tryd.underlying22 Tryd.underlying5 b o n c ns h.1 hc _ Tryd.underlying9
theorem conv_allL {w0 : World} {A : Option Addr} {n c : Nat} {ns : List Int} (h : Rd w0 .u8 A n ns) : ∀ W, Later w0 W → (convert 22 9 (.slice A n c)).run Tryd.prog W = .ok (.string (strOfNums ns)) W :=
  fun _ hL => conv_all (h.below hL.bel)
end Go.Proofs.YtendohnkhbgfbaaDoor
/-
  Plain facts: and, or of numbers; bits of bytes (no program).
-/
namespace Go.Proofs.YtendohnkhbgfbaaDoor
theorem and7_i64 (p : Nat) (hp : p < 4611686018427387904) : bits BinOp.and IntKind.i64 (p : Int) 7 = ((p % 8 : Nat) : Int) := by
  have h1 : (BitVec.ofInt 64 (p : Int)).toNat = p := by
    rw [BitVec.ofInt_natCast, BitVec.toNat_ofNat]; exact Nat.mod_eq_of_lt (by omega)
  have h2 : (BitVec.ofInt 64 (7 : Int)).toNat = 7 := by decide
  show IntKind.i64.wrap ((BitVec.ofInt 64 (p : Int) &&& BitVec.ofInt 64 (7 : Int)).toNat : Int) = _
  rw [BitVec.toNat_and, h1, h2, show (7 : Nat) = 2 ^ 3 - 1 from rfl, Nat.and_two_pow_sub_one_eq_mod]
  exact IntWalk.i64_in _ (by omega)
theorem and1_u8 (p : Nat) (hp : p < 256) : bits BinOp.and IntKind.u8 (p : Int) 1 = ((p % 2 : Nat) : Int) := by
  have h1 : (BitVec.ofInt 8 (p : Int)).toNat = p := by
    rw [BitVec.ofInt_natCast, BitVec.toNat_ofNat]; exact Nat.mod_eq_of_lt (by omega)
  have h2 : (BitVec.ofInt 8 (1 : Int)).toNat = 1 := by decide
  show IntKind.u8.wrap ((BitVec.ofInt 8 (p : Int) &&& BitVec.ofInt 8 (1 : Int)).toNat : Int) = _
  rw [BitVec.toNat_and, h1, h2, Nat.and_one_is_mod]
  exact IntWalk.u8_in _ (by omega)
theorem or_u64_top (x b k : Nat) (hx : x < 2 ^ k) (hb : b ≤ 1) (hk : k < 64) : bits BinOp.or IntKind.u64 (x : Int) ((b * 2 ^ k : Nat) : Int) = ((x + b * 2 ^ k : Nat) : Int) := by
  have hp : (2 : Nat) ^ k ≤ 2 ^ 63 := Nat.pow_le_pow_right (by omega) (by omega)
  have hp2 : (2 : Nat) ^ 63 = 9223372036854775808 := by decide
  have hb2 : b * 2 ^ k ≤ 2 ^ k := by
    have := Nat.mul_le_mul_right (2 ^ k) hb
    omega
  rw [bits_or_u64_nat x (b * 2 ^ k) (by omega) (by omega)]
  have h := Nat.two_pow_add_eq_or_of_lt hx b
  rw [Nat.mul_comm] at h
  rw [Nat.or_comm, ← h, Nat.add_comm]
end Go.Proofs.YtendohnkhbgfbaaDoor
/-
  The walks of package bits: Reader.
-/
namespace Go.Proofs.YtendohnkhbgfbaaDoor
open Go.RowKit

/-- A reader of these bytes, that stands at this bit. -/
def RdrAt (w : World) (r : Nat) (A : Option Addr) (len cap : Nat) (at' : Nat) : Prop := w.heap[r]? = some (.cells #[.slice A len cap, .int .i64 at'] 120 (0, 0))
theorem RdrAt.lt {w : World} {r : Nat} {A : Option Addr} {len cap at' : Nat} (h : RdrAt w r A len cap at') : r < w.heap.size := (Array.getElem?_eq_some_iff.1 h).1
theorem RdrAt.c0 {w : World} {r : Nat} {A : Option Addr} {len cap at' : Nat} (h : RdrAt w r A len cap at') : w.cell? ⟨r, 0, none⟩ = some (.slice A len cap) := by
  rw [cell_of_row w r 0 _ _ (0, 0) h]; rfl
theorem RdrAt.c1 {w : World} {r : Nat} {A : Option Addr} {len cap at' : Nat} (h : RdrAt w r A len cap at') : w.cell? ⟨r, 1, none⟩ = some (.int .i64 at') := by
  rw [cell_of_row w r 1 _ _ (0, 0) h]; rfl
theorem RdrAt.frozen {w : World} {r : Nat} {A : Option Addr} {len cap at' : Nat} (h : RdrAt w r A len cap at') (j : Nat) : w.frozen? ⟨r, j, none⟩ = false := frozen_of_row w r j _ _ h
theorem RdrAt.set {w : World} {r : Nat} {A : Option Addr} {len cap at' : Nat} (h : RdrAt w r A len cap at') (x : Nat) : RdrAt (w.setCell ⟨r, 1, none⟩ (.int .i64 x)) r A len cap x := by
  unfold RdrAt
  rw [heap_setCell_same w r 1 _ _ _ h]
  rfl
theorem RdrAt.keep {w w' : World} {r : Nat} {A : Option Addr} {len cap at' : Nat} (h : RdrAt w r A len cap at') (hb : Below w.heap.size w w') : RdrAt w' r A len cap at' := (hb.block r h.lt).trans h

set_option maxHeartbeats 1000000 in
theorem Left_calls (r : Nat) (A : Option Addr) (len cap at' : Nat) (w : World) (hR : RdrAt w r A len cap at') (hlen : len ≤ 140737488355328) (hat : at' ≤ 8 * len) :
    Calls Tryd.prog 102 #[.pointer (some ⟨r, 0, none⟩)] w fun e w' => e = .returned (.int .i64 (8 * len - at')) ∧ Below w.heap.size w w' := by
  have c0 := hR.c0
  have c1 := hR.c1
  clear hR
  have s1 : IntKind.i64.wrap (8 * (len : Int)) = 8 * len := IntWalk.i64_in _ (by omega)
  have s2 : IntKind.i64.wrap (8 * (len : Int) - at') = 8 * len - at' := IntWalk.i64_in _ (by omega)
  go_enter Tryd.func102, Tryd.ntmps102
  go_wp2
  go_quiet (fail)
  go_wp2
  go_ret
  exact ⟨rfl, (Below.refl _ _).trans ⟨rfl, rfl, rfl, Nat.le_refl _, fun _ _ => rfl⟩⟩

theorem Rd.grown {w w1 : World} {k : IntKind} {A : Option Addr} {n : Nat} {xs : List Int} (h : Rd w k A n xs) {r : Nat} (hg : w.grownBy w1 (some r)) (hne : ∀ b o, A = some ⟨b, o, none⟩ → b ≠ r) : Rd w1 k A n xs :=
  ⟨h.1, fun hn => by obtain ⟨b, o, e, hc⟩ := h.2 hn; exact ⟨b, o, e, fun j hj => hg.cell (hc j hj) (by simpa using hne b o e)⟩⟩
theorem grown_below {w w1 w2 : World} {r : Nat} (h : w.grownBy w1 (some r)) (hb : Below w1.heap.size w1 w2) : w.grownBy w2 (some r) :=
  ⟨hb.os.trans h.os, hb.tape.trans h.tape, hb.output.trans h.output, Nat.le_trans h.size hb.size, fun k hk hne => (hb.block k (Nat.lt_of_lt_of_le hk h.size)).trans (h.block k hk hne)⟩
theorem grown_set {w w1 : World} {r : Nat} (h : w.grownBy w1 (some r)) (j : Nat) (v : Value) : w.grownBy (w1.setCell ⟨r, j, none⟩ v) (some r) :=
  ⟨h.os, h.tape, h.output, by simpa using h.size, fun k hk hne => (heap_setCell_other w1 ⟨r, j, none⟩ k v (by intro e; exact hne (by rw [e]))).trans (h.block k hk hne)⟩
theorem grown_refl (w : World) (row : Option Nat) : w.grownBy w row := ⟨rfl, rfl, rfl, Nat.le_refl _, fun _ _ _ => rfl⟩
def bitAt (bs : List Int) (i : Nat) : Nat := (rd bs (i / 8)).toNat / 2 ^ (i % 8) % 2
def numAt (bs : List Int) (at' : Nat) : Nat → Nat
  | 0 => 0
  | i + 1 => numAt bs at' i + bitAt bs (at' + i) * 2 ^ i
theorem bitAt_le (bs : List Int) (i : Nat) : bitAt bs i ≤ 1 := by unfold bitAt; omega
theorem numAt_lt (bs : List Int) (at' i : Nat) : numAt bs at' i < 2 ^ i := by
  induction i with
  | zero => simp [numAt]
  | succ i ih =>
    have h := Nat.mul_le_mul_right (2 ^ i) (bitAt_le bs (at' + i))
    simp only [numAt, Nat.pow_succ]
    omega
theorem bit_step (bs : List Int) (at' k p y : Nat) (hp : p = at' + k) (hy : rd bs (p / 8) = y) (hy2 : y < 256) (hk : k < 60) :
    bits BinOp.or IntKind.u64 ((numAt bs at' k : Nat) : Int) (IntKind.u64.wrap (IntKind.u64.wrap (bits BinOp.and IntKind.u8 ((y : Int) / 2 ^ (p % 8)) 1) * 2 ^ k)) = ((numAt bs at' (k + 1) : Nat) : Int) := by
  have e1 : (y : Int) / 2 ^ (p % 8) = ((y / 2 ^ (p % 8) : Nat) : Int) := by
    rw [Int.natCast_ediv, Int.natCast_pow]
    rfl
  have hd : y / 2 ^ (p % 8) ≤ y := Nat.div_le_self _ _
  have e2 : bitAt bs p = y / 2 ^ (p % 8) % 2 := by unfold bitAt; rw [hy]; rfl
  have hb := bitAt_le bs p
  have hpow : (2 : Nat) ^ k ≤ 2 ^ 60 := Nat.pow_le_pow_right (by omega) (by omega)
  have hp60 : (2 : Nat) ^ 60 = 1152921504606846976 := by decide
  have hm : bitAt bs p * 2 ^ k ≤ 1 * 2 ^ k := Nat.mul_le_mul_right _ hb
  rw [e1, and1_u8 _ (by omega), ← e2, IntWalk.u64_in ((bitAt bs p : Nat) : Int) (by omega)]
  have e3 : ((bitAt bs p : Nat) : Int) * 2 ^ k = ((bitAt bs p * 2 ^ k : Nat) : Int) := by
    rw [Int.natCast_mul, Int.natCast_pow]
    rfl
  rw [e3, IntWalk.u64_in _ (by omega), or_u64_top _ _ _ (numAt_lt bs at' k) hb (by omega)]
  simp only [numAt, hp]
set_option maxHeartbeats 1000000 in
theorem Bits_calls (r : Nat) (A : Option Addr) (len cap at' n : Nat) (bs : List Int) (w : World) (hR : RdrAt w r A len cap at') (hB : Rd w .u8 A len bs) (hb : ∀ j, j < len → 0 ≤ rd bs j ∧ rd bs j ≤ 255) (hne : ∀ b o, A = some ⟨b, o, none⟩ → b ≠ r) (hlen : len ≤ 140737488355328) (hat : at' ≤ 8 * len) (hn : n ≤ 60) (hok : at' + n ≤ 8 * len) :
    Calls Tryd.prog 76 #[.pointer (some ⟨r, 0, none⟩), .int .i64 n] w fun e w' => e = .returned (.tuple #[(.int .u64 (numAt bs at' n : Nat)), .bool true]) ∧ RdrAt w' r A len cap (at' + n) ∧ w.grownBy w' (some r) := by
  have HR := Lib.hid hR
  have HB := Lib.hid hB
  have Hb := Lib.hid hb
  clear hR hB hb
  go_enter Tryd.func76, Tryd.ntmps76
  go_wp2_with fail
  refine (Left_calls r A len cap at' _ HR.out hlen hat).mono ?_
  rintro e w1 ⟨rfl, hb1⟩
  have HR1 := Lib.hid (HR.out.keep hb1)
  have HB1 := Lib.hid (HB.out.below hb1)
  have Hb1 := Lib.hid hb1
  clear hb1
  go_wp2
  go_loopw [6, 21] (fun x i wr => ∃ k : Nat, k ≤ n ∧ i = .int .i64 k ∧ x = .int .u64 (numAt bs at' k : Nat) ∧ RdrAt wr r A len cap (at' + k) ∧ Hid (w.grownBy wr (some r))) (fun _ i _ => n - (intOf i).toNat)
  case atStart => exact ⟨0, by omega, rfl, rfl, HR1.out, grown_below (grown_refl w _) Hb1.out⟩
  case round =>
    obtain ⟨k, hk, rfl, rfl, hR, Hg⟩ := hrel
    have HRk := Lib.hid hR
    have c0 := hR.c0
    have c1 := hR.c1
    have f1 := hR.frozen 1
    clear hR
    by_cases hlt : k < n
    · obtain ⟨b, o, rfl, hc⟩ := (HB.out.grown Hg.out hne).2 (by omega)
      obtain ⟨p, hp⟩ : ∃ p : Nat, p = at' + k := ⟨_, rfl⟩
      have Hp := Lib.hid hp
      rw [← hp] at c1
      have hj : p / 8 < len := by omega
      have z := hc _ hj
      clear hc hp
      have hbr := Hb.out _ hj
      have s1 : ((p : Int) / 8).toNat = p / 8 := by omega
      have s2 : (0 : Int) ≤ (p : Int) / 8 := by omega
      have s3 : (p : Int) / 8 < len := by omega
      obtain ⟨y, hy⟩ : ∃ y : Nat, rd bs (p / 8) = y := ⟨(rd bs (p / 8)).toNat, by omega⟩
      rw [hy] at z hbr
      have Ev := Lib.hid (bit_step bs at' k p y Hp.out hy (by omega) (by omega))
      obtain ⟨q, hq⟩ : ∃ q : Nat, q = p % 8 := ⟨_, rfl⟩
      have a1 := and7_i64 p (by omega)
      rw [← hq] at a1
      have hbit : bitAt bs p = y / 2 ^ q % 2 := by unfold bitAt; rw [hy, ← hq]; rfl
      have Hbit := Lib.hid hbit
      have hyd : y / 2 ^ q ≤ y := Nat.div_le_self _ _
      obtain ⟨u, hu⟩ : ∃ u : Nat, u = y / 2 ^ q := ⟨_, rfl⟩
      have a2 := and1_u8 u (by omega)
      have hq8 : q < 8 := by omega
      clear hbit
      go_wp2
      go_region
      rw [Ev.out]
      go_wp2
      go_roundw
      case rel =>
        refine ⟨k + 1, by omega, by go_num, rfl, ?_, grown_set (grown_below Hg.out (Below.refl _ _).drew) 1 _⟩
        have h9 : RdrAt (wr.setCell ⟨r, 1, none⟩ (.int .i64 ((p : Int) + 1))) r (some ⟨b, o, none⟩) len cap (p + 1) := HRk.out.set (p + 1)
        rw [show at' + (k + 1) = p + 1 from by rw [Hp.out]; omega]
        exact h9
      case measure => simp [intOf]; omega
    · have hkn : k = n := by omega
      rw [hkn] at HRk
      go_wp2
      refine bodyPost_ret (v := .tuple #[.int .u64 (numAt bs at' k : Nat), .bool true]) (by simp [results, Tryd.results76, go_sem]) rfl ⟨by rw [hkn], HRk.out, Hg.out⟩
set_option maxHeartbeats 1000000 in
theorem BitsShort_calls (r : Nat) (A : Option Addr) (len cap at' n : Nat) (w : World) (hR : RdrAt w r A len cap at') (hlen : len ≤ 140737488355328) (hat : at' ≤ 8 * len) (hn : n ≤ 60) (hno : 8 * len < at' + n) :
    Calls Tryd.prog 76 #[.pointer (some ⟨r, 0, none⟩), .int .i64 n] w fun e w' => e = .returned (.tuple #[.int .u64 0, .bool false]) ∧ Below w.heap.size w w' := by
  have HR := Lib.hid hR
  clear hR
  go_enter Tryd.func76, Tryd.ntmps76
  go_wp2_with fail
  refine (Left_calls r A len cap at' _ HR.out hlen hat).mono ?_
  rintro e w1 ⟨rfl, hb1⟩
  have Hb1 := Lib.hid hb1
  clear hb1
  go_wp2
  refine bodyPost_ret (v := .tuple #[.int .u64 0, .bool false]) (by simp [results, Tryd.results76, go_sem]) rfl ⟨rfl, Hb1.out⟩
end Go.Proofs.YtendohnkhbgfbaaDoor
/-
  The walk of bits.New.
-/
namespace Go.Proofs.YtendohnkhbgfbaaDoor
open Go.RowKit

theorem elU8 : ElT Tryd.prog 22 5 (.int .u8 0) 1 1 := ⟨Tryd.underlying22, by kernel_rfl, rfl, by decide, by decide⟩
theorem own_empty (w : World) (e : TypeId) : (w.alloc (.cells #[] e)).ownsRow w.heap.size e 1 (.slice (some ⟨w.heap.size, 0, none⟩) 0 0) 0 [] :=
  World.ownsRow_lit w #[] 0 (Nat.le_refl _) (by decide) rfl
set_option maxHeartbeats 1000000 in
theorem BNew_calls (A : Option Addr) (len cap : Nat) (bs : List Int) (w : World) (hB : Rd w .u8 A len bs) (hA : A = none → len = 0 ∧ cap = 0) (hlen : len ≤ 1000000) :
    Calls Tryd.prog 38 #[.slice A len cap] w fun e w' => ∃ r B c, e = .returned (.pointer (some ⟨r, 0, none⟩)) ∧ w.heap.size ≤ r ∧ RdrAt w' r B len c 0 ∧ w'.ownsRow w.heap.size 5 1 (.slice B len c) len (ints .u8 bs) ∧ Below w.heap.size w w' := by
  have HB := Lib.hid hB
  clear hB
  go_enter Tryd.func38, Tryd.ntmps38
  go_wp2_with (at_builtin; refine wpList_appRd rfl _ _ rfl elU8 (ys := []) (own_empty w _) rfl rfl (HB.out.alloc _) hA (by omega) (by simp) ?_; intro v' w' hown hg; rw [Nat.zero_add] at hown; obtain ⟨B, c, rfl⟩ := own_slice hown; have Hown := Lib.hid hown; have Hg := Lib.hid hg; clear hown hg)
  have hsz : w.heap.size ≤ w'.heap.size := by have := Hg.out.size; simp at this; omega
  have hb1 : Below w.heap.size w w' := ((Below.refl _ _).alloc (Nat.le_refl _) _).grown Hg.out (by simp) (fun k hk => by simp [Value.ownBlock] at hk; omega)
  go_ret
  exact ⟨w'.heap.size, B, c, rfl, hsz, heap_alloc_new w' _, Hown.out.alloc _, below_new hb1 (Nat.le_refl _) _⟩
end Go.Proofs.YtendohnkhbgfbaaDoor
/-
  Small facts: what is read in two lists joined; rows that lie nowhere (no program).
-/
namespace Go.Proofs.YtendohnkhbgfbaaDoor
open Go.RowKit

theorem rd_appL {a b : List Int} {i : Nat} (h : i < a.length) : rd (a ++ b) i = rd a i := by
  unfold rd
  rw [List.getD_eq_getElem?_getD, List.getD_eq_getElem?_getD, List.getElem?_append_left h]
theorem rd_appR {a b : List Int} (i : Nat) : rd (a ++ b) (a.length + i) = rd b i := by
  unfold rd
  rw [List.getD_eq_getElem?_getD, List.getD_eq_getElem?_getD, List.getElem?_append_right (Nat.le_add_right _ _), Nat.add_sub_cancel_left]
theorem own_none {w : World} {base n c : Nat} {e : TypeId} {size : Nat} {A : Option Addr} {xs : List Value} (h : w.ownsRow base e size (.slice A n c) n xs) : A = none → n = 0 ∧ c = 0 := by
  intro hA
  subst hA
  rcases h.2 with ⟨h1, h2⟩ | ⟨g, cap, cur, h1, _⟩
  · simp at h1
    exact ⟨h2, h1.2⟩
  · cases h1
/-- What was there first lies apart from a younger block. -/
theorem Rd.apart {w0 w w1 : World} {k : IntKind} {A : Option Addr} {n : Nat} {xs : List Int} (h0 : Rd w0 k A n xs) (h : Rd w k A n xs) {r : Nat} (hg : w.grownBy w1 (some r)) (hr : w0.heap.size ≤ r) : Rd w1 k A n xs :=
  ⟨h.1, fun hn => by
    obtain ⟨b, o, e, hc⟩ := h.2 hn
    obtain ⟨b', o', e', hc'⟩ := h0.2 hn
    rw [e] at e'
    cases e'
    have hlt := World.block_lt_of_cell? _ _ (hc' 0 hn)
    exact ⟨b, o, e, fun j hj => hg.cell (hc j hj) (by simp at hlt ⊢; omega)⟩⟩
end Go.Proofs.YtendohnkhbgfbaaDoor
