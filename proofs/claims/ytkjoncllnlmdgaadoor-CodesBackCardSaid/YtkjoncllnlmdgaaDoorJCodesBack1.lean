/-
  Texts joined into one file: B, CodesP, CodesW, Aw8, C, BitsP.
-/
import Derived.Test.YtkjoncllnlmdgaaDoorRows
import Derived.WalkKit
import Derived.WalkSpells
import Derived.WalkLawsBesides
import Derived.Deep.QuietTactic
import Derived.BigQuiet
import Derived.Lib.Hide
import Derived.Laws.StructEq
import Derived.KernelRfl
import Derived.SizedLaws
import Derived.ChangeSlices
import Derived.IntWalk
import Derived.OpenShut
import Derived.WalkSmall
import Derived.Laws.Bits64b
/-
  Small laws that all walks use: what a call leaves of old memory; rows that the call owns; slices that are read.
-/
namespace Go.Proofs.YtkjoncllnlmdgaaDoor
open Go.RowKit

/-- What a call leaves of a block that was laid right ahead of it. -/
theorem laid_kept {w w' : World} {vs : Array Value} {T : TypeId} (hb : Below (w.alloc (Obj.cells vs T)).heap.size (w.alloc (Obj.cells vs T)) w') (i : Nat) (v : Value) (h : vs[i]? = some v) :
    w'.cell? ⟨w.heap.size, i, none⟩ = some v ∧ w'.frozen? ⟨w.heap.size, i, none⟩ = false :=
  ⟨(hb.cell (p := ⟨w.heap.size, i, none⟩) (by simp)).trans (by simp [h]), (hb.frozen (p := ⟨w.heap.size, i, none⟩) (by simp)).trans (by simp)⟩
theorem kept_cell {w w' : World} (hb : Below w.heap.size w w') {a : Addr} {v : Value} (h : w.cell? a = some v) : w'.cell? a = some v := (hb.cell (World.block_lt_of_cell? w a h)).trans h
theorem kept_new {w : World} {a : Addr} {v : Value} (h : w.cell? a = some v) (o : Obj) : (w.alloc o).cell? a = some v := kept_cell ((Below.refl _ _).alloc (Nat.le_refl _) _) h
theorem kept_new2 {w : World} {a : Addr} {v : Value} (h : w.cell? a = some v) (o o' : Obj) : ((w.alloc o).alloc o').cell? a = some v := kept_new (kept_new h o) o'
theorem below_seq {B : Nat} {w w1 w2 : World} (h : Below B w w1) (hB : B ≤ w.heap.size) (k : Below w1.heap.size w1 w2) : Below B w w2 := h.trans (k.mono (Nat.le_trans hB h.size))
theorem below_new {B : Nat} {w w1 : World} (h : Below B w w1) (hB : B ≤ w.heap.size) (o : Obj) : Below B w (w1.alloc o) := h.alloc (Nat.le_trans hB h.size) o

/-! ### rows that the call owns -/
theorem own_below {w w1 : World} {base : Nat} {e : TypeId} {size n : Nat} {v : Value} {xs : List Value} (h : w.ownsRow base e size v n xs) (hb : Below w.heap.size w w1) : w1.ownsRow base e size v n xs :=
  h.kept ⟨hb.os, hb.tape, hb.output, hb.size, fun i hi _ => hb.block i hi⟩ (row := none) (by cases v.ownBlock <;> simp)
theorem own_slice {w : World} {base n : Nat} {e : TypeId} {size : Nat} {v : Value} {xs : List Value} (h : w.ownsRow base e size v n xs) : ∃ A c, v = .slice A n c := by
  rcases h.2 with ⟨rfl, rfl⟩ | ⟨g, cap, cur, rfl, _⟩
  · exact ⟨none, 0, rfl⟩
  · exact ⟨_, cap, rfl⟩
/-- An owned row that isn't empty begins at the head of a block of the call's own. -/
theorem own_form {w : World} {base n : Nat} {e : TypeId} {size : Nat} {v : Value} {xs : List Value} (h : w.ownsRow base e size v n xs) (hn : 0 < n) :
    ∃ g c, v = .slice (some ⟨g, 0, none⟩) n c ∧ base ≤ g ∧ g < w.heap.size ∧ n ≤ c ∧ (∀ j u, xs[j]? = some u → w.cell? ⟨g, j, none⟩ = some u) ∧ ∀ j, w.frozen? ⟨g, j, none⟩ = false := by
  rcases h.2 with ⟨rfl, rfl⟩ | ⟨g, cap, cur, rfl, hb, hh, hc, _⟩
  · omega
  · refine ⟨g, cap, rfl, hb, (Array.getElem?_eq_some_iff.1 hh).1, hc, fun j u hj => ?_, fun j => h.frozenAt j⟩
    have hl : j < xs.length := (List.getElem?_eq_some_iff.1 hj).1
    rw [h.cellAt j (by rw [h.1] at hl; exact hl)]
    exact hj
theorem own_mono {w : World} {base base' n : Nat} {e : TypeId} {size : Nat} {v : Value} {xs : List Value} (h : w.ownsRow base e size v n xs) (hb : base' ≤ base) : w.ownsRow base' e size v n xs := by
  refine ⟨h.1, ?_⟩
  rcases h.2 with h2 | ⟨g, cap, cur, hv, hg, r⟩
  · exact .inl h2
  · exact .inr ⟨g, cap, cur, hv, Nat.le_trans hb hg, r⟩
/-- Behind an append to a row of the call's own. -/
theorem below_app {B : Nat} {w w1 w2 : World} {base : Nat} {e : TypeId} {size n : Nat} {v : Value} {xs : List Value} (h : Below B w w1) (hB : B ≤ w.heap.size) (ho : w1.ownsRow base e size v n xs) (hbase : B ≤ base) (hg : w1.grownBy w2 v.ownBlock) : Below B w w2 :=
  h.grown hg (Nat.le_trans hB h.size) (fun k hk => Nat.le_trans hbase (ho.lt k hk).1)
/-- The one new element that 'append(out, x)' lays ahead of it. -/
theorem news_at (w : World) (vs : Array Value) (T : TypeId) : ∀ j u, vs.toList[j]? = some u → (w.alloc (Obj.cells vs T)).cell? ((⟨w.heap.size, 0, none⟩ : Addr).add j) = some u := by
  intro j u hu
  have : (⟨w.heap.size, 0, none⟩ : Addr).add j = ⟨w.heap.size, j, none⟩ := by unfold Addr.add; split <;> simp_all
  rw [this]
  simpa using hu
/-! ### append of one element that is built right ahead of it -/
structure ElT (P : Program) (t e : TypeId) (z : Value) (size bytes : Nat) : Prop where
  und : P.underlying t = some (.slice e)
  info : (P.info? e).map (fun i => (i.zero, i.size, i.bytes)) = some (some z, size, bytes)
  zs : z.cells.size = size
  pos : 0 < size
  bpos : 0 < bytes
theorem wpList_app1 {P : Program} {wr : World} {ops : Array Oper} {rest : List Oper} {o : Oper} {a : Act} {Q : Exit → Act → World → Prop} (hgd : o.guard = none) (s x : Operand) {t : TypeId}
    (ho : o.op = .call { callee := .builtin .append, args := #[s, x], argTypes := #[t, t] })
    {base : Nat} {e : TypeId} {z : Value} {size bytes : Nat} (El : ElT P t e z size bytes) {v : Value} {n : Nat} {xs : List Value} (hown : wr.ownsRow base e size v n xs)
    (hs : a.eval s = v) {vs : Array Value} {T : TypeId} (hx : a.eval x = .slice (some ⟨wr.heap.size, 0, none⟩) 1 1) (hl : vs.size = size) (h1 : vs.toList.all (fun u => u.oneCell') = true)
    (hbytes : (n + 1) * bytes ≤ 140737488355328) (hbase : base ≤ wr.heap.size)
    (h : ∀ v' w', w'.ownsRow base e size v' (n + 1) (xs ++ vs.toList) → Below base wr w' → (wr.alloc (.cells vs T)).grownBy w' v.ownBlock → wpList P ops Q rest (a.put o.dst v') w') : wpList P ops Q (o :: rest) a (wr.alloc (.cells vs T)) := by
  obtain ⟨i0, hi, hz0, hz1, hz2⟩ := info_parts El.info
  have hn : n + 1 ≤ maxLen := by
    have := Nat.mul_le_mul_left (n + 1) El.bpos
    unfold maxLen
    omega
  refine wpList_append_own _ hgd s x t ho base e i0 z size bytes El.und hi hz0 hz1 hz2 El.zs El.pos v n xs hs (hown.alloc _) ⟨wr.heap.size, 0, none⟩ 1 1 vs.toList hx (by simpa using hl) (news_at _ _ _) (fun u hu => List.all_eq_true.1 h1 u hu) hn hbytes (by simp; omega) ?_
  intro v' w' h2 h3 _
  refine h v' w' h2 ?_ h3
  refine ((Below.refl base wr).alloc hbase _).grown h3 (by simp; omega) (fun k hk => (hown.lt k hk).1)
/-- The same where the block's number is spelled otherwise. -/
theorem wpList_app2 {P : Program} {wr : World} {ops : Array Oper} {rest : List Oper} {o : Oper} {a : Act} {Q : Exit → Act → World → Prop} (hgd : o.guard = none) (s x : Operand) {t : TypeId}
    (ho : o.op = .call { callee := .builtin .append, args := #[s, x], argTypes := #[t, t] })
    {base : Nat} {e : TypeId} {z : Value} {size bytes : Nat} (El : ElT P t e z size bytes) {v : Value} {n : Nat} {xs : List Value} (hown : wr.ownsRow base e size v n xs)
    (hs : a.eval s = v) {vs : Array Value} {T : TypeId} {bx : Nat} (hx : a.eval x = .slice (some ⟨bx, 0, none⟩) 1 1) (hbx : bx = wr.heap.size) (hl : vs.size = size) (h1 : vs.toList.all (fun u => u.oneCell') = true)
    (hbytes : (n + 1) * bytes ≤ 140737488355328) (hbase : base ≤ wr.heap.size)
    (h : ∀ v' w', w'.ownsRow base e size v' (n + 1) (xs ++ vs.toList) → Below base wr w' → (wr.alloc (.cells vs T)).grownBy w' v.ownBlock → wpList P ops Q rest (a.put o.dst v') w') : wpList P ops Q (o :: rest) a (wr.alloc (.cells vs T)) := by
  subst hbx
  exact wpList_app1 hgd s x ho El hown hs hx hl h1 hbytes hbase h
/-- Another row of the call's own lives on. -/
theorem own_other {w w' : World} {base : Nat} {e : TypeId} {size n : Nat} {v : Value} {xs : List Value} {o : Obj} {row : Option Nat} (h : w.ownsRow base e size v n xs) (hg : (w.alloc o).grownBy w' row) (hne : v.ownBlock = none ∨ v.ownBlock ≠ row) : w'.ownsRow base e size v n xs :=
  (h.alloc o).kept hg hne
/-- A later world: all that was there in W0 is there as it was. A fact in this form is a rule for the walk in whatever later world. -/
structure Later (W0 W : World) : Prop where
  bel : Below W0.heap.size W0 W
theorem Later.refl (W0 : World) : Later W0 W0 := ⟨Below.refl _ _⟩
theorem Later.drew {W0 W : World} (h : Later W0 W) : Later W0 W.drew := ⟨h.bel.drew⟩
theorem Later.step {W0 W W' : World} (h : Later W0 W) (k : Below W.heap.size W W') : Later W0 W' := ⟨below_seq h.bel (Nat.le_refl _) k⟩
theorem Later.alloc {W0 W : World} (h : Later W0 W) (o : Obj) : Later W0 (W.alloc o) := ⟨below_new h.bel (Nat.le_refl _) o⟩
theorem Later.cell {W0 : World} {a : Addr} {v : Value} (h : W0.cell? a = some v) : ∀ W, Later W0 W → W.cell? a = some v := fun _ k => kept_cell k.bel h
/-! ### '==' of structs, field by field -/
theorem eqFields_cons {P : Program} {d : Nat} {xs ys : Array Value} {f : Field} {fs : List Field} {a b : Value} {r s : Bool} {w : World} (hn : (f.name == "_") = false)
    (ha : (part f.type xs f.offset).run P w = .ok a w) (hb : (part f.type ys f.offset).run P w = .ok b w) (he : (Op.equalIn d f.type a b).run P w = .ok r w)
    (hr : (Op.eqFields d xs ys fs).run P w = .ok s w) : (Op.eqFields d xs ys (f :: fs)).run P w = .ok (r && s) w := by
  have hn' : f.name ≠ "_" := by simpa using hn
  rw [Op.eqFields]
  simp only [if_pos hn', Sem.run_bind, ha, hb, he, Result.andThen_ok]
  cases r
  · simp
  · simpa using hr
theorem eqFields_nil {P : Program} {d : Nat} {xs ys : Array Value} {w : World} : (Op.eqFields d xs ys []).run P w = .ok true w := by simp [Op.eqFields]
theorem eqStruct_of {P : Program} {d : Nat} {xs ys : Array Value} {t : TypeId} {fs : Array Field} {r : Bool} {w : World} (hu : P.underlying t = some (.struct fs)) (hp : P.stoodInHeld t = false) (h : (Op.eqFields d xs ys fs.toList).run P w = .ok r w) : (Op.equalIn (d + 1) t (.agg xs) (.agg ys)).run P w = .ok r w := by
  have hf : P.fieldsOf t = fs := by simp [Program.fieldsOf, hu]
  rw [run_equalIn_struct (P := P) w d t xs ys (by rw [hf]; exact hu) hp, hf]
  exact h
theorem eqInt_of {P : Program} {d : Nat} {t : TypeId} {k : IntKind} {w : World} (hu : P.underlying t = some (.int k)) (a b : Int) : (Op.equalIn (d + 1) t (.int k a) (.int k b)).run P w = .ok (a == b) w := by
  simp [Op.equalIn, run_underlying hu]
theorem binEql_of {P : Program} {t : TypeId} {xs ys : Array Value} {r : Bool} {w : World} (h : (Op.equalIn (9998 + 2) t (.agg xs) (.agg ys)).run P w = .ok r w) : (binOp .eql t (.agg xs) (.agg ys)).run P w = .ok (.bool r) w := by
  simp only [binOp]
  simp only [Op.equal, Op.maxDepth, Sem.run_bind]
  have h' : Sem.run P (Op.equalIn 10000 t (.agg xs) (.agg ys)) w = .ok r w := h
  rw [h']
  rfl
theorem below_drewN {B : Nat} {w w1 : World} (h : Below B w w1) (n : Nat) : Below B w (w1.drewN n) := ⟨h.os, h.tape, h.output, h.size, h.block⟩
/-- A block of three cells, a draw, three stores into it. -/
theorem drawn3 (w : World) (o : Obj) (n : Nat) (u0 u1 u2 : Value) : Below w.heap.size w (((((w.alloc o).drewN n).setCell ⟨w.heap.size, 0, none⟩ u0).setCell ⟨w.heap.size, 1, none⟩ u1).setCell ⟨w.heap.size, 2, none⟩ u2) :=
  (((below_drewN ((Below.refl _ _).alloc (Nat.le_refl _) o) n).setCell (Nat.le_refl _) u0).setCell (Nat.le_refl _) u1).setCell (Nat.le_refl _) u2
/-! ### slices of numbers that are read; blocks of numbers that the call made -/
def rd (xs : List Int) (j : Nat) : Int := xs.getD j 0
theorem rd_getElem {xs : List Int} {j : Nat} (h : j < xs.length) : rd xs j = xs[j] := by simp [rd, List.getD_eq_getElem?_getD, List.getElem?_eq_getElem h]
theorem rd_set {xs : List Int} {j m : Nat} {v : Int} (h : m < xs.length) : rd (xs.set m v) j = if m = j then v else rd xs j := by
  unfold rd
  simp only [List.getD_eq_getElem?_getD, List.getElem?_set]
  split
  · simp_all
  · rfl
/-- The slice reads as these numbers. -/
def Rd (w : World) (k : IntKind) (A : Option Addr) (n : Nat) (xs : List Int) : Prop :=
  xs.length = n ∧ (0 < n → ∃ b o, A = some ⟨b, o, none⟩ ∧ ∀ j, j < n → w.cell? ⟨b, o + j, none⟩ = some (.int k (rd xs j)))
theorem Rd.below {w w1 : World} {k : IntKind} {A : Option Addr} {n : Nat} {xs : List Int} (h : Rd w k A n xs) (hb : Below w.heap.size w w1) : Rd w1 k A n xs :=
  ⟨h.1, fun hn => by obtain ⟨b, o, e, hc⟩ := h.2 hn; exact ⟨b, o, e, fun j hj => kept_cell hb (hc j hj)⟩⟩
theorem Rd.drew {w : World} {k : IntKind} {A : Option Addr} {n : Nat} {xs : List Int} (h : Rd w k A n xs) : Rd w.drew k A n xs := h.below (Below.refl _ _).drew
theorem Rd.alloc {w : World} {k : IntKind} {A : Option Addr} {n : Nat} {xs : List Int} (h : Rd w k A n xs) (o : Obj) : Rd (w.alloc o) k A n xs := h.below ((Below.refl _ _).alloc (Nat.le_refl _) _)
def ints (k : IntKind) (l : List Int) : List Value := l.map (Value.int k)
theorem ints_length (k : IntKind) (l : List Int) : (ints k l).length = l.length := by simp [ints]
theorem ints_append (k : IntKind) (a b : List Int) : ints k (a ++ b) = ints k a ++ ints k b := by simp [ints]
theorem ints_set (k : IntKind) (l : List Int) (j : Nat) (v : Int) : ints k (l.set j v) = (ints k l).set j (.int k v) := by simp [ints, List.map_set]
theorem ints_get {k : IntKind} {l : List Int} {j : Nat} (h : j < l.length) : (ints k l)[j]? = some (.int k (rd l j)) := by simp [ints, rd_getElem h, List.getElem?_eq_getElem h]
theorem ints_one (k : IntKind) (l : List Int) : (ints k l).toArray.all (fun u => u.oneCell') = true := by simp [ints, Value.oneCell']
theorem ints_size (k : IntKind) (l : List Int) : (ints k l).toArray.size = l.length := by simp [ints]
/-- The block holds these numbers. -/
def Blk (w : World) (b : Nat) (T : TypeId) (k : IntKind) (l : List Int) : Prop := w.heap[b]? = some (.cells (ints k l).toArray T (0, 0))
theorem Blk.cell {w : World} {b : Nat} {T : TypeId} {k : IntKind} {l : List Int} (h : Blk w b T k l) {j : Nat} (hj : j < l.length) : w.cell? ⟨b, j, none⟩ = some (.int k (rd l j)) := by
  rw [cell_of_row w b j _ T (0, 0) h, List.getElem?_toArray, ints_get hj]
theorem Blk.frozen {w : World} {b : Nat} {T : TypeId} {k : IntKind} {l : List Int} (h : Blk w b T k l) (j : Nat) : w.frozen? ⟨b, j, none⟩ = false := frozen_of_row w b j _ T h
theorem Blk.set {w : World} {b : Nat} {T : TypeId} {k : IntKind} {l : List Int} (h : Blk w b T k l) (j : Nat) (v : Int) : Blk (w.setCell ⟨b, j, none⟩ (.int k v)) b T k (l.set j v) := by
  unfold Blk
  rw [heap_setCell_same w b j _ T _ h, ints_set]
  simp
theorem Blk.lt {w : World} {b : Nat} {T : TypeId} {k : IntKind} {l : List Int} (h : Blk w b T k l) : b < w.heap.size := (Array.getElem?_eq_some_iff.1 h).1
theorem Blk.other {w : World} {b : Nat} {T : TypeId} {k : IntKind} {l : List Int} (h : Blk w b T k l) (a : Addr) (v : Value) (hne : b ≠ a.block) : Blk (w.setCell a v) b T k l := (heap_setCell_other w a b v hne).trans h
theorem Blk.alloc {w : World} {b : Nat} {T : TypeId} {k : IntKind} {l : List Int} (h : Blk w b T k l) (o : Obj) : Blk (w.alloc o) b T k l := (Below.heap_alloc _ _ _ h.lt).trans h
theorem Blk.below {w w' : World} {b : Nat} {T : TypeId} {k : IntKind} {l : List Int} (h : Blk w b T k l) {B : Nat} (hb : Below B w w') (hB : b < B) : Blk w' b T k l := (hb.block b hB).trans h
theorem Blk.rd {w : World} {b : Nat} {T : TypeId} {k : IntKind} {l : List Int} (h : Blk w b T k l) {n : Nat} (hn : l.length = n) : Rd w k (some ⟨b, 0, none⟩) n l :=
  ⟨hn, fun _ => ⟨b, 0, rfl, fun j hj => by rw [Nat.zero_add]; exact h.cell (by omega)⟩⟩
/-- A row of numbers that the call owns reads as they are. -/
theorem own_rd {w : World} {base n : Nat} {e : TypeId} {k : IntKind} {v : Value} {xs : List Int} (h : w.ownsRow base e 1 v n (ints k xs)) : ∃ A c, v = .slice A n c ∧ n ≤ c ∧ Rd w k A n xs := by
  have hl : xs.length = n := by have := h.1; simpa [ints] using this
  rcases Nat.eq_zero_or_pos n with h0 | h0
  · obtain ⟨A, c, hv⟩ := own_slice h
    exact ⟨A, c, hv, by omega, hl, fun hp => by omega⟩
  · obtain ⟨g, c, hv, _, _, hc, hcell, _⟩ := own_form h h0
    exact ⟨_, c, hv, hc, hl, fun _ => ⟨g, 0, rfl, fun j hj => by rw [Nat.zero_add]; exact hcell j _ (ints_get (by omega))⟩⟩
theorem Blk.own {w : World} {b : Nat} {T : TypeId} {k : IntKind} {l : List Int} (h : Blk w b T k l) {n base : Nat} (hn : l.length = n) (hb : base ≤ b) (hm : n ≤ maxLen) : w.ownsRow base T 1 (.slice (some ⟨b, 0, none⟩) n n) n (ints k l) :=
  ⟨by rw [ints_length, hn, Nat.mul_one], .inr ⟨b, n, _, rfl, hb, h, Nat.le_refl _, hm, by simp [ints_length, hn], by simp; exact List.take_of_length_le (by rw [ints_length, hn]; exact Nat.le_refl _)⟩⟩
/-- 'make([]T, n)' of one-cell elements: n zeros are owned. -/
theorem wpList_mk1 {P : Program} (w : World) {ops : Array Oper} {rest : List Oper} {o : Oper} {a : Act} {Q : Exit → Act → World → Prop} (hg : o.guard = none) (l c : Operand) {t : TypeId} (hop : o.op = Op.makeSlice t l c)
    {base : Nat} {e : TypeId} {k : IntKind} {bytes : Nat} (El : ElT P t e (.int k 0) 1 bytes) {kl kc : IntKind} {L C : Int} {n : Nat} (hl : a.eval l = .int kl L) (hc : a.eval c = .int kc C) (hL : L = (n : Int)) (hC : C = (n : Int))
    (hbytes : bytes * n ≤ 140737488355328) (hbase : base ≤ w.heap.size)
    (hK : ∀ w', w'.ownsRow base e 1 (.slice (some ⟨w.heap.size, 0, none⟩) n n) n (ints k (List.replicate n 0)) → Below w.heap.size w w' → w'.heap.size = w.heap.size + 1 → wpList P ops Q rest (a.put o.dst (.slice (some ⟨w.heap.size, 0, none⟩) n n)) w') :
    wpList P ops Q (o :: rest) a w := by
  obtain ⟨i0, hi, hz0, hz1, hz2⟩ := info_parts El.info
  subst hL hC
  have hn : n ≤ maxLen := by
    have := Nat.mul_le_mul_right n El.bpos
    unfold maxLen
    omega
  have hn' : (n : Int) ≤ 9223372036854775807 := by unfold maxLen at hn; omega
  have hb' : (i0.bytes : Int) * n ≤ 281474976710656 := by
    rw [hz2]
    have h : ((bytes * n : Nat) : Int) ≤ 281474976710656 := by omega
    rwa [Int.natCast_mul] at h
  have hr := run_make (P := P) w t e i0 (.int k 0) El.und hi hz0 kl kc n n (by omega) (Int.le_refl _) hb' hn'
  simp only [Int.toNat_natCast] at hr
  refine wpList_plain hg fun K hK' => ?_
  unfold Oper.wp
  simp [execOp, hop, hl, hc, hr, Result.andThen]
  refine hK' _ _ (hK _ ?_ ((Below.refl _ _).alloc (Nat.le_refl _) _) (by simp))
  have hz : i0.size = 1 := hz1
  have e1 : (madeCells (Value.int k 0).cells (n * i0.size)).toList = ints k (List.replicate n 0) := by
    rw [hz, Nat.mul_one]
    show (madeCells #[Value.int k 0] n).toList = _
    rw [toList_madeCells_one]
    simp [ints]
  rw [← e1]
  exact World.ownsRow_lit w _ n hbase hn (by rw [size_madeCells, hz])
/-! ### a row's slices of numbers -/
def IsRow (k : IntKind) (w : World) (a : Option Addr) (len cap : Nat) (zs : List Int) : Prop :=
  (a = none ∧ len = 0 ∧ cap = 0 ∧ zs = []) ∨
  ∃ x, a = some x ∧ len ≤ cap ∧ cap ≤ maxLen ∧ zs.length = cap ∧ (∀ i, i < zs.length → w.cell? (x.add i) = some (.int k (zs.getD i 0))) ∧ ∀ n ∈ zs, (Lit.int k n).wf = true
theorem IsRow.rd {k : IntKind} {w : World} {a : Option Addr} {len cap : Nat} {zs : List Int} (h : IsRow k w a len cap zs) : Rd w k a len (zs.take len) := by
  rcases h with ⟨rfl, rfl, rfl, rfl⟩ | ⟨⟨b, o, s⟩, rfl, hl, hm, hz, hc, hw⟩
  · exact ⟨rfl, fun h => by omega⟩
  · refine ⟨by simp; omega, fun hn => ?_⟩
    have hs : s = none := by simpa [Addr.add] using World.cell?_spot (hc 0 (by omega))
    subst hs
    refine ⟨b, o, rfl, fun j hj => ?_⟩
    have e : (⟨b, o, none⟩ : Addr).add j = ⟨b, o + j, none⟩ := by unfold Addr.add; split <;> simp_all
    have := hc j (by omega)
    rw [e] at this
    rw [this, rd_getElem (by simp; omega)]
    simp [List.getD_eq_getElem?_getD, List.getElem?_eq_getElem (show j < zs.length by omega)]
theorem IsRow.wf {k : IntKind} {w : World} {a : Option Addr} {len cap : Nat} {zs : List Int} (h : IsRow k w a len cap zs) : ∀ j, j < len → (Lit.int k (Go.Proofs.YtkjoncllnlmdgaaDoor.rd (zs.take len) j)).wf = true := by
  intro j hj
  rcases h with ⟨rfl, rfl, rfl, rfl⟩ | ⟨x, rfl, hl, hm, hz, hc, hw⟩
  · omega
  · rw [rd_getElem (by simp; omega)]
    exact hw _ (List.mem_of_mem_take (List.getElem_mem _))
theorem u8_of_wf {n : Int} (h : (Lit.int .u8 n).wf = true) : 0 ≤ n ∧ n ≤ 255 := by
  simp [Lit.wf, IntKind.min, IntKind.max, IntKind.signed, IntKind.bits] at h
  omega
theorem u16_of_wf {n : Int} (h : (Lit.int .u16 n).wf = true) : 0 ≤ n ∧ n ≤ 65535 := by
  simp [Lit.wf, IntKind.min, IntKind.max, IntKind.signed, IntKind.bits] at h
  omega
theorem IsRow.u8 {w : World} {a : Option Addr} {len cap : Nat} {zs : List Int} (h : IsRow .u8 w a len cap zs) : ∀ j, j < len → 0 ≤ Go.Proofs.YtkjoncllnlmdgaaDoor.rd (zs.take len) j ∧ Go.Proofs.YtkjoncllnlmdgaaDoor.rd (zs.take len) j ≤ 255 := fun j hj => u8_of_wf (h.wf j hj)
/-- A row's slice of whole numbers is no longer than its weight allows. -/
theorem sized_ints {H : Type} {enc : TypeId × Value → H} {P : Program} {W : World} {base : Nat} {spare : Nat → Bool} {held : Bool} {t e : TypeId} {k : IntKind} {a : Option Addr} {len cap : Nat} {d : DataW H} {ps : List MemPlace} {ts : List TypeId} {ds : List (DataW H)} {j : Nat}
    (hsz : (DataW.weightsEach P ts ds).all (· ≤ reachBytes) = true) (ht : ts[j]? = some t) (hd : ds[j]? = some d) (hu : P.underlying t = some (.slice e)) (he : P.underlying e = some (.int k)) (hc : P.cellsOf e = 1) {B : Nat} (hB : P.bytesOf e = B)
    (h : DataW.Trod enc P W base spare held t (.slice a len cap) d ps) : len * B ≤ 140737488351232 := by
  obtain ⟨fuel, hf⟩ := h
  rcases Go.ChangeShapes.open_ints hu he hc hf with ⟨hcs, _⟩ | ⟨x, l, c, zs, hcs, _, hl, _, hz, hx, _, _⟩
  · simp [Value.cells] at hcs
    obtain ⟨rfl, rfl, rfl⟩ := hcs
    simp
  · simp [Value.cells] at hcs
    obtain ⟨rfl, rfl, rfl⟩ := hcs
    obtain ⟨hx, _⟩ := Prod.mk.inj hx
    subst hx
    have z := sized_slice hsz ht hd hu
    rw [hB] at z
    have hlz : len ≤ zs.length := by rw [hz]; split <;> omega
    have hsum : (Go.ChangeShapes.lits (H := H) k (zs.take len)).length + (Go.ChangeShapes.lits (H := H) k (zs.drop len)).length = zs.length := by
      simp [Go.ChangeShapes.lits]
      omega
    rw [hsum] at z
    exact Nat.le_trans (Nat.mul_le_mul_right _ hlz) z
end Go.Proofs.YtkjoncllnlmdgaaDoor
/-
  Plain facts about pressed lengths (no program): runs, items.
-/
namespace Go.Proofs.YtkjoncllnlmdgaaDoor

def runLen (xs : List Int) (i : Nat) : Nat := ((xs.drop i).takeWhile fun x => x == rd xs i).length

theorem takeWhile_of {xs : List Int} {p : Int → Bool} (n : Nat) (hn : n ≤ xs.length) (h : ∀ j, j < n → p (rd xs j) = true) (he : n = xs.length ∨ p (rd xs n) = false) : (xs.takeWhile p).length = n := by
  induction xs generalizing n with
  | nil => simp at hn; subst hn; rfl
  | cons x xs ih =>
    cases n with
    | zero =>
      rcases he with he | he
      · simp at he
      · have : p x = false := by simpa [rd] using he
        simp [List.takeWhile, this]
    | succ n =>
      have hx : p x = true := by simpa [rd] using h 0 (by omega)
      simp only [List.takeWhile, hx, List.length_cons]
      rw [ih n (by simpa using hn) (fun j hj => by simpa [rd] using h (j + 1) (by omega)) ?_]
      rcases he with he | he
      · left; simpa using he
      · right; simpa [rd] using he
theorem rd_drop (xs : List Int) (i j : Nat) : rd (xs.drop i) j = rd xs (i + j) := by simp [rd, List.getD_eq_getElem?_getD, List.getElem?_drop]
theorem runLen_of {xs : List Int} {i : Nat} (n : Nat) (hn : i + n ≤ xs.length) (h : ∀ j, j < n → rd xs (i + j) = rd xs i) (he : i + n = xs.length ∨ rd xs (i + n) ≠ rd xs i) : runLen xs i = n := by
  unfold runLen
  refine takeWhile_of n (by simp; omega) (fun j hj => by rw [rd_drop]; simpa using h j hj) ?_
  rcases he with he | he
  · left; simp; omega
  · right; rw [rd_drop]; simpa using he
theorem runLen_pos {xs : List Int} {i : Nat} (h : i < xs.length) : 0 < runLen xs i ∧ i + runLen xs i ≤ xs.length := by
  have h1 : xs.drop i = xs[i] :: xs.drop (i + 1) := (List.getElem_cons_drop h).symm
  constructor
  · unfold runLen; rw [h1, ← rd_getElem h]; simp [List.takeWhile]
  · unfold runLen
    have := (List.takeWhile_sublist (fun x => x == rd xs i) (l := xs.drop i)).length_le
    simp at this
    omega
/-- The item at place i: what it is, its bits, what follows; and how many lengths it tells. -/
structure Item where
  s : Int
  bits : Int
  extra : Int
def itemAt (xs : List Int) (i : Nat) : Item × Nat :=
  if rd xs i = 0 ∧ 11 ≤ runLen xs i then (⟨18, 7, (min (runLen xs i) 138 : Nat) - 11⟩, min (runLen xs i) 138)
  else if rd xs i = 0 ∧ 3 ≤ runLen xs i then (⟨17, 3, (runLen xs i : Nat) - 3⟩, runLen xs i)
  else if rd xs i ≠ 0 ∧ 0 < i ∧ rd xs (i - 1) = rd xs i ∧ 3 ≤ runLen xs i then (⟨16, 2, (min (runLen xs i) 6 : Nat) - 3⟩, min (runLen xs i) 6)
  else (⟨rd xs i, 0, 0⟩, 1)
def itemsFrom (xs : List Int) : Nat → Nat → List Item
  | 0, _ => []
  | f + 1, i => if i < xs.length then (itemAt xs i).1 :: itemsFrom xs f (i + (itemAt xs i).2) else []
def items (xs : List Int) : List Item := itemsFrom xs xs.length 0
theorem itemAt_step (xs : List Int) (i : Nat) (h : i < xs.length) : 1 ≤ (itemAt xs i).2 ∧ i + (itemAt xs i).2 ≤ xs.length := by
  have := runLen_pos h
  unfold itemAt
  split
  · simp; omega
  · split
    · simp; omega
    · split
      · simp; omega
      · simp; omega
theorem itemsFrom_more (xs : List Int) (f g i : Nat) (hf : xs.length - i ≤ f) (hg : xs.length - i ≤ g) : itemsFrom xs f i = itemsFrom xs g i := by
  induction f generalizing g i with
  | zero =>
    cases g with
    | zero => rfl
    | succ g => simp only [itemsFrom]; rw [if_neg (by omega)]
  | succ f ih =>
    cases g with
    | zero => simp only [itemsFrom]; rw [if_neg (by omega)]
    | succ g =>
      simp only [itemsFrom]
      split
      · rename_i h
        have := itemAt_step xs i h
        rw [ih g _ (by omega) (by omega)]
      · rfl
theorem itemsFrom_step (xs : List Int) (i : Nat) (h : i < xs.length) : itemsFrom xs xs.length i = (itemAt xs i).1 :: itemsFrom xs xs.length (i + (itemAt xs i).2) := by
  have := itemAt_step xs i h
  rw [itemsFrom_more xs xs.length (xs.length + 1) i (by omega) (by omega)]
  simp only [itemsFrom]
  rw [if_pos h]
theorem itemsFrom_end (xs : List Int) (f i : Nat) (h : xs.length ≤ i) : itemsFrom xs f i = [] := by
  cases f with
  | zero => rfl
  | succ f => simp only [itemsFrom]; rw [if_neg (by omega)]
theorem items_next {xs : List Int} {k : Nat} {pre : List Item} {it : Item} {st : Nat} (hk : k < xs.length) (h : items xs = pre ++ itemsFrom xs xs.length k) (hit : itemAt xs k = (it, st)) : items xs = (pre ++ [it]) ++ itemsFrom xs xs.length (k + st) := by
  rw [h, itemsFrom_step xs k hk, hit, List.append_assoc]
  rfl
theorem itemAt_18 {xs : List Int} {k : Nat} (h1 : rd xs k = 0) (h2 : 11 ≤ runLen xs k) : itemAt xs k = (⟨18, 7, (min (runLen xs k) 138 : Nat) - 11⟩, min (runLen xs k) 138) := by
  unfold itemAt; rw [if_pos ⟨h1, h2⟩]
theorem itemAt_17 {xs : List Int} {k : Nat} (h1 : rd xs k = 0) (h2 : 3 ≤ runLen xs k) (h3 : runLen xs k < 11) : itemAt xs k = (⟨17, 3, (runLen xs k : Nat) - 3⟩, runLen xs k) := by
  unfold itemAt; rw [if_neg (by omega), if_pos ⟨h1, h2⟩]
theorem itemAt_16 {xs : List Int} {k : Nat} (h1 : rd xs k ≠ 0) (h2 : 0 < k) (h3 : rd xs (k - 1) = rd xs k) (h4 : 3 ≤ runLen xs k) : itemAt xs k = (⟨16, 2, (min (runLen xs k) 6 : Nat) - 3⟩, min (runLen xs k) 6) := by
  unfold itemAt; rw [if_neg (fun h => h1 h.1), if_neg (fun h => h1 h.1), if_pos ⟨h1, h2, h3, h4⟩]
theorem itemAt_one {xs : List Int} {k : Nat} (h : (rd xs k = 0 ∧ runLen xs k < 3) ∨ (rd xs k ≠ 0 ∧ (k = 0 ∨ rd xs (k - 1) ≠ rd xs k ∨ runLen xs k < 3))) : itemAt xs k = (⟨rd xs k, 0, 0⟩, 1) := by
  unfold itemAt
  rcases h with ⟨h1, h2⟩ | ⟨h1, h2⟩
  · rw [if_neg (by omega), if_neg (by omega), if_neg (fun h => h.1 h1)]
  · rw [if_neg (fun h => h1 h.1), if_neg (fun h => h1 h.1), if_neg]
    rintro ⟨_, g1, g2, g3⟩
    rcases h2 with h2 | h2 | h2
    · omega
    · exact h2 g2
    · omega
def itemCells (l : List Item) : List Value := l.flatMap fun x => [.int .i64 x.s, .int .i64 x.bits, .int .u64 x.extra]
theorem itemCells_append (a b : List Item) : itemCells (a ++ b) = itemCells a ++ itemCells b := by simp [itemCells]
theorem itemCells_length (l : List Item) : (itemCells l).length = l.length * 3 := by
  induction l with
  | nil => rfl
  | cons x l ih => simp [itemCells] at *; omega
theorem itemsFrom_le (xs : List Int) (f i : Nat) : (itemsFrom xs f i).length ≤ xs.length - i := by
  induction f generalizing i with
  | zero => simp [itemsFrom]
  | succ f ih =>
    simp only [itemsFrom]
    split
    · rename_i h
      have h1 := itemAt_step xs i h
      have h2 := ih (i + (itemAt xs i).2)
      simp
      omega
    · simp
theorem items_le (xs : List Int) : (items xs).length ≤ xs.length := itemsFrom_le xs xs.length 0
/-- Numbers that are all the same are told by few items. -/
theorem itemsFrom_few (xs : List Int) (v : Int) (hv : ∀ j, j < xs.length → rd xs j = v) (f i : Nat) (h0 : v = 0 ∨ 0 < i) : (itemsFrom xs f i).length ≤ 2 + (xs.length - i) / 6 := by
  induction f generalizing i with
  | zero => simp [itemsFrom]
  | succ f ih =>
    simp only [itemsFrom]
    split
    · rename_i h
      have hr : runLen xs i = xs.length - i := runLen_of _ (by omega) (fun j hj => by rw [hv _ (by omega), hv i h]) (.inl (by omega))
      have hi := hv i h
      by_cases hz : v = 0
      · by_cases h1 : 11 ≤ xs.length - i
        · rw [itemAt_18 (by rw [hi, hz]) (by omega), hr]
          have h2 := ih (i + min (xs.length - i) 138) (.inl hz)
          have h3 := itemsFrom_le xs f (i + min (xs.length - i) 138)
          simp
          omega
        · by_cases h2 : 3 ≤ xs.length - i
          · rw [itemAt_17 (by rw [hi, hz]) (by omega) (by omega), hr]
            have h3 := itemsFrom_le xs f (i + (xs.length - i))
            simp
            omega
          · rw [itemAt_one (.inl ⟨by rw [hi, hz], by omega⟩)]
            have h3 := itemsFrom_le xs f (i + 1)
            simp
            omega
      · have hp : 0 < i := by omega
        by_cases h2 : 3 ≤ xs.length - i
        · rw [itemAt_16 (by rw [hi]; exact hz) hp (by rw [hv _ (by omega), hi]) (by omega), hr]
          have h2 := ih (i + min (xs.length - i) 6) (.inr (by omega))
          have h3 := itemsFrom_le xs f (i + min (xs.length - i) 6)
          simp
          omega
        · rw [itemAt_one (.inr ⟨by rw [hi]; exact hz, .inr (.inr (by omega))⟩)]
          have h3 := itemsFrom_le xs f (i + 1)
          simp
          omega
    · simp
theorem items_few (xs : List Int) (v : Int) (hv : ∀ j, j < xs.length → rd xs j = v) : (items xs).length ≤ 4 + xs.length / 6 := by
  rcases Nat.eq_zero_or_pos xs.length with h | h
  · have := items_le xs; omega
  · unfold items
    rw [itemsFrom_step xs 0 h]
    have h1 := itemAt_step xs 0 h
    have h2 := itemsFrom_few xs v hv xs.length (0 + (itemAt xs 0).2) (.inr (by omega))
    simp at *
    omega
theorem itemCells_at (l : List Item) (j : Nat) (h : j < l.length) : (itemCells l)[j * 3]? = some (.int .i64 (l[j]).s) ∧ (itemCells l)[j * 3 + 1]? = some (.int .i64 (l[j]).bits) ∧ (itemCells l)[j * 3 + 2]? = some (.int .u64 (l[j]).extra) := by
  induction l generalizing j with
  | nil => simp at h
  | cons x l ih =>
    cases j with
    | zero => exact ⟨rfl, rfl, rfl⟩
    | succ j =>
      have := ih j (by simpa using h)
      have e0 : (itemCells (x :: l))[(j + 1) * 3]? = (itemCells l)[j * 3]? := by rw [show (j + 1) * 3 = j * 3 + 1 + 1 + 1 from by omega]; rfl
      have e1 : (itemCells (x :: l))[(j + 1) * 3 + 1]? = (itemCells l)[j * 3 + 1]? := by rw [show (j + 1) * 3 + 1 = j * 3 + 1 + 1 + 1 + 1 from by omega]; rfl
      have e2 : (itemCells (x :: l))[(j + 1) * 3 + 2]? = (itemCells l)[j * 3 + 2]? := by rw [show (j + 1) * 3 + 2 = j * 3 + 2 + 1 + 1 + 1 from by omega]; rfl
      rw [e0, e1, e2]
      exact this
def mod16 (l : List Int) : List Int := l.map fun x => x % 16
theorem mod16_length (l : List Int) : (mod16 l).length = l.length := by simp [mod16]
theorem rd_mod16 (l : List Int) (j : Nat) (h : j < l.length) : rd (mod16 l) j = rd l j % 16 := by
  rw [rd_getElem (by rw [mod16_length]; exact h), rd_getElem h]; simp [mod16]
theorem mod16_take (l : List Int) (k : Nat) (h : k < l.length) : mod16 (l.take (k + 1)) = mod16 (l.take k) ++ [rd l k % 16] := by
  rw [List.take_succ_eq_append_getElem h, ← rd_getElem h]; simp [mod16]
end Go.Proofs.YtkjoncllnlmdgaaDoor
/-
  The walks of package codes: run, Press.
-/
namespace Go.Proofs.YtkjoncllnlmdgaaDoor
open Go.RowKit

set_option maxHeartbeats 1000000 in
theorem run_calls (A : Option Addr) (n cap i : Nat) (xs : List Int) (w : World) (hR : Rd w .i64 A n xs) (hn : n ≤ 17592186044416) (hi : i < n) :
    Calls Tryd.prog 71 #[.slice A n cap, .int .i64 i] w fun e w' => e = .returned (.int .i64 (runLen xs i)) ∧ Below w.heap.size w w' := by
  obtain ⟨hlen, hR⟩ := hR
  obtain ⟨b, o, rfl, hc⟩ := hR (by omega)
  have Hc := Lib.hid hc
  have Hlen := Lib.hid hlen
  clear hR hc hlen
  go_enter Tryd.func71, Tryd.ntmps71
  go_wp2
  go_loopw [5] (fun k wr => ∃ m : Nat, 1 ≤ m ∧ i + m ≤ n ∧ k = .int .i64 m ∧ Hid (∀ j, j < m → rd xs (i + j) = rd xs i) ∧ Below w.heap.size w wr) (fun k _ => n - (intOf k).toNat)
  case atStart => exact ⟨1, by omega, by omega, rfl, fun j hj => by rw [show j = 0 from by omega]; rfl, Below.refl _ _⟩
  case round =>
    obtain ⟨m, hm, him, rfl, Hall, hbel⟩ := hrel
    have Hbel := Lib.hid hbel
    have z2 := kept_cell hbel (Hc.out i hi)
    clear hbel
    have s1 : IntKind.i64.wrap ((i : Int) + m) = i + m := IntWalk.i64_in _ (by omega)
    have s2 : ((i : Int) + m).toNat = i + m := by omega
    have s3 : 0 ≤ (i : Int) + m := by omega
    by_cases hlt : i + m < n
    · have z1 := kept_cell Hbel.out (Hc.out (i + m) hlt)
      have s4 : decide ((i : Int) + m < n) = true := by simp; omega
      have s5 : (i : Int) + m < n := by omega
      cases he : (rd xs (i + m) == rd xs i)
      · go_wp2
        go_quiet (fail)
        go_wp2
        go_ret
        refine ⟨?_, Hbel.out.trans ⟨rfl, rfl, rfl, Nat.le_refl _, fun _ _ => rfl⟩⟩
        rw [runLen_of m (by rw [Hlen.out]; omega) Hall.out (.inr (by simpa using he))]
        rfl
      · go_wp2
        go_quiet (fail)
        go_wp2
        go_roundw
        case rel =>
          refine ⟨m + 1, by omega, by omega, by go_num, ?_, Hbel.out.trans ⟨rfl, rfl, rfl, Nat.le_refl _, fun _ _ => rfl⟩⟩
          intro j hj
          rcases Nat.lt_or_ge j m with h | h
          · exact Hall.out j h
          · rw [show j = m from by omega]; simpa using he
        case measure => simp [intOf]; omega
    · have s4 : decide ((i : Int) + m < n) = false := by simp; omega
      go_wp2
      go_quiet (fail)
      go_wp2
      go_ret
      refine ⟨?_, Hbel.out.trans ⟨rfl, rfl, rfl, Nat.le_refl _, fun _ _ => rfl⟩⟩
      rw [runLen_of m (by rw [Hlen.out]; omega) Hall.out (.inl (by rw [Hlen.out]; omega))]
      rfl

theorem elItem : ElT Tryd.prog 56 60 (.agg #[.int .i64 0, .int .i64 0, .int .u64 0]) 3 24 := ⟨Tryd.underlying56, by kernel_rfl, rfl, by decide, by decide⟩

set_option maxHeartbeats 4000000 in
set_option maxRecDepth 200000 in
theorem Press_calls (A : Option Addr) (n cap : Nat) (xs : List Int) (w : World) (hR : Rd w .i64 A n xs) (hn : n ≤ 1000000) :
    Calls Tryd.prog 38 #[.slice A n cap] w fun e w' => ∃ v, e = .returned v ∧ w'.ownsRow w.heap.size 60 3 v (items xs).length (itemCells (items xs)) ∧ Below w.heap.size w w' := by
  have Hlen := Lib.hid hR.1
  have HR := Lib.hid hR
  clear hR
  go_enter Tryd.func38, Tryd.ntmps38
  go_wp2
  go_loopw [3, 4] (fun v i wr => ∃ (k : Nat) (pre : List Item), k ≤ n ∧ i = .int .i64 k ∧ pre.length ≤ k ∧ wr.ownsRow w.heap.size 60 3 v pre.length (itemCells pre) ∧ Hid (items xs = pre ++ itemsFrom xs xs.length k) ∧ Below w.heap.size w wr) (fun _ i _ => n - (intOf i).toNat)
  case atStart => exact ⟨0, [], by omega, rfl, by simp, World.ownsRow_nil _ _ _ _, rfl, Below.refl _ _⟩
  case round =>
    obtain ⟨k, pre, hk, rfl, hpre, hown, Hit, hbel⟩ := hrel
    have Hbel := Lib.hid hbel
    have Hown := Lib.hid hown
    have hsz := hbel.size
    clear hbel hown
    by_cases hlt : k < n
    · have hrp := runLen_pos (xs := xs) (i := k) (by rw [Hlen.out]; exact hlt)
      rw [Hlen.out] at hrp
      go_wp2_with fail
      refine (run_calls A n cap k xs _ (HR.out.below (Hbel.out.mono (Nat.le_refl _))) (by omega) hlt).mono ?_
      rintro e w1 ⟨rfl, hb1⟩
      have Hown1 := Lib.hid (own_below Hown.out hb1)
      have Hbel1 := Lib.hid (below_seq Hbel.out (Nat.le_refl _) hb1)
      have hsz1 := Hbel1.out.size
      obtain ⟨b, o, rfl, hc⟩ := HR.out.2 (by omega)
      have z1 := kept_new (kept_cell Hbel1.out (hc k hlt))
      have Z0 := Lib.hid (fun h : 0 < k => kept_new (kept_cell Hbel1.out (hc (k - 1) (by omega))))
      clear hc Hown Hbel hb1
      by_cases h0 : rd xs k = 0
      · have t1 : (rd xs k == 0) = true := by simpa using h0
        have H0 := Lib.hid h0
        clear h0
        by_cases h1 : 11 ≤ runLen xs k
        · by_cases h2 : 138 < runLen xs k
          · go_wp2_with (first | (at_builtin; refine wpList_app2 rfl _ _ rfl elItem (Hown1.out.alloc _) rfl rfl (by simp) rfl rfl (by omega) (by simp; omega) ?_; intro v' w' hown' hbel' _))
            go_roundw
            case rel =>
              refine ⟨k + 138, pre ++ [⟨18, 7, 127⟩], by omega, by go_num, by simp; omega, ?_, ?_, (below_new Hbel1.out (Nat.le_refl _) _).trans hbel'⟩
              · rw [List.length_append, itemCells_append]; exact hown'
              · exact items_next (by rw [Hlen.out]; exact hlt) Hit.out (by rw [itemAt_18 H0.out h1, Nat.min_eq_right (by omega)]; rfl)
            case measure => simp [intOf]; omega
          · go_wp2_with (first | (at_builtin; refine wpList_app2 rfl _ _ rfl elItem (Hown1.out.alloc _) rfl rfl (by simp) rfl rfl (by omega) (by simp; omega) ?_; intro v' w' hown' hbel' _))
            go_roundw
            case rel =>
              refine ⟨k + runLen xs k, pre ++ [⟨18, 7, (runLen xs k : Nat) - 11⟩], by omega, by go_num, by simp; omega, ?_, ?_, (below_new Hbel1.out (Nat.le_refl _) _).trans hbel'⟩
              · rw [List.length_append, itemCells_append]; exact hown'
              · exact items_next (by rw [Hlen.out]; exact hlt) Hit.out (by rw [itemAt_18 H0.out h1, Nat.min_eq_left (by omega)])
            case measure => simp [intOf]; omega
        · by_cases h2 : 3 ≤ runLen xs k
          · go_wp2_with (first | (at_builtin; refine wpList_app2 rfl _ _ rfl elItem (Hown1.out.alloc _) rfl rfl (by simp) rfl rfl (by omega) (by simp; omega) ?_; intro v' w' hown' hbel' _))
            go_roundw
            case rel =>
              refine ⟨k + runLen xs k, pre ++ [⟨17, 3, (runLen xs k : Nat) - 3⟩], by omega, by go_num, by simp; omega, ?_, ?_, (below_new Hbel1.out (Nat.le_refl _) _).trans hbel'⟩
              · rw [List.length_append, itemCells_append]; exact hown'
              · exact items_next (by rw [Hlen.out]; exact hlt) Hit.out (itemAt_17 H0.out h2 (by omega))
            case measure => simp [intOf]; omega
          · have t2 : (rd xs k != 0) = false := by simpa using H0.out
            go_wp2_with (first | (at_builtin; refine wpList_app2 rfl _ _ rfl elItem (Hown1.out.alloc _) rfl rfl (by simp) rfl rfl (by omega) (by simp; omega) ?_; intro v' w' hown' hbel' _))
            go_quiet (fail)
            go_wp2_with (first | (at_builtin; refine wpList_app2 rfl _ _ rfl elItem (own_below Hown1.out (drawn3 w1 _ _ _ _ _)) rfl rfl (by simp) rfl rfl (by omega) (by simp; omega) ?_; intro v' w' hown' hbel' _))
            go_roundw
            case rel =>
              refine ⟨k + 1, pre ++ [⟨rd xs k, 0, 0⟩], by omega, by go_num, by simp; omega, ?_, ?_, (below_seq Hbel1.out (Nat.le_refl _) (drawn3 w1 _ _ _ _ _)).trans hbel'⟩
              · rw [List.length_append, itemCells_append]; exact hown'
              · exact items_next (by rw [Hlen.out]; exact hlt) Hit.out (itemAt_one (.inl ⟨H0.out, by omega⟩))
            case measure => simp [intOf]; omega
      · have t1 : (rd xs k == 0) = false := by simpa using h0
        have t2 : (rd xs k != 0) = true := by simpa using h0
        have H0 := Lib.hid h0
        clear h0
        by_cases hk0 : 0 < k
        · have z0 := Z0.out hk0
          have s1 : IntKind.i64.wrap ((k : Int) - 1) = k - 1 := IntWalk.i64_in _ (by omega)
          have s2 : ((k : Int) - 1).toNat = k - 1 := by omega
          have s3 : 0 ≤ (k : Int) - 1 := by omega
          have s4 : (k : Int) - 1 < n := by omega
          have t3 : decide (0 < (k : Int)) = true := by simp; omega
          cases t4 : (rd xs (k - 1) == rd xs k)
          · go_wp2_with (first | (at_builtin; refine wpList_app2 rfl _ _ rfl elItem (Hown1.out.alloc _) rfl rfl (by simp) rfl rfl (by omega) (by simp; omega) ?_; intro v' w' hown' hbel' _))
            go_quiet (fail)
            go_wp2_with (first | (at_builtin; refine wpList_app2 rfl _ _ rfl elItem (own_below Hown1.out (drawn3 w1 _ _ _ _ _)) rfl rfl (by simp) rfl rfl (by omega) (by simp; omega) ?_; intro v' w' hown' hbel' _))
            go_roundw
            case rel =>
              refine ⟨k + 1, pre ++ [⟨rd xs k, 0, 0⟩], by omega, by go_num, by simp; omega, ?_, ?_, (below_seq Hbel1.out (Nat.le_refl _) (drawn3 w1 _ _ _ _ _)).trans hbel'⟩
              · rw [List.length_append, itemCells_append]; exact hown'
              · exact items_next (by rw [Hlen.out]; exact hlt) Hit.out (itemAt_one (.inr ⟨H0.out, .inr (.inl (by simpa using t4))⟩))
            case measure => simp [intOf]; omega
          · by_cases h3 : 3 ≤ runLen xs k
            · have t5 : decide (3 ≤ (runLen xs k : Int)) = true := by simp; omega
              by_cases h6 : 6 < runLen xs k
              · go_wp2_with (first | (at_builtin; refine wpList_app2 rfl _ _ rfl elItem (Hown1.out.alloc _) rfl rfl (by simp) rfl rfl (by omega) (by simp; omega) ?_; intro v' w' hown' hbel' _))
                go_quiet (fail)
                go_wp2_with (first | (at_builtin; refine wpList_app2 rfl _ _ rfl elItem (own_below Hown1.out (drawn3 w1 _ _ _ _ _)) rfl rfl (by simp) rfl rfl (by omega) (by simp; omega) ?_; intro v' w' hown' hbel' _))
                go_roundw
                case rel =>
                  refine ⟨k + 6, pre ++ [⟨16, 2, 3⟩], by omega, by go_num, by simp; omega, ?_, ?_, (below_seq Hbel1.out (Nat.le_refl _) (drawn3 w1 _ _ _ _ _)).trans hbel'⟩
                  · rw [List.length_append, itemCells_append]; exact hown'
                  · exact items_next (by rw [Hlen.out]; exact hlt) Hit.out (by rw [itemAt_16 H0.out hk0 (by simpa using t4) h3, Nat.min_eq_right (by omega)]; rfl)
                case measure => simp [intOf]; omega
              · go_wp2_with (first | (at_builtin; refine wpList_app2 rfl _ _ rfl elItem (Hown1.out.alloc _) rfl rfl (by simp) rfl rfl (by omega) (by simp; omega) ?_; intro v' w' hown' hbel' _))
                go_quiet (fail)
                go_wp2_with (first | (at_builtin; refine wpList_app2 rfl _ _ rfl elItem (own_below Hown1.out (drawn3 w1 _ _ _ _ _)) rfl rfl (by simp) rfl rfl (by omega) (by simp; omega) ?_; intro v' w' hown' hbel' _))
                go_roundw
                case rel =>
                  refine ⟨k + runLen xs k, pre ++ [⟨16, 2, (runLen xs k : Nat) - 3⟩], by omega, by go_num, by simp; omega, ?_, ?_, (below_seq Hbel1.out (Nat.le_refl _) (drawn3 w1 _ _ _ _ _)).trans hbel'⟩
                  · rw [List.length_append, itemCells_append]; exact hown'
                  · exact items_next (by rw [Hlen.out]; exact hlt) Hit.out (by rw [itemAt_16 H0.out hk0 (by simpa using t4) h3, Nat.min_eq_left (by omega)])
                case measure => simp [intOf]; omega
            · have t5 : decide (3 ≤ (runLen xs k : Int)) = false := by simp; omega
              go_wp2_with (first | (at_builtin; refine wpList_app2 rfl _ _ rfl elItem (Hown1.out.alloc _) rfl rfl (by simp) rfl rfl (by omega) (by simp; omega) ?_; intro v' w' hown' hbel' _))
              go_quiet (fail)
              go_wp2_with (first | (at_builtin; refine wpList_app2 rfl _ _ rfl elItem (own_below Hown1.out (drawn3 w1 _ _ _ _ _)) rfl rfl (by simp) rfl rfl (by omega) (by simp; omega) ?_; intro v' w' hown' hbel' _))
              go_roundw
              case rel =>
                refine ⟨k + 1, pre ++ [⟨rd xs k, 0, 0⟩], by omega, by go_num, by simp; omega, ?_, ?_, (below_seq Hbel1.out (Nat.le_refl _) (drawn3 w1 _ _ _ _ _)).trans hbel'⟩
                · rw [List.length_append, itemCells_append]; exact hown'
                · exact items_next (by rw [Hlen.out]; exact hlt) Hit.out (itemAt_one (.inr ⟨H0.out, .inr (.inr (by omega))⟩))
              case measure => simp [intOf]; omega
        · have t3 : decide (0 < (k : Int)) = false := by simp; omega
          go_wp2_with (first | (at_builtin; refine wpList_app2 rfl _ _ rfl elItem (Hown1.out.alloc _) rfl rfl (by simp) rfl rfl (by omega) (by simp; omega) ?_; intro v' w' hown' hbel' _))
          go_quiet (fail)
          go_wp2_with (first | (at_builtin; refine wpList_app2 rfl _ _ rfl elItem (own_below Hown1.out (drawn3 w1 _ _ _ _ _)) rfl rfl (by simp) rfl rfl (by omega) (by simp; omega) ?_; intro v' w' hown' hbel' _))
          go_roundw
          case rel =>
            refine ⟨k + 1, pre ++ [⟨rd xs k, 0, 0⟩], by omega, by go_num, by simp; omega, ?_, ?_, (below_seq Hbel1.out (Nat.le_refl _) (drawn3 w1 _ _ _ _ _)).trans hbel'⟩
            · rw [List.length_append, itemCells_append]; exact hown'
            · exact items_next (by rw [Hlen.out]; exact hlt) Hit.out (itemAt_one (.inr ⟨H0.out, .inl (by omega)⟩))
          case measure => simp [intOf]; omega
    · obtain rfl : k = n := by omega
      go_wp2
      go_ret
      have e : items xs = pre := by rw [Hit.out, itemsFrom_end xs _ _ (by rw [Hlen.out]; exact Nat.le_refl _), List.append_nil]
      rw [e]
      exact ⟨_, rfl, Hown.out, Hbel.out⟩
#print axioms Press_calls
end Go.Proofs.YtkjoncllnlmdgaaDoor
/-
  The walks of chapter 08's helpers awake and same.
-/
namespace Go.Proofs.YtkjoncllnlmdgaaDoor
open Go.RowKit

set_option maxHeartbeats 1000000 in
theorem awake8_calls (w : World) : Calls Tryd.prog 14 #[] w fun e w' => e = .returned (.bool true) ∧ Below w.heap.size w w' := by
  have hI : items [5, 5, 5, 5] = [⟨5, 0, 0⟩, ⟨16, 2, 0⟩] := by kernel_rfl
  have HI := Lib.hid hI
  clear hI
  go_enter Tryd.func14, Tryd.ntmps14
  go_wp2_with fail
  refine (Press_calls _ 4 _ [5, 5, 5, 5] _ (Blk.rd (heap_alloc_new w _) rfl) (by decide)).mono ?_
  rintro e w1 ⟨v, rfl, hown, hb⟩
  rw [HI.out] at hown
  obtain ⟨g, c, rfl, _, _, _, hcell, _⟩ := own_form hown (by decide)
  have c0 := hcell 0 _ rfl
  have c1 := hcell 1 _ rfl
  have c2 := hcell 2 _ rfl
  have c3 := hcell 3 _ rfl
  have c4 := hcell 4 _ rfl
  have c5 := hcell 5 _ rfl
  have Hb := Lib.hid hb
  clear hcell hown hb
  go_wp2
  go_ret
  exact ⟨rfl, (below_new (Below.refl _ _) (Nat.le_refl _) _).trans (Hb.out.mono (by simp))⟩
set_option maxHeartbeats 1000000 in
theorem same8_calls (A B : Option Addr) (n c d : Nat) (xs : List Int) (w : World) (hA : Rd w .i64 A n xs) (hB : Rd w .i64 B n xs) (hn : n ≤ 1000000) :
    Calls Tryd.prog 19 #[.slice A n c, .slice B n d] w fun e w' => e = .returned (.bool true) ∧ Below w.heap.size w w' := by
  have HA := Lib.hid hA
  have HB := Lib.hid hB
  clear hA hB
  go_enter Tryd.func19, Tryd.ntmps19
  go_wp2
  go_loop [5] (fun i => ∃ k : Nat, k ≤ n ∧ i = .int .i64 k) (fun i => n - (intOf i).toNat)
  case atStart => exact ⟨0, by omega, rfl⟩
  case round =>
    obtain ⟨k, hk, rfl⟩ := hrel
    by_cases hlt : k < n
    · obtain ⟨b, o, rfl, hc⟩ := HA.out.2 (by omega)
      obtain ⟨b', o', rfl, hc'⟩ := HB.out.2 (by omega)
      have z1 := hc k hlt
      have z2 := hc' k hlt
      clear hc hc'
      go_wp2
      go_round
      case rel => exact ⟨k + 1, by omega, by go_num⟩
      case measure => simp [intOf]; omega
    · obtain rfl : k = n := by omega
      go_wp2
      go_ret
      exact ⟨rfl, Below.refl _ _⟩
end Go.Proofs.YtkjoncllnlmdgaaDoor
/-
  More small laws that walks use: 'make' in a region that draws.
-/
namespace Go.Proofs.YtkjoncllnlmdgaaDoor
open Go.RowKit

/-- 'make' as a rule for the walk: for a region that draws. -/
theorem make_rule {P : Program} {t e : TypeId} {k : IntKind} {bytes : Nat} (El : ElT P t e (.int k 0) 1 bytes) (n : Nat) (L : Int) (hL : L = n) (hbytes : bytes * n ≤ 140737488355328) :
    ∃ (o : Obj) (l : List Int), (∀ w : World, Sem.run P (Instr.makeSlice t (.int .i64 L) (.int .i64 L)) w = .ok (.slice (some ⟨w.heap.size, 0, none⟩) n n) (w.alloc o)) ∧ Hid (l = List.replicate n 0) ∧
      Hid (∀ (w : World) (g base : Nat), g = w.heap.size → base ≤ g → (w.alloc o).ownsRow base e 1 (.slice (some ⟨g, 0, none⟩) n n) n (ints k l)) := by
  obtain ⟨i0, hi, hz0, hz1, hz2⟩ := info_parts El.info
  subst hL
  have hn : n ≤ maxLen := by
    have := Nat.mul_le_mul_right n El.bpos
    unfold maxLen
    omega
  have hn' : (n : Int) ≤ 9223372036854775807 := by unfold maxLen at hn; omega
  have hb' : (i0.bytes : Int) * n ≤ 281474976710656 := by
    rw [hz2]
    have h : ((bytes * n : Nat) : Int) ≤ 281474976710656 := by omega
    rwa [Int.natCast_mul] at h
  refine ⟨Obj.cells (madeCells (Value.int k 0).cells (n * i0.size)) e, List.replicate n 0, fun w => ?_, rfl, ?_⟩
  · have hr := run_make (P := P) w t e i0 (.int k 0) El.und hi hz0 .i64 .i64 n n (by omega) (Int.le_refl _) hb' hn'
    simp only [Int.toNat_natCast] at hr
    exact hr
  · show ∀ (w : World) (g base : Nat), g = w.heap.size → base ≤ g → _
    intro w g base hg hbase
    subst hg
    have hz : i0.size = 1 := hz1
    have e1 : (madeCells (Value.int k 0).cells (n * i0.size)).toList = ints k (List.replicate n 0) := by
      rw [hz, Nat.mul_one]
      show (madeCells #[Value.int k 0] n).toList = _
      rw [toList_madeCells_one]
      simp [ints]
    rw [← e1]
    exact World.ownsRow_lit w _ n hbase hn (by rw [size_madeCells, hz])
end Go.Proofs.YtkjoncllnlmdgaaDoor
/-
  Plain facts: and, or of numbers; bits of bytes (no program).
-/
namespace Go.Proofs.YtkjoncllnlmdgaaDoor
theorem and7_i64 (p : Nat) (hp : p < 4611686018427387904) : bits BinOp.and IntKind.i64 (p : Int) 7 = ((p % 8 : Nat) : Int) := by
  have h1 : (BitVec.ofInt 64 (p : Int)).toNat = p := by
    rw [BitVec.ofInt_natCast, BitVec.toNat_ofNat]; exact Nat.mod_eq_of_lt (by omega)
  have h2 : (BitVec.ofInt 64 (7 : Int)).toNat = 7 := by decide
  show IntKind.i64.wrap ((BitVec.ofInt 64 (p : Int) &&& BitVec.ofInt 64 (7 : Int)).toNat : Int) = _
  rw [BitVec.toNat_and, h1, h2, show (7 : Nat) = 2 ^ 3 - 1 from rfl, Nat.and_two_pow_sub_one_eq_mod]
  exact IntWalk.i64_in _ (by omega)
theorem and1_u8 (p : Nat) (hp : p < 256) : bits BinOp.and IntKind.u8 (p : Int) 1 = ((p % 2 : Nat) : Int) := by
  have h1 : (BitVec.ofInt 8 (p : Int)).toNat = p := by
    rw [BitVec.ofInt_natCast, BitVec.toNat_ofNat]; exact Nat.mod_eq_of_lt (by omega)
  have h2 : (BitVec.ofInt 8 (1 : Int)).toNat = 1 := by decide
  show IntKind.u8.wrap ((BitVec.ofInt 8 (p : Int) &&& BitVec.ofInt 8 (1 : Int)).toNat : Int) = _
  rw [BitVec.toNat_and, h1, h2, Nat.and_one_is_mod]
  exact IntWalk.u8_in _ (by omega)
theorem or_u64_top (x b k : Nat) (hx : x < 2 ^ k) (hb : b ≤ 1) (hk : k < 64) : bits BinOp.or IntKind.u64 (x : Int) ((b * 2 ^ k : Nat) : Int) = ((x + b * 2 ^ k : Nat) : Int) := by
  have hp : (2 : Nat) ^ k ≤ 2 ^ 63 := Nat.pow_le_pow_right (by omega) (by omega)
  have hp2 : (2 : Nat) ^ 63 = 9223372036854775808 := by decide
  have hb2 : b * 2 ^ k ≤ 2 ^ k := by
    have := Nat.mul_le_mul_right (2 ^ k) hb
    omega
  rw [bits_or_u64_nat x (b * 2 ^ k) (by omega) (by omega)]
  have h := Nat.two_pow_add_eq_or_of_lt hx b
  rw [Nat.mul_comm] at h
  rw [Nat.or_comm, ← h, Nat.add_comm]
end Go.Proofs.YtkjoncllnlmdgaaDoor
