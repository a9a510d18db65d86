/-
  Texts joined into one file: B, C, A, Fr, LebP, SpanP, SpanQ, GetF.
-/
import Derived.Test.YtdbkbeojedndbaaRows
import Derived.WalkKit
import Derived.WalkSpells
import Derived.WalkLawsBesides
import Derived.Deep.QuietTactic
import Derived.BigQuiet
import Derived.Lib.Hide
import Derived.Laws.StructEq
import Derived.KernelRfl
import Derived.SizedLaws
import Derived.ChangeSlices
import Derived.Laws.AppendOwnNone
import Derived.OneCell
import Derived.Deep.AppendLies
import Derived.Lib.AppendStr
/-
  Small laws that all walks use: what a call leaves of old memory; rows that the call owns; slices that are read.
-/
namespace Go.Proofs.Ytdbkbeojedndbaa
open Go.RowKit

/-- What a call leaves of a block that was laid right ahead of it. -/
theorem laid_kept {w w' : World} {vs : Array Value} {T : TypeId} (hb : Below (w.alloc (Obj.cells vs T)).heap.size (w.alloc (Obj.cells vs T)) w') (i : Nat) (v : Value) (h : vs[i]? = some v) :
    w'.cell? ⟨w.heap.size, i, none⟩ = some v ∧ w'.frozen? ⟨w.heap.size, i, none⟩ = false :=
  ⟨(hb.cell (p := ⟨w.heap.size, i, none⟩) (by simp)).trans (by simp [h]), (hb.frozen (p := ⟨w.heap.size, i, none⟩) (by simp)).trans (by simp)⟩
theorem kept_cell {w w' : World} (hb : Below w.heap.size w w') {a : Addr} {v : Value} (h : w.cell? a = some v) : w'.cell? a = some v := (hb.cell (World.block_lt_of_cell? w a h)).trans h
theorem kept_new {w : World} {a : Addr} {v : Value} (h : w.cell? a = some v) (o : Obj) : (w.alloc o).cell? a = some v := kept_cell ((Below.refl _ _).alloc (Nat.le_refl _) _) h
theorem kept_new2 {w : World} {a : Addr} {v : Value} (h : w.cell? a = some v) (o o' : Obj) : ((w.alloc o).alloc o').cell? a = some v := kept_new (kept_new h o) o'
theorem below_seq {B : Nat} {w w1 w2 : World} (h : Below B w w1) (hB : B ≤ w.heap.size) (k : Below w1.heap.size w1 w2) : Below B w w2 := h.trans (k.mono (Nat.le_trans hB h.size))
theorem below_new {B : Nat} {w w1 : World} (h : Below B w w1) (hB : B ≤ w.heap.size) (o : Obj) : Below B w (w1.alloc o) := h.alloc (Nat.le_trans hB h.size) o

/-! ### rows that the call owns -/
theorem own_below {w w1 : World} {base : Nat} {e : TypeId} {size n : Nat} {v : Value} {xs : List Value} (h : w.ownsRow base e size v n xs) (hb : Below w.heap.size w w1) : w1.ownsRow base e size v n xs :=
  h.kept ⟨hb.os, hb.tape, hb.output, hb.size, fun i hi _ => hb.block i hi⟩ (row := none) (by cases v.ownBlock <;> simp)
theorem own_slice {w : World} {base n : Nat} {e : TypeId} {size : Nat} {v : Value} {xs : List Value} (h : w.ownsRow base e size v n xs) : ∃ A c, v = .slice A n c := by
  rcases h.2 with ⟨rfl, rfl⟩ | ⟨g, cap, cur, rfl, _⟩
  · exact ⟨none, 0, rfl⟩
  · exact ⟨_, cap, rfl⟩
/-- An owned row that isn't empty begins at the head of a block of the call's own. -/
theorem own_form {w : World} {base n : Nat} {e : TypeId} {size : Nat} {v : Value} {xs : List Value} (h : w.ownsRow base e size v n xs) (hn : 0 < n) :
    ∃ g c, v = .slice (some ⟨g, 0, none⟩) n c ∧ base ≤ g ∧ g < w.heap.size ∧ n ≤ c ∧ (∀ j u, xs[j]? = some u → w.cell? ⟨g, j, none⟩ = some u) ∧ ∀ j, w.frozen? ⟨g, j, none⟩ = false := by
  rcases h.2 with ⟨rfl, rfl⟩ | ⟨g, cap, cur, rfl, hb, hh, hc, _⟩
  · omega
  · refine ⟨g, cap, rfl, hb, (Array.getElem?_eq_some_iff.1 hh).1, hc, fun j u hj => ?_, fun j => h.frozenAt j⟩
    have hl : j < xs.length := (List.getElem?_eq_some_iff.1 hj).1
    rw [h.cellAt j (by rw [h.1] at hl; exact hl)]
    exact hj
theorem own_mono {w : World} {base base' n : Nat} {e : TypeId} {size : Nat} {v : Value} {xs : List Value} (h : w.ownsRow base e size v n xs) (hb : base' ≤ base) : w.ownsRow base' e size v n xs := by
  refine ⟨h.1, ?_⟩
  rcases h.2 with h2 | ⟨g, cap, cur, hv, hg, r⟩
  · exact .inl h2
  · exact .inr ⟨g, cap, cur, hv, Nat.le_trans hb hg, r⟩
/-- Behind an append to a row of the call's own. -/
theorem below_app {B : Nat} {w w1 w2 : World} {base : Nat} {e : TypeId} {size n : Nat} {v : Value} {xs : List Value} (h : Below B w w1) (hB : B ≤ w.heap.size) (ho : w1.ownsRow base e size v n xs) (hbase : B ≤ base) (hg : w1.grownBy w2 v.ownBlock) : Below B w w2 :=
  h.grown hg (Nat.le_trans hB h.size) (fun k hk => Nat.le_trans hbase (ho.lt k hk).1)
/-- The one new element that 'append(out, x)' lays ahead of it. -/
theorem news_at (w : World) (vs : Array Value) (T : TypeId) : ∀ j u, vs.toList[j]? = some u → (w.alloc (Obj.cells vs T)).cell? ((⟨w.heap.size, 0, none⟩ : Addr).add j) = some u := by
  intro j u hu
  have : (⟨w.heap.size, 0, none⟩ : Addr).add j = ⟨w.heap.size, j, none⟩ := by unfold Addr.add; split <;> simp_all
  rw [this]
  simpa using hu
/-! ### append of one element that is built right ahead of it -/
structure ElT (P : Program) (t e : TypeId) (z : Value) (size bytes : Nat) : Prop where
  und : P.underlying t = some (.slice e)
  info : (P.info? e).map (fun i => (i.zero, i.size, i.bytes)) = some (some z, size, bytes)
  zs : z.cells.size = size
  pos : 0 < size
  bpos : 0 < bytes
theorem wpList_app1 {P : Program} {wr : World} {ops : Array Oper} {rest : List Oper} {o : Oper} {a : Act} {Q : Exit → Act → World → Prop} (hgd : o.guard = none) (s x : Operand) {t : TypeId}
    (ho : o.op = .call { callee := .builtin .append, args := #[s, x], argTypes := #[t, t] })
    {base : Nat} {e : TypeId} {z : Value} {size bytes : Nat} (El : ElT P t e z size bytes) {v : Value} {n : Nat} {xs : List Value} (hown : wr.ownsRow base e size v n xs)
    (hs : a.eval s = v) {vs : Array Value} {T : TypeId} (hx : a.eval x = .slice (some ⟨wr.heap.size, 0, none⟩) 1 1) (hl : vs.size = size) (h1 : vs.toList.all (fun u => u.oneCell') = true)
    (hbytes : (n + 1) * bytes ≤ 140737488355328) (hbase : base ≤ wr.heap.size)
    (h : ∀ v' w', w'.ownsRow base e size v' (n + 1) (xs ++ vs.toList) → Below base wr w' → (wr.alloc (.cells vs T)).grownBy w' v.ownBlock → wpList P ops Q rest (a.put o.dst v') w') : wpList P ops Q (o :: rest) a (wr.alloc (.cells vs T)) := by
  obtain ⟨i0, hi, hz0, hz1, hz2⟩ := info_parts El.info
  have hn : n + 1 ≤ maxLen := by
    have := Nat.mul_le_mul_left (n + 1) El.bpos
    unfold maxLen
    omega
  refine wpList_append_own _ hgd s x t ho base e i0 z size bytes El.und hi hz0 hz1 hz2 El.zs El.pos v n xs hs (hown.alloc _) ⟨wr.heap.size, 0, none⟩ 1 1 vs.toList hx (by simpa using hl) (news_at _ _ _) (fun u hu => List.all_eq_true.1 h1 u hu) hn hbytes (by simp; omega) ?_
  intro v' w' h2 h3 _
  refine h v' w' h2 ?_ h3
  refine ((Below.refl base wr).alloc hbase _).grown h3 (by simp; omega) (fun k hk => (hown.lt k hk).1)
/-- The same where the block's number is spelled otherwise. -/
theorem wpList_app2 {P : Program} {wr : World} {ops : Array Oper} {rest : List Oper} {o : Oper} {a : Act} {Q : Exit → Act → World → Prop} (hgd : o.guard = none) (s x : Operand) {t : TypeId}
    (ho : o.op = .call { callee := .builtin .append, args := #[s, x], argTypes := #[t, t] })
    {base : Nat} {e : TypeId} {z : Value} {size bytes : Nat} (El : ElT P t e z size bytes) {v : Value} {n : Nat} {xs : List Value} (hown : wr.ownsRow base e size v n xs)
    (hs : a.eval s = v) {vs : Array Value} {T : TypeId} {bx : Nat} (hx : a.eval x = .slice (some ⟨bx, 0, none⟩) 1 1) (hbx : bx = wr.heap.size) (hl : vs.size = size) (h1 : vs.toList.all (fun u => u.oneCell') = true)
    (hbytes : (n + 1) * bytes ≤ 140737488355328) (hbase : base ≤ wr.heap.size)
    (h : ∀ v' w', w'.ownsRow base e size v' (n + 1) (xs ++ vs.toList) → Below base wr w' → (wr.alloc (.cells vs T)).grownBy w' v.ownBlock → wpList P ops Q rest (a.put o.dst v') w') : wpList P ops Q (o :: rest) a (wr.alloc (.cells vs T)) := by
  subst hbx
  exact wpList_app1 hgd s x ho El hown hs hx hl h1 hbytes hbase h
/-- Another row of the call's own lives on. -/
theorem own_other {w w' : World} {base : Nat} {e : TypeId} {size n : Nat} {v : Value} {xs : List Value} {o : Obj} {row : Option Nat} (h : w.ownsRow base e size v n xs) (hg : (w.alloc o).grownBy w' row) (hne : v.ownBlock = none ∨ v.ownBlock ≠ row) : w'.ownsRow base e size v n xs :=
  (h.alloc o).kept hg hne
/-- A later world: all that was there in W0 is there as it was. A fact in this form is a rule for the walk in whatever later world. -/
structure Later (W0 W : World) : Prop where
  bel : Below W0.heap.size W0 W
theorem Later.refl (W0 : World) : Later W0 W0 := ⟨Below.refl _ _⟩
theorem Later.drew {W0 W : World} (h : Later W0 W) : Later W0 W.drew := ⟨h.bel.drew⟩
theorem Later.step {W0 W W' : World} (h : Later W0 W) (k : Below W.heap.size W W') : Later W0 W' := ⟨below_seq h.bel (Nat.le_refl _) k⟩
theorem Later.alloc {W0 W : World} (h : Later W0 W) (o : Obj) : Later W0 (W.alloc o) := ⟨below_new h.bel (Nat.le_refl _) o⟩
theorem Later.cell {W0 : World} {a : Addr} {v : Value} (h : W0.cell? a = some v) : ∀ W, Later W0 W → W.cell? a = some v := fun _ k => kept_cell k.bel h
/-! ### '==' of structs, field by field -/
theorem eqFields_cons {P : Program} {d : Nat} {xs ys : Array Value} {f : Field} {fs : List Field} {a b : Value} {r s : Bool} {w : World} (hn : (f.name == "_") = false)
    (ha : (part f.type xs f.offset).run P w = .ok a w) (hb : (part f.type ys f.offset).run P w = .ok b w) (he : (Op.equalIn d f.type a b).run P w = .ok r w)
    (hr : (Op.eqFields d xs ys fs).run P w = .ok s w) : (Op.eqFields d xs ys (f :: fs)).run P w = .ok (r && s) w := by
  have hn' : f.name ≠ "_" := by simpa using hn
  rw [Op.eqFields]
  simp only [if_pos hn', Sem.run_bind, ha, hb, he, Result.andThen_ok]
  cases r
  · simp
  · simpa using hr
theorem eqFields_nil {P : Program} {d : Nat} {xs ys : Array Value} {w : World} : (Op.eqFields d xs ys []).run P w = .ok true w := by simp [Op.eqFields]
theorem eqStruct_of {P : Program} {d : Nat} {xs ys : Array Value} {t : TypeId} {fs : Array Field} {r : Bool} {w : World} (hu : P.underlying t = some (.struct fs)) (hp : P.stoodInHeld t = false) (h : (Op.eqFields d xs ys fs.toList).run P w = .ok r w) : (Op.equalIn (d + 1) t (.agg xs) (.agg ys)).run P w = .ok r w := by
  have hf : P.fieldsOf t = fs := by simp [Program.fieldsOf, hu]
  rw [run_equalIn_struct (P := P) w d t xs ys (by rw [hf]; exact hu) hp, hf]
  exact h
theorem eqInt_of {P : Program} {d : Nat} {t : TypeId} {k : IntKind} {w : World} (hu : P.underlying t = some (.int k)) (a b : Int) : (Op.equalIn (d + 1) t (.int k a) (.int k b)).run P w = .ok (a == b) w := by
  simp [Op.equalIn, run_underlying hu]
theorem binEql_of {P : Program} {t : TypeId} {xs ys : Array Value} {r : Bool} {w : World} (h : (Op.equalIn (9998 + 2) t (.agg xs) (.agg ys)).run P w = .ok r w) : (binOp .eql t (.agg xs) (.agg ys)).run P w = .ok (.bool r) w := by
  simp only [binOp]
  simp only [Op.equal, Op.maxDepth, Sem.run_bind]
  have h' : Sem.run P (Op.equalIn 10000 t (.agg xs) (.agg ys)) w = .ok r w := h
  rw [h']
  rfl
theorem below_drewN {B : Nat} {w w1 : World} (h : Below B w w1) (n : Nat) : Below B w (w1.drewN n) := ⟨h.os, h.tape, h.output, h.size, h.block⟩
/-- A block of three cells, a draw, three stores into it. -/
theorem drawn3 (w : World) (o : Obj) (n : Nat) (u0 u1 u2 : Value) : Below w.heap.size w (((((w.alloc o).drewN n).setCell ⟨w.heap.size, 0, none⟩ u0).setCell ⟨w.heap.size, 1, none⟩ u1).setCell ⟨w.heap.size, 2, none⟩ u2) :=
  (((below_drewN ((Below.refl _ _).alloc (Nat.le_refl _) o) n).setCell (Nat.le_refl _) u0).setCell (Nat.le_refl _) u1).setCell (Nat.le_refl _) u2
/-! ### slices of numbers that are read; blocks of numbers that the call made -/
def rd (xs : List Int) (j : Nat) : Int := xs.getD j 0
theorem rd_getElem {xs : List Int} {j : Nat} (h : j < xs.length) : rd xs j = xs[j] := by simp [rd, List.getD_eq_getElem?_getD, List.getElem?_eq_getElem h]
theorem rd_set {xs : List Int} {j m : Nat} {v : Int} (h : m < xs.length) : rd (xs.set m v) j = if m = j then v else rd xs j := by
  unfold rd
  simp only [List.getD_eq_getElem?_getD, List.getElem?_set]
  split
  · simp_all
  · rfl
/-- The slice reads as these numbers. -/
def Rd (w : World) (k : IntKind) (A : Option Addr) (n : Nat) (xs : List Int) : Prop :=
  xs.length = n ∧ (0 < n → ∃ b o, A = some ⟨b, o, none⟩ ∧ ∀ j, j < n → w.cell? ⟨b, o + j, none⟩ = some (.int k (rd xs j)))
theorem Rd.below {w w1 : World} {k : IntKind} {A : Option Addr} {n : Nat} {xs : List Int} (h : Rd w k A n xs) (hb : Below w.heap.size w w1) : Rd w1 k A n xs :=
  ⟨h.1, fun hn => by obtain ⟨b, o, e, hc⟩ := h.2 hn; exact ⟨b, o, e, fun j hj => kept_cell hb (hc j hj)⟩⟩
theorem Rd.drew {w : World} {k : IntKind} {A : Option Addr} {n : Nat} {xs : List Int} (h : Rd w k A n xs) : Rd w.drew k A n xs := h.below (Below.refl _ _).drew
theorem Rd.alloc {w : World} {k : IntKind} {A : Option Addr} {n : Nat} {xs : List Int} (h : Rd w k A n xs) (o : Obj) : Rd (w.alloc o) k A n xs := h.below ((Below.refl _ _).alloc (Nat.le_refl _) _)
def ints (k : IntKind) (l : List Int) : List Value := l.map (Value.int k)
theorem ints_length (k : IntKind) (l : List Int) : (ints k l).length = l.length := by simp [ints]
theorem ints_append (k : IntKind) (a b : List Int) : ints k (a ++ b) = ints k a ++ ints k b := by simp [ints]
theorem ints_set (k : IntKind) (l : List Int) (j : Nat) (v : Int) : ints k (l.set j v) = (ints k l).set j (.int k v) := by simp [ints, List.map_set]
theorem ints_get {k : IntKind} {l : List Int} {j : Nat} (h : j < l.length) : (ints k l)[j]? = some (.int k (rd l j)) := by simp [ints, rd_getElem h, List.getElem?_eq_getElem h]
theorem ints_one (k : IntKind) (l : List Int) : (ints k l).toArray.all (fun u => u.oneCell') = true := by simp [ints, Value.oneCell']
theorem ints_size (k : IntKind) (l : List Int) : (ints k l).toArray.size = l.length := by simp [ints]
/-- The block holds these numbers. -/
def Blk (w : World) (b : Nat) (T : TypeId) (k : IntKind) (l : List Int) : Prop := w.heap[b]? = some (.cells (ints k l).toArray T (0, 0))
theorem Blk.cell {w : World} {b : Nat} {T : TypeId} {k : IntKind} {l : List Int} (h : Blk w b T k l) {j : Nat} (hj : j < l.length) : w.cell? ⟨b, j, none⟩ = some (.int k (rd l j)) := by
  rw [cell_of_row w b j _ T (0, 0) h, List.getElem?_toArray, ints_get hj]
theorem Blk.frozen {w : World} {b : Nat} {T : TypeId} {k : IntKind} {l : List Int} (h : Blk w b T k l) (j : Nat) : w.frozen? ⟨b, j, none⟩ = false := frozen_of_row w b j _ T h
theorem Blk.set {w : World} {b : Nat} {T : TypeId} {k : IntKind} {l : List Int} (h : Blk w b T k l) (j : Nat) (v : Int) : Blk (w.setCell ⟨b, j, none⟩ (.int k v)) b T k (l.set j v) := by
  unfold Blk
  rw [heap_setCell_same w b j _ T _ h, ints_set]
  simp
theorem Blk.lt {w : World} {b : Nat} {T : TypeId} {k : IntKind} {l : List Int} (h : Blk w b T k l) : b < w.heap.size := (Array.getElem?_eq_some_iff.1 h).1
theorem Blk.other {w : World} {b : Nat} {T : TypeId} {k : IntKind} {l : List Int} (h : Blk w b T k l) (a : Addr) (v : Value) (hne : b ≠ a.block) : Blk (w.setCell a v) b T k l := (heap_setCell_other w a b v hne).trans h
theorem Blk.alloc {w : World} {b : Nat} {T : TypeId} {k : IntKind} {l : List Int} (h : Blk w b T k l) (o : Obj) : Blk (w.alloc o) b T k l := (Below.heap_alloc _ _ _ h.lt).trans h
theorem Blk.below {w w' : World} {b : Nat} {T : TypeId} {k : IntKind} {l : List Int} (h : Blk w b T k l) {B : Nat} (hb : Below B w w') (hB : b < B) : Blk w' b T k l := (hb.block b hB).trans h
theorem Blk.rd {w : World} {b : Nat} {T : TypeId} {k : IntKind} {l : List Int} (h : Blk w b T k l) {n : Nat} (hn : l.length = n) : Rd w k (some ⟨b, 0, none⟩) n l :=
  ⟨hn, fun _ => ⟨b, 0, rfl, fun j hj => by rw [Nat.zero_add]; exact h.cell (by omega)⟩⟩
/-- A row of numbers that the call owns reads as they are. -/
theorem own_rd {w : World} {base n : Nat} {e : TypeId} {k : IntKind} {v : Value} {xs : List Int} (h : w.ownsRow base e 1 v n (ints k xs)) : ∃ A c, v = .slice A n c ∧ n ≤ c ∧ Rd w k A n xs := by
  have hl : xs.length = n := by have := h.1; simpa [ints] using this
  rcases Nat.eq_zero_or_pos n with h0 | h0
  · obtain ⟨A, c, hv⟩ := own_slice h
    exact ⟨A, c, hv, by omega, hl, fun hp => by omega⟩
  · obtain ⟨g, c, hv, _, _, hc, hcell, _⟩ := own_form h h0
    exact ⟨_, c, hv, hc, hl, fun _ => ⟨g, 0, rfl, fun j hj => by rw [Nat.zero_add]; exact hcell j _ (ints_get (by omega))⟩⟩
theorem Blk.own {w : World} {b : Nat} {T : TypeId} {k : IntKind} {l : List Int} (h : Blk w b T k l) {n base : Nat} (hn : l.length = n) (hb : base ≤ b) (hm : n ≤ maxLen) : w.ownsRow base T 1 (.slice (some ⟨b, 0, none⟩) n n) n (ints k l) :=
  ⟨by rw [ints_length, hn, Nat.mul_one], .inr ⟨b, n, _, rfl, hb, h, Nat.le_refl _, hm, by simp [ints_length, hn], by simp; exact List.take_of_length_le (by rw [ints_length, hn]; exact Nat.le_refl _)⟩⟩
/-- 'make([]T, n)' of one-cell elements: n zeros are owned. -/
theorem wpList_mk1 {P : Program} (w : World) {ops : Array Oper} {rest : List Oper} {o : Oper} {a : Act} {Q : Exit → Act → World → Prop} (hg : o.guard = none) (l c : Operand) {t : TypeId} (hop : o.op = Op.makeSlice t l c)
    {base : Nat} {e : TypeId} {k : IntKind} {bytes : Nat} (El : ElT P t e (.int k 0) 1 bytes) {kl kc : IntKind} {L C : Int} {n : Nat} (hl : a.eval l = .int kl L) (hc : a.eval c = .int kc C) (hL : L = (n : Int)) (hC : C = (n : Int))
    (hbytes : bytes * n ≤ 140737488355328) (hbase : base ≤ w.heap.size)
    (hK : ∀ w', w'.ownsRow base e 1 (.slice (some ⟨w.heap.size, 0, none⟩) n n) n (ints k (List.replicate n 0)) → Below w.heap.size w w' → w'.heap.size = w.heap.size + 1 → wpList P ops Q rest (a.put o.dst (.slice (some ⟨w.heap.size, 0, none⟩) n n)) w') :
    wpList P ops Q (o :: rest) a w := by
  obtain ⟨i0, hi, hz0, hz1, hz2⟩ := info_parts El.info
  subst hL hC
  have hn : n ≤ maxLen := by
    have := Nat.mul_le_mul_right n El.bpos
    unfold maxLen
    omega
  have hn' : (n : Int) ≤ 9223372036854775807 := by unfold maxLen at hn; omega
  have hb' : (i0.bytes : Int) * n ≤ 281474976710656 := by
    rw [hz2]
    have h : ((bytes * n : Nat) : Int) ≤ 281474976710656 := by omega
    rwa [Int.natCast_mul] at h
  have hr := run_make (P := P) w t e i0 (.int k 0) El.und hi hz0 kl kc n n (by omega) (Int.le_refl _) hb' hn'
  simp only [Int.toNat_natCast] at hr
  refine wpList_plain hg fun K hK' => ?_
  unfold Oper.wp
  simp [execOp, hop, hl, hc, hr, Result.andThen]
  refine hK' _ _ (hK _ ?_ ((Below.refl _ _).alloc (Nat.le_refl _) _) (by simp))
  have hz : i0.size = 1 := hz1
  have e1 : (madeCells (Value.int k 0).cells (n * i0.size)).toList = ints k (List.replicate n 0) := by
    rw [hz, Nat.mul_one]
    show (madeCells #[Value.int k 0] n).toList = _
    rw [toList_madeCells_one]
    simp [ints]
  rw [← e1]
  exact World.ownsRow_lit w _ n hbase hn (by rw [size_madeCells, hz])
/-! ### a row's slices of numbers -/
def IsRow (k : IntKind) (w : World) (a : Option Addr) (len cap : Nat) (zs : List Int) : Prop :=
  (a = none ∧ len = 0 ∧ cap = 0 ∧ zs = []) ∨
  ∃ x, a = some x ∧ len ≤ cap ∧ cap ≤ maxLen ∧ zs.length = cap ∧ (∀ i, i < zs.length → w.cell? (x.add i) = some (.int k (zs.getD i 0))) ∧ ∀ n ∈ zs, (Lit.int k n).wf = true
theorem IsRow.rd {k : IntKind} {w : World} {a : Option Addr} {len cap : Nat} {zs : List Int} (h : IsRow k w a len cap zs) : Rd w k a len (zs.take len) := by
  rcases h with ⟨rfl, rfl, rfl, rfl⟩ | ⟨⟨b, o, s⟩, rfl, hl, hm, hz, hc, hw⟩
  · exact ⟨rfl, fun h => by omega⟩
  · refine ⟨by simp; omega, fun hn => ?_⟩
    have hs : s = none := by simpa [Addr.add] using World.cell?_spot (hc 0 (by omega))
    subst hs
    refine ⟨b, o, rfl, fun j hj => ?_⟩
    have e : (⟨b, o, none⟩ : Addr).add j = ⟨b, o + j, none⟩ := by unfold Addr.add; split <;> simp_all
    have := hc j (by omega)
    rw [e] at this
    rw [this, rd_getElem (by simp; omega)]
    simp [List.getD_eq_getElem?_getD, List.getElem?_eq_getElem (show j < zs.length by omega)]
theorem IsRow.wf {k : IntKind} {w : World} {a : Option Addr} {len cap : Nat} {zs : List Int} (h : IsRow k w a len cap zs) : ∀ j, j < len → (Lit.int k (Go.Proofs.Ytdbkbeojedndbaa.rd (zs.take len) j)).wf = true := by
  intro j hj
  rcases h with ⟨rfl, rfl, rfl, rfl⟩ | ⟨x, rfl, hl, hm, hz, hc, hw⟩
  · omega
  · rw [rd_getElem (by simp; omega)]
    exact hw _ (List.mem_of_mem_take (List.getElem_mem _))
theorem u8_of_wf {n : Int} (h : (Lit.int .u8 n).wf = true) : 0 ≤ n ∧ n ≤ 255 := by
  simp [Lit.wf, IntKind.min, IntKind.max, IntKind.signed, IntKind.bits] at h
  omega
theorem u16_of_wf {n : Int} (h : (Lit.int .u16 n).wf = true) : 0 ≤ n ∧ n ≤ 65535 := by
  simp [Lit.wf, IntKind.min, IntKind.max, IntKind.signed, IntKind.bits] at h
  omega
theorem IsRow.u8 {w : World} {a : Option Addr} {len cap : Nat} {zs : List Int} (h : IsRow .u8 w a len cap zs) : ∀ j, j < len → 0 ≤ Go.Proofs.Ytdbkbeojedndbaa.rd (zs.take len) j ∧ Go.Proofs.Ytdbkbeojedndbaa.rd (zs.take len) j ≤ 255 := fun j hj => u8_of_wf (h.wf j hj)
/-- A row's slice of whole numbers is no longer than its weight allows. -/
theorem sized_ints {H : Type} {enc : TypeId × Value → H} {P : Program} {W : World} {base : Nat} {spare : Nat → Bool} {held : Bool} {t e : TypeId} {k : IntKind} {a : Option Addr} {len cap : Nat} {d : DataW H} {ps : List MemPlace} {ts : List TypeId} {ds : List (DataW H)} {j : Nat}
    (hsz : (DataW.weightsEach P ts ds).all (· ≤ reachBytes) = true) (ht : ts[j]? = some t) (hd : ds[j]? = some d) (hu : P.underlying t = some (.slice e)) (he : P.underlying e = some (.int k)) (hc : P.cellsOf e = 1) {B : Nat} (hB : P.bytesOf e = B)
    (h : DataW.Trod enc P W base spare held t (.slice a len cap) d ps) : len * B ≤ 140737488351232 := by
  obtain ⟨fuel, hf⟩ := h
  rcases Go.ChangeShapes.open_ints hu he hc hf with ⟨hcs, _⟩ | ⟨x, l, c, zs, hcs, _, hl, _, hz, hx, _, _⟩
  · simp [Value.cells] at hcs
    obtain ⟨rfl, rfl, rfl⟩ := hcs
    simp
  · simp [Value.cells] at hcs
    obtain ⟨rfl, rfl, rfl⟩ := hcs
    obtain ⟨hx, _⟩ := Prod.mk.inj hx
    subst hx
    have z := sized_slice hsz ht hd hu
    rw [hB] at z
    have hlz : len ≤ zs.length := by rw [hz]; split <;> omega
    have hsum : (Go.ChangeShapes.lits (H := H) k (zs.take len)).length + (Go.ChangeShapes.lits (H := H) k (zs.drop len)).length = zs.length := by
      simp [Go.ChangeShapes.lits]
      omega
    rw [hsum] at z
    exact Nat.le_trans (Nat.mul_le_mul_right _ hlz) z
end Go.Proofs.Ytdbkbeojedndbaa
/-
  More small laws that walks use: 'make' in a region that draws.
-/
namespace Go.Proofs.Ytdbkbeojedndbaa
open Go.RowKit

/-- 'make' as a rule for the walk: for a region that draws. -/
theorem make_rule {P : Program} {t e : TypeId} {k : IntKind} {bytes : Nat} (El : ElT P t e (.int k 0) 1 bytes) (n : Nat) (L : Int) (hL : L = n) (hbytes : bytes * n ≤ 140737488355328) :
    ∃ (o : Obj) (l : List Int), (∀ w : World, Sem.run P (Instr.makeSlice t (.int .i64 L) (.int .i64 L)) w = .ok (.slice (some ⟨w.heap.size, 0, none⟩) n n) (w.alloc o)) ∧ Hid (l = List.replicate n 0) ∧
      Hid (∀ (w : World) (g base : Nat), g = w.heap.size → base ≤ g → (w.alloc o).ownsRow base e 1 (.slice (some ⟨g, 0, none⟩) n n) n (ints k l)) := by
  obtain ⟨i0, hi, hz0, hz1, hz2⟩ := info_parts El.info
  subst hL
  have hn : n ≤ maxLen := by
    have := Nat.mul_le_mul_right n El.bpos
    unfold maxLen
    omega
  have hn' : (n : Int) ≤ 9223372036854775807 := by unfold maxLen at hn; omega
  have hb' : (i0.bytes : Int) * n ≤ 281474976710656 := by
    rw [hz2]
    have h : ((bytes * n : Nat) : Int) ≤ 281474976710656 := by omega
    rwa [Int.natCast_mul] at h
  refine ⟨Obj.cells (madeCells (Value.int k 0).cells (n * i0.size)) e, List.replicate n 0, fun w => ?_, rfl, ?_⟩
  · have hr := run_make (P := P) w t e i0 (.int k 0) El.und hi hz0 .i64 .i64 n n (by omega) (Int.le_refl _) hb' hn'
    simp only [Int.toNat_natCast] at hr
    exact hr
  · show ∀ (w : World) (g base : Nat), g = w.heap.size → base ≤ g → _
    intro w g base hg hbase
    subst hg
    have hz : i0.size = 1 := hz1
    have e1 : (madeCells (Value.int k 0).cells (n * i0.size)).toList = ints k (List.replicate n 0) := by
      rw [hz, Nat.mul_one]
      show (madeCells #[Value.int k 0] n).toList = _
      rw [toList_madeCells_one]
      simp [ints]
    rw [← e1]
    exact World.ownsRow_lit w _ n hbase hn (by rw [size_madeCells, hz])
end Go.Proofs.Ytdbkbeojedndbaa
/-
  Append of a slice of numbers that is read.
-/
namespace Go.Proofs.Ytdbkbeojedndbaa
open Go.RowKit

theorem addr_add (b o j : Nat) : (⟨b, o, none⟩ : Addr).add j = ⟨b, o + j, none⟩ := by unfold Addr.add; split <;> simp_all
theorem wpList_appRd {P : Program} {w : World} {ops : Array Oper} {rest : List Oper} {o : Oper} {a : Act} {Q : Exit → Act → World → Prop} (hgd : o.guard = none) (s x : Operand) {t : TypeId}
    (ho : o.op = .call { callee := .builtin .append, args := #[s, x], argTypes := #[t, t] })
    {base : Nat} {e : TypeId} {k : IntKind} {bytes : Nat} (El : ElT P t e (.int k 0) 1 bytes) {v : Value} {n : Nat} {ys : List Int} (hown : w.ownsRow base e 1 v n (ints k ys)) (hs : a.eval s = v)
    {A : Option Addr} {m c : Nat} {zs : List Int} (hx : a.eval x = .slice A m c) (hR : Rd w k A m zs) (hA : A = none → m = 0 ∧ c = 0) (hbytes : (n + m) * bytes ≤ 140737488355328) (hbase : base ≤ w.heap.size)
    (h : ∀ v' w', w'.ownsRow base e 1 v' (n + m) (ints k (ys ++ zs)) → w.grownBy w' v.ownBlock → wpList P ops Q rest (a.put o.dst v') w') : wpList P ops Q (o :: rest) a w := by
  obtain ⟨i0, hi, hz0, hz1, hz2⟩ := info_parts El.info
  have hn : n + m ≤ maxLen := by
    have := Nat.mul_le_mul_left (n + m) El.bpos
    unfold maxLen
    omega
  have hl := hR.1
  cases A with
  | none =>
    obtain ⟨rfl, rfl⟩ := hA rfl
    have hz : zs = [] := List.length_eq_zero_iff.1 hl
    subst hz
    refine wpList_append_own_none hgd s x t ho base e i0 1 El.und hi v n _ hs hown hx (h v w ?_ ?_)
    · simpa using hown
    · exact ⟨rfl, rfl, rfl, Nat.le_refl _, fun _ _ _ => rfl⟩
  | some ad =>
    refine wpList_append_own _ hgd s x t ho base e i0 (.int k 0) 1 bytes El.und hi hz0 hz1 hz2 El.zs El.pos v n _ hs hown ad m c (ints k zs) hx (by rw [ints_length]; omega) ?_ (fun u hu => ?_) hn hbytes hbase ?_
    · intro j u hu
      have hj : j < zs.length := by
        have := (List.getElem?_eq_some_iff.1 hu).1
        rwa [ints_length] at this
      obtain ⟨b, o', e', hc⟩ := hR.2 (by omega)
      cases e'
      rw [ints_get hj] at hu
      cases hu
      rw [addr_add]
      exact hc j (by omega)
    · unfold ints at hu
      obtain ⟨y, _, rfl⟩ := List.mem_map.1 hu
      rfl
    · intro v' w' h2 h3 _
      rw [← ints_append] at h2
      exact h v' w' h2 h3
end Go.Proofs.Ytdbkbeojedndbaa
/-
  What a call leaves of old memory, but for the blocks that are named; appends that tell where the row lies then.
-/
namespace Go.Proofs.Ytdbkbeojedndbaa
open Go.RowKit

/-- All old blocks are as they were, but for these. -/
structure Fr (w w' : World) (S : List (Option Nat)) : Prop where
  os : w'.os = w.os
  tape : w'.tape = w.tape
  output : w'.output = w.output
  size : w.heap.size ≤ w'.heap.size
  block : ∀ k, k < w.heap.size → (∀ o ∈ S, o ≠ some k) → w'.heap[k]? = w.heap[k]?
theorem Fr.refl (w : World) (S : List (Option Nat)) : Fr w w S := ⟨rfl, rfl, rfl, Nat.le_refl _, fun _ _ _ => rfl⟩
theorem Fr.trans {w w1 w2 : World} {S T : List (Option Nat)} (h : Fr w w1 S) (k : Fr w1 w2 T) (hT : ∀ o ∈ T, o ∈ S ∨ ∀ j, o = some j → w.heap.size ≤ j) : Fr w w2 S :=
  ⟨k.os.trans h.os, k.tape.trans h.tape, k.output.trans h.output, Nat.le_trans h.size k.size, fun j hj hS =>
    (k.block j (Nat.lt_of_lt_of_le hj h.size) (fun o ho e => by
      rcases hT o ho with h1 | h1
      · exact hS o h1 e
      · have := h1 j e; omega)).trans (h.block j hj hS)⟩
theorem Fr.ofBelow {w w' : World} (h : Below w.heap.size w w') (S : List (Option Nat)) : Fr w w' S := ⟨h.os, h.tape, h.output, h.size, fun k hk _ => h.block k hk⟩
theorem Fr.below {w w' : World} {S : List (Option Nat)} {B : Nat} (h : Fr w w' S) (hB : B ≤ w.heap.size) (hS : ∀ o ∈ S, ∀ j, o = some j → B ≤ j) : Below B w w' :=
  ⟨h.os, h.tape, h.output, h.size, fun k hk => h.block k (Nat.lt_of_lt_of_le hk hB) (fun o ho e => by have := hS o ho k e; omega)⟩
theorem Fr.ofGrown {w w' : World} {row : Option Nat} (h : w.grownBy w' row) : Fr w w' [row] := ⟨h.os, h.tape, h.output, h.size, fun k hk hS => h.block k hk (fun e => hS row (by simp) e.symm)⟩
theorem Fr.mono {w w' : World} {S T : List (Option Nat)} (h : Fr w w' S) (hS : ∀ o ∈ S, o ∈ T) : Fr w w' T := ⟨h.os, h.tape, h.output, h.size, fun k hk hT => h.block k hk (fun o ho => hT o (hS o ho))⟩
theorem Fr.set {w w' : World} {S : List (Option Nat)} (h : Fr w w' S) (a : Addr) (v : Value) (ha : some a.block ∈ S ∨ w.heap.size ≤ a.block) : Fr w (w'.setCell a v) S :=
  ⟨h.os, h.tape, h.output, by simpa using h.size, fun k hk hS => (heap_setCell_other w' a k v (by
    intro e
    rcases ha with h1 | h1
    · exact hS _ h1 (by rw [e])
    · omega)).trans (h.block k hk hS)⟩
theorem Fr.alloc {w w' : World} {S : List (Option Nat)} (h : Fr w w' S) (o : Obj) : Fr w (w'.alloc o) S :=
  ⟨h.os, h.tape, h.output, by have := h.size; simp; omega, fun k hk hS => (Below.heap_alloc _ _ _ (Nat.lt_of_lt_of_le hk h.size)).trans (h.block k hk hS)⟩
theorem Fr.drew {w w' : World} {S : List (Option Nat)} (h : Fr w w' S) : Fr w w'.drew S := ⟨h.os, h.tape, h.output, h.size, h.block⟩
/-- Two rows that aren't one. -/
def Apart (a b : Option Nat) : Prop := ∀ k, a = some k → b ≠ some k
theorem Apart.symm {a b : Option Nat} (h : Apart a b) : Apart b a := fun k e f => h k f e
theorem own_fr {w w' : World} {base : Nat} {e : TypeId} {size n : Nat} {v : Value} {xs : List Value} {S : List (Option Nat)} (h : w.ownsRow base e size v n xs) (hf : Fr w w' S) (hS : ∀ o ∈ S, Apart v.ownBlock o) : w'.ownsRow base e size v n xs := by
  refine ⟨h.1, ?_⟩
  rcases h.2 with h2 | ⟨g, cap, cur, rfl, hb, hg, r⟩
  · exact .inl h2
  · refine .inr ⟨g, cap, cur, rfl, hb, ?_, r⟩
    rw [hf.block g (Array.getElem?_eq_some_iff.1 hg).1 (fun o ho => hS o ho g rfl)]
    exact hg
/-- A row of another type than a block's is another block. -/
theorem own_apart {w : World} {h : Nat} {cells : Array Value} {T e : TypeId} {fz : Nat × Nat} {base n size : Nat} {v : Value} {xs : List Value} (hh : w.heap[h]? = some (.cells cells T fz)) (hT : T ≠ e) (ho : w.ownsRow base e size v n xs) : Apart v.ownBlock (some h) := by
  intro k hk e2
  cases e2
  rcases ho.2 with ⟨rfl, _⟩ | ⟨g, cap, cur, rfl, _, hg, _⟩
  · simp [Value.ownBlock] at hk
  · simp [Value.ownBlock] at hk
    subst hk
    rw [hh] at hg
    simp at hg
    exact hT hg.2.1
theorem own_apart2 {w : World} {e e' : TypeId} {base base' n n' size size' : Nat} {v v' : Value} {xs xs' : List Value} (he : e ≠ e') (h : w.ownsRow base e size v n xs) (h' : w.ownsRow base' e' size' v' n' xs') : Apart v.ownBlock v'.ownBlock := by
  intro k hk e2
  rcases h'.2 with ⟨rfl, _⟩ | ⟨g, cap, cur, rfl, _, hg, _⟩
  · simp [Value.ownBlock] at e2
  · simp [Value.ownBlock] at e2
    subst e2
    exact own_apart hg (Ne.symm he) h g hk rfl
theorem own_base0 {w : World} {base n : Nat} {e : TypeId} {size : Nat} {v : Value} {xs : List Value} (h : w.ownsRow base e size v n xs) : w.ownsRow 0 e size v n xs := own_mono h (Nat.zero_le _)
/-- The front of a row. -/
theorem own_front {w : World} {base n : Nat} {e : TypeId} {A : Option Addr} {c : Nat} {xs : List Value} (h : w.ownsRow base e 1 (.slice A n c) n xs) (m : Nat) (hm : m ≤ n) : w.ownsRow base e 1 (.slice A m c) m (xs.take m) := by
  refine ⟨by rw [List.length_take, h.1]; omega, ?_⟩
  rcases h.2 with ⟨h1, h2⟩ | ⟨g, cap, cur, h1, hb, hg, h3, h4, h5, h6⟩
  · simp at h1
    obtain ⟨rfl, rfl, rfl⟩ := h1
    exact .inl ⟨by rw [show m = 0 from by omega], by omega⟩
  · simp at h1
    obtain ⟨rfl, rfl⟩ := h1
    refine .inr ⟨g, c, cur, rfl, hb, hg, by omega, h4, h5, ?_⟩
    rw [← h6, List.take_take]
    congr 1
    omega
/-- A store into a row. -/
theorem own_store {w : World} {base n : Nat} {e : TypeId} {size : Nat} {g c : Nat} {xs : List Value} (h : w.ownsRow base e size (.slice (some ⟨g, 0, none⟩) n c) n xs) (j : Nat) (u : Value) :
    (w.setCell ⟨g, j, none⟩ u).ownsRow base e size (.slice (some ⟨g, 0, none⟩) n c) n (xs.set j u) := by
  refine ⟨by rw [List.length_set, h.1], ?_⟩
  rcases h.2 with ⟨h1, h2⟩ | ⟨g', cap, cur, h1, hb, hg, h3, h4, h5, h6⟩
  · cases h1
  · simp at h1
    obtain ⟨rfl, rfl⟩ := h1
    refine .inr ⟨g, c, cur.setIfInBounds j u, rfl, hb, ?_, h3, h4, by rw [Array.size_setIfInBounds, h5], ?_⟩
    · exact heap_setCell_same w g j _ _ _ hg
    · rw [Array.toList_setIfInBounds, List.take_set, h6]
/-- 'append' of one element that is built right ahead of it: where the row lies then, and what is left of old memory. -/
theorem wpList_app3 {P : Program} {wr : World} {ops : Array Oper} {rest : List Oper} {o : Oper} {a : Act} {Q : Exit → Act → World → Prop} (hgd : o.guard = none) (s x : Operand) {t : TypeId}
    (ho : o.op = .call { callee := .builtin .append, args := #[s, x], argTypes := #[t, t] })
    {base : Nat} {e : TypeId} {z : Value} {size bytes : Nat} (El : ElT P t e z size bytes) {v : Value} {n : Nat} {xs : List Value} (hown : wr.ownsRow base e size v n xs)
    (hs : a.eval s = v) {vs : Array Value} {T : TypeId} {bx : Nat} (hx : a.eval x = .slice (some ⟨bx, 0, none⟩) 1 1) (hbx : bx = wr.heap.size) (hl : vs.size = size) (h1 : vs.toList.all (fun u => u.oneCell') = true)
    (hbytes : (n + 1) * bytes ≤ 140737488355328) (hbase : base ≤ wr.heap.size)
    (h : ∀ g cap w', w'.ownsRow base e size (.slice (some ⟨g, 0, none⟩) (n + 1) cap) (n + 1) (xs ++ vs.toList) → Fr wr w' [v.ownBlock] → (v.ownBlock = some g ∨ wr.heap.size ≤ g) → g < w'.heap.size → wpList P ops Q rest (a.put o.dst (.slice (some ⟨g, 0, none⟩) (n + 1) cap)) w') : wpList P ops Q (o :: rest) a (wr.alloc (.cells vs T)) := by
  subst hbx
  obtain ⟨i0, hi, hz0, hz1, hz2⟩ := info_parts El.info
  have hn : n + 1 ≤ maxLen := by
    have := Nat.mul_le_mul_left (n + 1) El.bpos
    unfold maxLen
    omega
  refine wpList_append_lies _ hgd s x t ho base e i0 z size bytes El.und hi hz0 hz1 hz2 El.zs El.pos v n xs hs (hown.alloc _) ⟨wr.heap.size, 0, none⟩ 1 1 vs.toList hx (by simpa using hl) (news_at _ _ _) (fun u hu => List.all_eq_true.1 h1 u hu) (by omega) hn hbytes (by simp; omega) (wr.heap.size + 1) (by simp) ?_
  intro g cap w' h2 h3 h4 h5
  refine h g cap w' h2 (((Fr.refl wr [v.ownBlock]).alloc _).trans (Fr.ofGrown h3) (fun o ho => .inl ho)) ?_ h5
  rcases h4 with h4 | h4
  · exact .inl h4
  · exact .inr (by omega)
theorem Later.made {W0 W : World} (a : Addr) (u : Value) (ha : W0.heap.size ≤ a.block) (h : Later W0 W) : Later W0 (W.setCell a u) := ⟨h.bel.setCell ha u⟩
theorem Later.new {W0 W : World} (o : Obj) (h : Later W0 W) : Later W0 (W.alloc o) := h.alloc o
theorem Later.below {W0 W : World} (h : Later W0 W) : Below W0.heap.size W0 W := h.bel
end Go.Proofs.Ytdbkbeojedndbaa
/-
  Numbers in digits of seven bits (no program).
-/
namespace Go.Proofs.Ytdbkbeojedndbaa
open Go.RowKit

/-- The bytes of a number. -/
def lebU (n : Nat) : List Int := if n < 128 then [(n : Int)] else ((n % 128 + 128 : Nat) : Int) :: lebU (n / 128)
termination_by n
decreasing_by omega
theorem lebU_last {n : Nat} (h : n < 128) : lebU n = [(n : Int)] := by rw [lebU, if_pos h]
theorem lebU_more {n : Nat} (h : ¬ n < 128) : lebU n = ((n % 128 + 128 : Nat) : Int) :: lebU (n / 128) := by rw [lebU, if_neg h]
theorem lebU_byte : ∀ (n : Nat), ∀ x ∈ lebU n, 0 ≤ x ∧ x ≤ 255 := by
  intro n
  induction n using Nat.strongRecOn with
  | ind n ih =>
    intro x hx
    by_cases h : n < 128
    · rw [lebU_last h] at hx
      simp at hx
      omega
    · rw [lebU_more h] at hx
      rcases List.mem_cons.1 hx with e | e
      · omega
      · exact ih (n / 128) (by omega) x e
theorem lebU_len : ∀ (k n : Nat), n < 128 ^ (k + 1) → 1 ≤ (lebU n).length ∧ (lebU n).length ≤ k + 1 := by
  intro k
  induction k with
  | zero => intro n h; rw [lebU_last (by simpa using h)]; simp
  | succ k ih =>
    intro n h
    by_cases h1 : n < 128
    · rw [lebU_last h1]; simp
    · rw [lebU_more h1]
      have h2 := ih (n / 128) (by rw [Nat.div_lt_iff_lt_mul (by omega)]; rw [← Nat.pow_succ]; exact h)
      simp only [List.length_cons]
      omega
theorem lebU_10 {n : Nat} (h : n < 18446744073709551616) : 1 ≤ (lebU n).length ∧ (lebU n).length ≤ 10 := lebU_len 9 n (Nat.lt_of_lt_of_le h (by decide))
set_option maxRecDepth 100000 in
theorem or128 : ∀ y : Fin 256, bits .or .u8 ((y.val : Nat) : Int) 128 = ((y.val % 128 + 128 : Nat) : Int) := by decide +kernel
theorem or_128 {y : Int} (h : 0 ≤ y ∧ y < 256) : bits .or .u8 y 128 = y % 128 + 128 := by
  have := or128 ⟨y.toNat, by omega⟩
  simp only at this
  rw [show ((y.toNat : Nat) : Int) = y by omega] at this
  rw [this]
  omega
/-- A text's bytes as numbers. -/
def nums (s : ByteArray) : List Int := s.data.toList.map fun x => (x.toNat : Int)
theorem nums_length (s : ByteArray) : (nums s).length = s.size := by unfold nums; rw [List.length_map, Array.length_toList]; rfl
theorem nums_byte (s : ByteArray) : ∀ x ∈ nums s, 0 ≤ x ∧ x ≤ 255 := by
  intro x hx
  obtain ⟨u, _, rfl⟩ := List.mem_map.1 hx
  have := u.toNat_lt
  omega
theorem strCells_nums (s : ByteArray) : Lib.strCells s = ints .u8 (nums s) := by
  unfold Lib.strCells ints nums
  rw [List.map_map]
  rfl
theorem strOf_nums (s : ByteArray) : strOfNums (nums s) = s := by
  apply ByteArray.ext
  show ((nums s).map fun n => UInt8.ofNat n.toNat).toArray = s.data
  unfold nums
  rw [List.map_map]
  have : (s.data.toList.map ((fun n : Int => UInt8.ofNat n.toNat) ∘ fun x : UInt8 => (x.toNat : Int))) = s.data.toList := by
    conv => rhs; rw [← List.map_id s.data.toList]
    refine List.map_congr_left (fun x _ => ?_)
    simp
  rw [this]
end Go.Proofs.Ytdbkbeojedndbaa
/-
  Reading numbers in digits of seven bits (no program).
-/
namespace Go.Proofs.Ytdbkbeojedndbaa
open Go.RowKit

/-- How many bytes a number at the beginning has, or why there is none. -/
def IsSpan (b : List Int) (k : Nat) (e : Int) : Prop :=
  (e = 0 ∧ 1 ≤ k ∧ k ≤ 10 ∧ k ≤ b.length ∧ (∀ i, i + 1 < k → 128 ≤ rd b i) ∧ rd b (k - 1) < 128) ∨
  (k = 0 ∧ e = 3 ∧ 10 ≤ b.length ∧ ∀ i, i < 10 → 128 ≤ rd b i) ∨ (k = 0 ∧ e = 2 ∧ b.length < 10 ∧ ∀ i, i < b.length → 128 ≤ rd b i)
theorem IsSpan.same {b : List Int} {k k' : Nat} {e e' : Int} (h : IsSpan b k e) (g : IsSpan b k' e') : k = k' ∧ e = e' := by
  rcases h with ⟨rfl, h1, h2, h3, h4, h5⟩ | ⟨rfl, rfl, h1, h2⟩ | ⟨rfl, rfl, h1, h2⟩ <;>
    rcases g with ⟨rfl, g1, g2, g3, g4, g5⟩ | ⟨rfl, rfl, g1, g2⟩ | ⟨rfl, rfl, g1, g2⟩
  · refine ⟨?_, rfl⟩
    rcases Nat.lt_trichotomy k k' with e | e | e
    · have := g4 (k - 1) (by omega); omega
    · exact e
    · have := h4 (k' - 1) (by omega); omega
  · have := g2 (k - 1) (by omega); omega
  · have := g2 (k - 1) (by omega); omega
  · have := h2 (k' - 1) (by omega); omega
  · exact ⟨rfl, rfl⟩
  · omega
  · have := h2 (k' - 1) (by omega); omega
  · omega
  · exact ⟨rfl, rfl⟩
/-- The number that digits tell. -/
def valB : List Int → Nat
  | [] => 0
  | x :: l => (x % 128).toNat + 128 * valB l
theorem valB_app (a b : List Int) : valB (a ++ b) = valB a + 128 ^ a.length * valB b := by
  induction a with
  | nil => simp [valB]
  | cons x a ih =>
    rw [List.cons_append, valB, valB, ih, List.length_cons, Nat.pow_succ, Nat.mul_add, Nat.add_assoc, Nat.mul_left_comm, Nat.mul_assoc]
theorem valB_lt (a : List Int) : valB a < 128 ^ a.length := by
  induction a with
  | nil => simp [valB]
  | cons x a ih =>
    rw [valB, List.length_cons, Nat.pow_succ]
    have : (x % 128).toNat < 128 := by omega
    omega
theorem valB_leb : ∀ n : Nat, valB (lebU n) = n := by
  intro n
  induction n using Nat.strongRecOn with
  | ind n ih =>
    by_cases h : n < 128
    · rw [lebU_last h]
      simp [valB]
      omega
    · rw [lebU_more h, valB, ih (n / 128) (by omega)]
      omega
theorem leb_inj {n m : Nat} (h : lebU n = lebU m) : n = m := by rw [← valB_leb n, h, valB_leb]
theorem leb_of : ∀ (b : List Int), (∀ x ∈ b, 0 ≤ x ∧ x ≤ 255) → 1 ≤ b.length → (∀ i, i + 1 < b.length → 128 ≤ rd b i) → rd b (b.length - 1) < 128 → (lebU (valB b)).length = b.length → lebU (valB b) = b := by
  intro b
  induction b with
  | nil => intro _ h; simp at h
  | cons x b ih =>
    intro hb _ h1 h2 h3
    have hx := hb x (List.mem_cons_self ..)
    cases b with
    | nil =>
      have hx2 : x < 128 := h2
      have e : valB [x] = x.toNat := by simp [valB]; omega
      rw [e, lebU_last (by omega)]
      congr 1
      omega
    | cons y b =>
      have hx1 : 128 ≤ x := h1 0 (by simp)
      by_cases hn : valB (x :: y :: b) < 128
      · rw [lebU_last hn] at h3
        simp at h3
      · rw [lebU_more hn] at h3 ⊢
        have ed : valB (x :: y :: b) / 128 = valB (y :: b) := by rw [valB]; omega
        have em : valB (x :: y :: b) % 128 = (x % 128).toNat := by rw [valB]; omega
        rw [ed] at h3 ⊢
        rw [em, ih (fun z hz => hb z (List.mem_cons_of_mem _ hz)) (by simp) (fun i hi => h1 (i + 1) (by simp at hi ⊢; omega)) (show rd (y :: b) ((y :: b).length - 1) < 128 from h2) (by simpa using h3)]
        congr 1
        omega
theorem leb_last : ∀ n : Nat, rd (lebU n) ((lebU n).length - 1) < 128 ∧ ∀ i, i + 1 < (lebU n).length → 128 ≤ rd (lebU n) i := by
  intro n
  induction n using Nat.strongRecOn with
  | ind n ih =>
    by_cases h : n < 128
    · rw [lebU_last h]
      exact ⟨by show (n : Int) < 128; omega, fun i hi => by simp at hi⟩
    · obtain ⟨h1, h2⟩ := ih (n / 128) (by omega)
      rw [lebU_more h]
      have hl : 1 ≤ (lebU (n / 128)).length := by
        by_cases h9 : n / 128 < 128
        · rw [lebU_last h9]; simp
        · rw [lebU_more h9]; simp
      obtain ⟨q, hq⟩ : ∃ q, (lebU (n / 128)).length = q + 1 := ⟨_, (Nat.sub_add_cancel hl).symm⟩
      rw [hq] at h1 h2
      constructor
      · rw [List.length_cons, hq]
        exact h1
      · intro i hi
        cases i with
        | zero => show (128 : Int) ≤ ((n % 128 + 128 : Nat) : Int); omega
        | succ i => exact h2 i (by rw [List.length_cons, hq] at hi; omega)
theorem leb_ten {n : Nat} (hn : n < 18446744073709551616) (hl : (lebU n).length = 10) : rd (lebU n) 9 ≤ 1 := by
  have h1 := (leb_last n).1
  rw [hl] at h1
  have h1 : rd (lebU n) 9 < 128 := h1
  have e : lebU n = (lebU n).take 9 ++ [rd (lebU n) 9] := by
    have h := List.take_append_drop 9 (lebU n)
    rw [List.drop_eq_getElem_cons (by omega), List.drop_of_length_le (by omega)] at h
    rw [rd_getElem (by omega)]
    exact h.symm
  have hv := valB_leb n
  rw [e, valB_app, List.length_take, hl] at hv
  have hb := lebU_byte n (rd (lebU n) 9) (by rw [rd_getElem (by omega)]; exact List.getElem_mem _)
  have e9 : valB [rd (lebU n) 9] = (rd (lebU n) 9).toNat := by simp [valB]; omega
  rw [e9] at hv
  have : (128 : Nat) ^ min 9 10 = 9223372036854775808 := by decide
  rw [this] at hv
  omega
/-- What reading a number tells: the number, how many bytes, or why there is none. -/
def IsGet (b : List Int) (n k : Nat) (e : Int) : Prop :=
  ∃ s f, IsSpan b s f ∧ ((f ≠ 0 ∧ n = 0 ∧ k = 0 ∧ e = f) ∨ (f = 0 ∧ n < 18446744073709551616 ∧ lebU n = b.take s ∧ k = s ∧ e = 0) ∨ (f = 0 ∧ (∀ m, m < 18446744073709551616 → lebU m ≠ b.take s) ∧ n = 0 ∧ k = 0 ∧ e = 3))
theorem IsGet.same {b : List Int} {n k n' k' : Nat} {e e' : Int} (h : IsGet b n k e) (g : IsGet b n' k' e') : n = n' ∧ k = k' ∧ e = e' := by
  obtain ⟨s, f, h0, h⟩ := h
  obtain ⟨s', f', g0, g⟩ := g
  obtain ⟨rfl, rfl⟩ := h0.same g0
  rcases h with ⟨h1, rfl, rfl, rfl⟩ | ⟨rfl, h1, h2, rfl, rfl⟩ | ⟨rfl, h1, rfl, rfl, rfl⟩ <;>
    rcases g with ⟨g1, rfl, rfl, rfl⟩ | ⟨g9, g1, g2, rfl, rfl⟩ | ⟨g9, g1, rfl, rfl, rfl⟩
  · exact ⟨rfl, rfl, rfl⟩
  · exact absurd g9 h1
  · exact absurd g9 h1
  · exact absurd rfl g1
  · exact ⟨leb_inj (h2.trans g2.symm), rfl, rfl⟩
  · exact absurd h2 (g1 _ h1)
  · exact absurd rfl g1
  · exact absurd g2 (h1 _ g1)
  · exact ⟨rfl, rfl, rfl⟩
end Go.Proofs.Ytdbkbeojedndbaa
/-
  What GetU reckons (no program).
-/
namespace Go.Proofs.Ytdbkbeojedndbaa
open Go.RowKit

set_option maxRecDepth 100000 in
theorem and127f : ∀ y : Fin 256, bits .and .u8 ((y.val : Nat) : Int) 127 = ((y.val % 128 : Nat) : Int) := by decide +kernel
theorem and_127 {y : Int} (h : 0 ≤ y ∧ y ≤ 255) : bits .and .u8 y 127 = y % 128 := by
  have := and127f ⟨y.toNat, by omega⟩
  simp only at this
  rw [show ((y.toNat : Nat) : Int) = y by omega] at this
  rw [this]
  omega
theorem or_comm64 (a b : Int) : bits .or .u64 a b = bits .or .u64 b a := by simp only [bits, BitVec.or_comm]
theorem wraps64 (n : Int) (h0 : 0 ≤ n) (h1 : n < 2 ^ 64) : IntKind.u64.wrap n = n := by rw [IntKind.wrap_u64]; omega
theorem or_step {k : Nat} (hk : k ≤ 9) {q : Nat} (hq : q < 128 ^ k) {y : Int} (hy : 0 ≤ y ∧ y < 128) : bits .or .u64 q (IntKind.u64.wrap (IntKind.u64.wrap y * 2 ^ (7 * k))) = (((q + 128 ^ k * y.toNat) % 18446744073709551616 : Nat) : Int) := by
  rw [or_comm64, wraps64 y hy.1 (by omega)]
  have hw : IntKind.u64.wrap (y * 2 ^ (7 * k)) = (y * 2 ^ (7 * k)) % 18446744073709551616 := by rw [IntKind.wrap_u64]
  rw [hw]
  rcases (show k = 0 ∨ k = 1 ∨ k = 2 ∨ k = 3 ∨ k = 4 ∨ k = 5 ∨ k = 6 ∨ k = 7 ∨ k = 8 ∨ k = 9 by omega) with rfl | rfl | rfl | rfl | rfl | rfl | rfl | rfl | rfl | rfl
  · simp only [Nat.mul_zero, Int.pow_zero, Nat.pow_zero] at *
    rw [bits_join .u64 64 (by decide) wraps64 0 _ _ (by omega) (by omega) (by omega) (by omega) (by omega) (by omega)]
    omega
  all_goals
    simp only [Nat.reduceMul, Int.reducePow, Nat.reducePow] at *
  · rw [bits_join .u64 64 (by decide) wraps64 7 _ _ (by omega) (by omega) (by omega) (by omega) (by omega) (by omega)]; omega
  · rw [bits_join .u64 64 (by decide) wraps64 14 _ _ (by omega) (by omega) (by omega) (by omega) (by omega) (by omega)]; omega
  · rw [bits_join .u64 64 (by decide) wraps64 21 _ _ (by omega) (by omega) (by omega) (by omega) (by omega) (by omega)]; omega
  · rw [bits_join .u64 64 (by decide) wraps64 28 _ _ (by omega) (by omega) (by omega) (by omega) (by omega) (by omega)]; omega
  · rw [bits_join .u64 64 (by decide) wraps64 35 _ _ (by omega) (by omega) (by omega) (by omega) (by omega) (by omega)]; omega
  · rw [bits_join .u64 64 (by decide) wraps64 42 _ _ (by omega) (by omega) (by omega) (by omega) (by omega) (by omega)]; omega
  · rw [bits_join .u64 64 (by decide) wraps64 49 _ _ (by omega) (by omega) (by omega) (by omega) (by omega) (by omega)]; omega
  · rw [bits_join .u64 64 (by decide) wraps64 56 _ _ (by omega) (by omega) (by omega) (by omega) (by omega) (by omega)]; omega
  · rw [bits_join .u64 64 (by decide) wraps64 63 _ _ (by omega) (by omega) (by omega) (by omega) (by omega) (by omega)]; omega
theorem take_rdl {l : List Int} {k j : Nat} (h : j < k) : rd (l.take k) j = rd l j := by
  unfold rd
  rw [List.getD_eq_getElem?_getD, List.getD_eq_getElem?_getD, List.getElem?_take_of_lt h]
theorem take_rdn {b : List Int} {k : Nat} (h : k < b.length) : b.take (k + 1) = b.take k ++ [rd b k] := by
  rw [List.take_succ_eq_append_getElem h, rd_getElem h]
theorem valB_next {b : List Int} {k : Nat} (h : k < b.length) : valB (b.take (k + 1)) = valB (b.take k) + 128 ^ k * (rd b k % 128).toNat := by
  rw [take_rdn h, valB_app, List.length_take, Nat.min_eq_left (by omega)]
  simp [valB]
theorem pow9 {k : Nat} (h : k ≤ 9) : 128 ^ k ≤ 9223372036854775808 := Nat.le_trans (Nat.pow_le_pow_right (by decide) h) (by decide)
theorem valB_take_lt (b : List Int) (k : Nat) : valB (b.take k) < 128 ^ k := Nat.lt_of_lt_of_le (valB_lt _) (Nat.pow_le_pow_right (by decide) (by rw [List.length_take]; omega))
theorem step_val {b : List Int} {k : Nat} (hk : k ≤ 9) (h : k < b.length) {x : Int} (hx : x = rd b k) (hx0 : 0 ≤ x ∧ x ≤ 255) {q : Nat} (hq : q = valB (b.take k) % 18446744073709551616) :
    bits .or .u64 q (IntKind.u64.wrap (IntKind.u64.wrap (bits .and .u8 x 127) * 2 ^ (7 * k))) = ((valB (b.take (k + 1)) % 18446744073709551616 : Nat) : Int) := by
  have h1 := valB_take_lt b k
  have h2 := pow9 hk
  have h3 : valB (b.take k) % 18446744073709551616 = valB (b.take k) := Nat.mod_eq_of_lt (by omega)
  rw [hq, h3, and_127 hx0, or_step hk h1 (by omega), valB_next h, hx]
theorem get_none {b : List Int} {s q : Nat} (hs : IsSpan b s 0) (hq : q = valB (b.take s) % 18446744073709551616) (hl : (lebU q).length ≠ s) : IsGet b 0 0 3 := by
  refine ⟨s, 0, hs, .inr (.inr ⟨rfl, fun m hm e => hl ?_, rfl, rfl, rfl⟩)⟩
  have hv := valB_leb m
  rw [e] at hv
  have : q = m := by rw [hq, hv]; exact Nat.mod_eq_of_lt hm
  rw [this, e, List.length_take]
  rcases hs with ⟨_, _, _, h, _⟩ | ⟨_, h, _⟩ | ⟨_, h, _⟩
  · omega
  · omega
  · omega
theorem get_ten {b : List Int} (hs : IsSpan b 10 0) (h9 : 1 < rd b 9) : IsGet b 0 0 3 := by
  refine ⟨10, 0, hs, .inr (.inr ⟨rfl, fun m hm e => ?_, rfl, rfl, rfl⟩)⟩
  have hbl : 10 ≤ b.length := by
    rcases hs with ⟨_, _, _, h, _⟩ | ⟨_, h, _⟩ | ⟨_, h, _⟩ <;> omega
  have hl : (lebU m).length = 10 := by rw [e, List.length_take]; omega
  have h := leb_ten hm hl
  rw [e, take_rdl (by omega)] at h
  omega
theorem get_some {b : List Int} {s q : Nat} (hb : ∀ x ∈ b, 0 ≤ x ∧ x ≤ 255) (hs : IsSpan b s 0) (hq : q = valB (b.take s) % 18446744073709551616) (hl : (lebU q).length = s) (h9 : s = 10 → rd b 9 ≤ 1) : IsGet b q s 0 := by
  have hs' := hs
  rcases hs with ⟨_, h1, h2, h3, h4, h5⟩ | ⟨_, h, _⟩ | ⟨_, h, _⟩
  · have hV : valB (b.take s) < 18446744073709551616 := by
      by_cases h10 : s = 10
      · subst h10
        rw [valB_next (by omega)]
        have := valB_take_lt b 9
        have e : (128 : Nat) ^ 9 = 9223372036854775808 := by decide
        rw [e] at this ⊢
        have := h9 rfl
        have h0 := hb (rd b 9) (by rw [rd_getElem (by omega)]; exact List.getElem_mem _)
        omega
      · have := valB_take_lt b s
        have := pow9 (k := s) (by omega)
        omega
    have hqV : q = valB (b.take s) := by rw [hq]; exact Nat.mod_eq_of_lt hV
    have htl : (b.take s).length = s := by rw [List.length_take]; omega
    refine ⟨s, 0, hs', .inr (.inl ⟨rfl, by omega, ?_, rfl, rfl⟩)⟩
    rw [hqV]
    refine leb_of _ (fun x hx => hb x (List.mem_of_mem_take hx)) (by omega) (fun i hi => ?_) ?_ (by rw [htl, ← hqV, hl])
    · rw [take_rdl (by omega)]; exact h4 i (by omega)
    · rw [htl, take_rdl (by omega)]; exact h5
  · omega
  · omega
theorem get_err {b : List Int} {s : Nat} {f : Int} (hs : IsSpan b s f) (hf : f ≠ 0) : IsGet b 0 0 f := ⟨s, f, hs, .inl ⟨hf, rfl, rfl, rfl⟩⟩
end Go.Proofs.Ytdbkbeojedndbaa
/-
  Numbers that are put are read; fronts of them are not (no program).
-/
namespace Go.Proofs.Ytdbkbeojedndbaa
open Go.RowKit

theorem rd_app_l {a b : List Int} {i : Nat} (h : i < a.length) : rd (a ++ b) i = rd a i := by
  unfold rd
  rw [List.getD_eq_getElem?_getD, List.getD_eq_getElem?_getD, List.getElem?_append_left h]
/-- A number at the beginning is read. -/
theorem get_leb {n : Nat} (hn : n < 18446744073709551616) (R : List Int) : IsGet (lebU n ++ R) n (lebU n).length 0 := by
  obtain ⟨h1, h2⟩ := leb_last n
  have h3 := lebU_10 hn
  refine ⟨(lebU n).length, 0, .inl ⟨rfl, h3.1, h3.2, by rw [List.length_append]; omega, fun i hi => ?_, ?_⟩, .inr (.inl ⟨rfl, hn, ?_, rfl, rfl⟩)⟩
  · rw [rd_app_l (by omega)]; exact h2 i hi
  · rw [rd_app_l (by omega)]; exact h1
  · rw [List.take_left]
/-- A front of a number is none. -/
theorem get_front {n : Nat} (hn : n < 18446744073709551616) {k : Nat} (hk : k < (lebU n).length) : IsGet ((lebU n).take k) 0 0 2 := by
  obtain ⟨h1, h2⟩ := leb_last n
  have h3 := lebU_10 hn
  refine ⟨0, 2, .inr (.inr ⟨rfl, rfl, by rw [List.length_take]; omega, fun i hi => ?_⟩), .inl ⟨by decide, rfl, rfl, rfl⟩⟩
  rw [List.length_take] at hi
  have : rd ((lebU n).take k) i = rd (lebU n) i := take_rdl (by omega)
  rw [this]
  exact h2 i (by omega)
theorem isGet_rng {b : List Int} {n k : Nat} (h : IsGet b n k 0) : 1 ≤ k ∧ k ≤ 10 ∧ k ≤ b.length ∧ n < 18446744073709551616 := by
  obtain ⟨s, f, h0, h⟩ := h
  rcases h with ⟨h1, _, _, h2⟩ | ⟨rfl, h1, _, rfl, _⟩ | ⟨_, _, _, _, h⟩
  · exact absurd h2.symm h1
  · rcases h0 with ⟨_, q1, q2, q3, _⟩ | ⟨_, q, _⟩ | ⟨_, q, _⟩
    · exact ⟨q1, q2, q3, h1⟩
    · omega
    · omega
  · omega
end Go.Proofs.Ytdbkbeojedndbaa
