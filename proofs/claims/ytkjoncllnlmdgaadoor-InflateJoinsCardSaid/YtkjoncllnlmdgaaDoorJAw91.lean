/-
  Texts joined into one file: B, LzP, C, Toks, SymsP.
-/
import Derived.Test.YtkjoncllnlmdgaaDoorRows
import Derived.WalkKit
import Derived.WalkSpells
import Derived.WalkLawsBesides
import Derived.Deep.QuietTactic
import Derived.BigQuiet
import Derived.Lib.Hide
import Derived.Laws.StructEq
import Derived.KernelRfl
import Derived.SizedLaws
import Derived.ChangeSlices
import Derived.ProofKit
import Derived.OpenShut
import Derived.ChangeSame
/-
  Small laws that all walks use: what a call leaves of old memory; rows that the call owns; slices that are read.
-/
namespace Go.Proofs.YtkjoncllnlmdgaaDoor
open Go.RowKit

/-- What a call leaves of a block that was laid right ahead of it. -/
theorem laid_kept {w w' : World} {vs : Array Value} {T : TypeId} (hb : Below (w.alloc (Obj.cells vs T)).heap.size (w.alloc (Obj.cells vs T)) w') (i : Nat) (v : Value) (h : vs[i]? = some v) :
    w'.cell? ⟨w.heap.size, i, none⟩ = some v ∧ w'.frozen? ⟨w.heap.size, i, none⟩ = false :=
  ⟨(hb.cell (p := ⟨w.heap.size, i, none⟩) (by simp)).trans (by simp [h]), (hb.frozen (p := ⟨w.heap.size, i, none⟩) (by simp)).trans (by simp)⟩
theorem kept_cell {w w' : World} (hb : Below w.heap.size w w') {a : Addr} {v : Value} (h : w.cell? a = some v) : w'.cell? a = some v := (hb.cell (World.block_lt_of_cell? w a h)).trans h
theorem kept_new {w : World} {a : Addr} {v : Value} (h : w.cell? a = some v) (o : Obj) : (w.alloc o).cell? a = some v := kept_cell ((Below.refl _ _).alloc (Nat.le_refl _) _) h
theorem kept_new2 {w : World} {a : Addr} {v : Value} (h : w.cell? a = some v) (o o' : Obj) : ((w.alloc o).alloc o').cell? a = some v := kept_new (kept_new h o) o'
theorem below_seq {B : Nat} {w w1 w2 : World} (h : Below B w w1) (hB : B ≤ w.heap.size) (k : Below w1.heap.size w1 w2) : Below B w w2 := h.trans (k.mono (Nat.le_trans hB h.size))
theorem below_new {B : Nat} {w w1 : World} (h : Below B w w1) (hB : B ≤ w.heap.size) (o : Obj) : Below B w (w1.alloc o) := h.alloc (Nat.le_trans hB h.size) o

/-! ### rows that the call owns -/
theorem own_below {w w1 : World} {base : Nat} {e : TypeId} {size n : Nat} {v : Value} {xs : List Value} (h : w.ownsRow base e size v n xs) (hb : Below w.heap.size w w1) : w1.ownsRow base e size v n xs :=
  h.kept ⟨hb.os, hb.tape, hb.output, hb.size, fun i hi _ => hb.block i hi⟩ (row := none) (by cases v.ownBlock <;> simp)
theorem own_slice {w : World} {base n : Nat} {e : TypeId} {size : Nat} {v : Value} {xs : List Value} (h : w.ownsRow base e size v n xs) : ∃ A c, v = .slice A n c := by
  rcases h.2 with ⟨rfl, rfl⟩ | ⟨g, cap, cur, rfl, _⟩
  · exact ⟨none, 0, rfl⟩
  · exact ⟨_, cap, rfl⟩
/-- An owned row that isn't empty begins at the head of a block of the call's own. -/
theorem own_form {w : World} {base n : Nat} {e : TypeId} {size : Nat} {v : Value} {xs : List Value} (h : w.ownsRow base e size v n xs) (hn : 0 < n) :
    ∃ g c, v = .slice (some ⟨g, 0, none⟩) n c ∧ base ≤ g ∧ g < w.heap.size ∧ n ≤ c ∧ (∀ j u, xs[j]? = some u → w.cell? ⟨g, j, none⟩ = some u) ∧ ∀ j, w.frozen? ⟨g, j, none⟩ = false := by
  rcases h.2 with ⟨rfl, rfl⟩ | ⟨g, cap, cur, rfl, hb, hh, hc, _⟩
  · omega
  · refine ⟨g, cap, rfl, hb, (Array.getElem?_eq_some_iff.1 hh).1, hc, fun j u hj => ?_, fun j => h.frozenAt j⟩
    have hl : j < xs.length := (List.getElem?_eq_some_iff.1 hj).1
    rw [h.cellAt j (by rw [h.1] at hl; exact hl)]
    exact hj
theorem own_mono {w : World} {base base' n : Nat} {e : TypeId} {size : Nat} {v : Value} {xs : List Value} (h : w.ownsRow base e size v n xs) (hb : base' ≤ base) : w.ownsRow base' e size v n xs := by
  refine ⟨h.1, ?_⟩
  rcases h.2 with h2 | ⟨g, cap, cur, hv, hg, r⟩
  · exact .inl h2
  · exact .inr ⟨g, cap, cur, hv, Nat.le_trans hb hg, r⟩
/-- Behind an append to a row of the call's own. -/
theorem below_app {B : Nat} {w w1 w2 : World} {base : Nat} {e : TypeId} {size n : Nat} {v : Value} {xs : List Value} (h : Below B w w1) (hB : B ≤ w.heap.size) (ho : w1.ownsRow base e size v n xs) (hbase : B ≤ base) (hg : w1.grownBy w2 v.ownBlock) : Below B w w2 :=
  h.grown hg (Nat.le_trans hB h.size) (fun k hk => Nat.le_trans hbase (ho.lt k hk).1)
/-- The one new element that 'append(out, x)' lays ahead of it. -/
theorem news_at (w : World) (vs : Array Value) (T : TypeId) : ∀ j u, vs.toList[j]? = some u → (w.alloc (Obj.cells vs T)).cell? ((⟨w.heap.size, 0, none⟩ : Addr).add j) = some u := by
  intro j u hu
  have : (⟨w.heap.size, 0, none⟩ : Addr).add j = ⟨w.heap.size, j, none⟩ := by unfold Addr.add; split <;> simp_all
  rw [this]
  simpa using hu
/-! ### append of one element that is built right ahead of it -/
structure ElT (P : Program) (t e : TypeId) (z : Value) (size bytes : Nat) : Prop where
  und : P.underlying t = some (.slice e)
  info : (P.info? e).map (fun i => (i.zero, i.size, i.bytes)) = some (some z, size, bytes)
  zs : z.cells.size = size
  pos : 0 < size
  bpos : 0 < bytes
theorem wpList_app1 {P : Program} {wr : World} {ops : Array Oper} {rest : List Oper} {o : Oper} {a : Act} {Q : Exit → Act → World → Prop} (hgd : o.guard = none) (s x : Operand) {t : TypeId}
    (ho : o.op = .call { callee := .builtin .append, args := #[s, x], argTypes := #[t, t] })
    {base : Nat} {e : TypeId} {z : Value} {size bytes : Nat} (El : ElT P t e z size bytes) {v : Value} {n : Nat} {xs : List Value} (hown : wr.ownsRow base e size v n xs)
    (hs : a.eval s = v) {vs : Array Value} {T : TypeId} (hx : a.eval x = .slice (some ⟨wr.heap.size, 0, none⟩) 1 1) (hl : vs.size = size) (h1 : vs.toList.all (fun u => u.oneCell') = true)
    (hbytes : (n + 1) * bytes ≤ 140737488355328) (hbase : base ≤ wr.heap.size)
    (h : ∀ v' w', w'.ownsRow base e size v' (n + 1) (xs ++ vs.toList) → Below base wr w' → (wr.alloc (.cells vs T)).grownBy w' v.ownBlock → wpList P ops Q rest (a.put o.dst v') w') : wpList P ops Q (o :: rest) a (wr.alloc (.cells vs T)) := by
  obtain ⟨i0, hi, hz0, hz1, hz2⟩ := info_parts El.info
  have hn : n + 1 ≤ maxLen := by
    have := Nat.mul_le_mul_left (n + 1) El.bpos
    unfold maxLen
    omega
  refine wpList_append_own _ hgd s x t ho base e i0 z size bytes El.und hi hz0 hz1 hz2 El.zs El.pos v n xs hs (hown.alloc _) ⟨wr.heap.size, 0, none⟩ 1 1 vs.toList hx (by simpa using hl) (news_at _ _ _) (fun u hu => List.all_eq_true.1 h1 u hu) hn hbytes (by simp; omega) ?_
  intro v' w' h2 h3 _
  refine h v' w' h2 ?_ h3
  refine ((Below.refl base wr).alloc hbase _).grown h3 (by simp; omega) (fun k hk => (hown.lt k hk).1)
/-- The same where the block's number is spelled otherwise. -/
theorem wpList_app2 {P : Program} {wr : World} {ops : Array Oper} {rest : List Oper} {o : Oper} {a : Act} {Q : Exit → Act → World → Prop} (hgd : o.guard = none) (s x : Operand) {t : TypeId}
    (ho : o.op = .call { callee := .builtin .append, args := #[s, x], argTypes := #[t, t] })
    {base : Nat} {e : TypeId} {z : Value} {size bytes : Nat} (El : ElT P t e z size bytes) {v : Value} {n : Nat} {xs : List Value} (hown : wr.ownsRow base e size v n xs)
    (hs : a.eval s = v) {vs : Array Value} {T : TypeId} {bx : Nat} (hx : a.eval x = .slice (some ⟨bx, 0, none⟩) 1 1) (hbx : bx = wr.heap.size) (hl : vs.size = size) (h1 : vs.toList.all (fun u => u.oneCell') = true)
    (hbytes : (n + 1) * bytes ≤ 140737488355328) (hbase : base ≤ wr.heap.size)
    (h : ∀ v' w', w'.ownsRow base e size v' (n + 1) (xs ++ vs.toList) → Below base wr w' → (wr.alloc (.cells vs T)).grownBy w' v.ownBlock → wpList P ops Q rest (a.put o.dst v') w') : wpList P ops Q (o :: rest) a (wr.alloc (.cells vs T)) := by
  subst hbx
  exact wpList_app1 hgd s x ho El hown hs hx hl h1 hbytes hbase h
/-- Another row of the call's own lives on. -/
theorem own_other {w w' : World} {base : Nat} {e : TypeId} {size n : Nat} {v : Value} {xs : List Value} {o : Obj} {row : Option Nat} (h : w.ownsRow base e size v n xs) (hg : (w.alloc o).grownBy w' row) (hne : v.ownBlock = none ∨ v.ownBlock ≠ row) : w'.ownsRow base e size v n xs :=
  (h.alloc o).kept hg hne
/-- A later world: all that was there in W0 is there as it was. A fact in this form is a rule for the walk in whatever later world. -/
structure Later (W0 W : World) : Prop where
  bel : Below W0.heap.size W0 W
theorem Later.refl (W0 : World) : Later W0 W0 := ⟨Below.refl _ _⟩
theorem Later.drew {W0 W : World} (h : Later W0 W) : Later W0 W.drew := ⟨h.bel.drew⟩
theorem Later.step {W0 W W' : World} (h : Later W0 W) (k : Below W.heap.size W W') : Later W0 W' := ⟨below_seq h.bel (Nat.le_refl _) k⟩
theorem Later.alloc {W0 W : World} (h : Later W0 W) (o : Obj) : Later W0 (W.alloc o) := ⟨below_new h.bel (Nat.le_refl _) o⟩
theorem Later.cell {W0 : World} {a : Addr} {v : Value} (h : W0.cell? a = some v) : ∀ W, Later W0 W → W.cell? a = some v := fun _ k => kept_cell k.bel h
/-! ### '==' of structs, field by field -/
theorem eqFields_cons {P : Program} {d : Nat} {xs ys : Array Value} {f : Field} {fs : List Field} {a b : Value} {r s : Bool} {w : World} (hn : (f.name == "_") = false)
    (ha : (part f.type xs f.offset).run P w = .ok a w) (hb : (part f.type ys f.offset).run P w = .ok b w) (he : (Op.equalIn d f.type a b).run P w = .ok r w)
    (hr : (Op.eqFields d xs ys fs).run P w = .ok s w) : (Op.eqFields d xs ys (f :: fs)).run P w = .ok (r && s) w := by
  have hn' : f.name ≠ "_" := by simpa using hn
  rw [Op.eqFields]
  simp only [if_pos hn', Sem.run_bind, ha, hb, he, Result.andThen_ok]
  cases r
  · simp
  · simpa using hr
theorem eqFields_nil {P : Program} {d : Nat} {xs ys : Array Value} {w : World} : (Op.eqFields d xs ys []).run P w = .ok true w := by simp [Op.eqFields]
theorem eqStruct_of {P : Program} {d : Nat} {xs ys : Array Value} {t : TypeId} {fs : Array Field} {r : Bool} {w : World} (hu : P.underlying t = some (.struct fs)) (hp : P.stoodInHeld t = false) (h : (Op.eqFields d xs ys fs.toList).run P w = .ok r w) : (Op.equalIn (d + 1) t (.agg xs) (.agg ys)).run P w = .ok r w := by
  have hf : P.fieldsOf t = fs := by simp [Program.fieldsOf, hu]
  rw [run_equalIn_struct (P := P) w d t xs ys (by rw [hf]; exact hu) hp, hf]
  exact h
theorem eqInt_of {P : Program} {d : Nat} {t : TypeId} {k : IntKind} {w : World} (hu : P.underlying t = some (.int k)) (a b : Int) : (Op.equalIn (d + 1) t (.int k a) (.int k b)).run P w = .ok (a == b) w := by
  simp [Op.equalIn, run_underlying hu]
theorem binEql_of {P : Program} {t : TypeId} {xs ys : Array Value} {r : Bool} {w : World} (h : (Op.equalIn (9998 + 2) t (.agg xs) (.agg ys)).run P w = .ok r w) : (binOp .eql t (.agg xs) (.agg ys)).run P w = .ok (.bool r) w := by
  simp only [binOp]
  simp only [Op.equal, Op.maxDepth, Sem.run_bind]
  have h' : Sem.run P (Op.equalIn 10000 t (.agg xs) (.agg ys)) w = .ok r w := h
  rw [h']
  rfl
theorem below_drewN {B : Nat} {w w1 : World} (h : Below B w w1) (n : Nat) : Below B w (w1.drewN n) := ⟨h.os, h.tape, h.output, h.size, h.block⟩
/-- A block of three cells, a draw, three stores into it. -/
theorem drawn3 (w : World) (o : Obj) (n : Nat) (u0 u1 u2 : Value) : Below w.heap.size w (((((w.alloc o).drewN n).setCell ⟨w.heap.size, 0, none⟩ u0).setCell ⟨w.heap.size, 1, none⟩ u1).setCell ⟨w.heap.size, 2, none⟩ u2) :=
  (((below_drewN ((Below.refl _ _).alloc (Nat.le_refl _) o) n).setCell (Nat.le_refl _) u0).setCell (Nat.le_refl _) u1).setCell (Nat.le_refl _) u2
/-! ### slices of numbers that are read; blocks of numbers that the call made -/
def rd (xs : List Int) (j : Nat) : Int := xs.getD j 0
theorem rd_getElem {xs : List Int} {j : Nat} (h : j < xs.length) : rd xs j = xs[j] := by simp [rd, List.getD_eq_getElem?_getD, List.getElem?_eq_getElem h]
theorem rd_set {xs : List Int} {j m : Nat} {v : Int} (h : m < xs.length) : rd (xs.set m v) j = if m = j then v else rd xs j := by
  unfold rd
  simp only [List.getD_eq_getElem?_getD, List.getElem?_set]
  split
  · simp_all
  · rfl
/-- The slice reads as these numbers. -/
def Rd (w : World) (k : IntKind) (A : Option Addr) (n : Nat) (xs : List Int) : Prop :=
  xs.length = n ∧ (0 < n → ∃ b o, A = some ⟨b, o, none⟩ ∧ ∀ j, j < n → w.cell? ⟨b, o + j, none⟩ = some (.int k (rd xs j)))
theorem Rd.below {w w1 : World} {k : IntKind} {A : Option Addr} {n : Nat} {xs : List Int} (h : Rd w k A n xs) (hb : Below w.heap.size w w1) : Rd w1 k A n xs :=
  ⟨h.1, fun hn => by obtain ⟨b, o, e, hc⟩ := h.2 hn; exact ⟨b, o, e, fun j hj => kept_cell hb (hc j hj)⟩⟩
theorem Rd.drew {w : World} {k : IntKind} {A : Option Addr} {n : Nat} {xs : List Int} (h : Rd w k A n xs) : Rd w.drew k A n xs := h.below (Below.refl _ _).drew
theorem Rd.alloc {w : World} {k : IntKind} {A : Option Addr} {n : Nat} {xs : List Int} (h : Rd w k A n xs) (o : Obj) : Rd (w.alloc o) k A n xs := h.below ((Below.refl _ _).alloc (Nat.le_refl _) _)
def ints (k : IntKind) (l : List Int) : List Value := l.map (Value.int k)
theorem ints_length (k : IntKind) (l : List Int) : (ints k l).length = l.length := by simp [ints]
theorem ints_append (k : IntKind) (a b : List Int) : ints k (a ++ b) = ints k a ++ ints k b := by simp [ints]
theorem ints_set (k : IntKind) (l : List Int) (j : Nat) (v : Int) : ints k (l.set j v) = (ints k l).set j (.int k v) := by simp [ints, List.map_set]
theorem ints_get {k : IntKind} {l : List Int} {j : Nat} (h : j < l.length) : (ints k l)[j]? = some (.int k (rd l j)) := by simp [ints, rd_getElem h, List.getElem?_eq_getElem h]
theorem ints_one (k : IntKind) (l : List Int) : (ints k l).toArray.all (fun u => u.oneCell') = true := by simp [ints, Value.oneCell']
theorem ints_size (k : IntKind) (l : List Int) : (ints k l).toArray.size = l.length := by simp [ints]
/-- The block holds these numbers. -/
def Blk (w : World) (b : Nat) (T : TypeId) (k : IntKind) (l : List Int) : Prop := w.heap[b]? = some (.cells (ints k l).toArray T (0, 0))
theorem Blk.cell {w : World} {b : Nat} {T : TypeId} {k : IntKind} {l : List Int} (h : Blk w b T k l) {j : Nat} (hj : j < l.length) : w.cell? ⟨b, j, none⟩ = some (.int k (rd l j)) := by
  rw [cell_of_row w b j _ T (0, 0) h, List.getElem?_toArray, ints_get hj]
theorem Blk.frozen {w : World} {b : Nat} {T : TypeId} {k : IntKind} {l : List Int} (h : Blk w b T k l) (j : Nat) : w.frozen? ⟨b, j, none⟩ = false := frozen_of_row w b j _ T h
theorem Blk.set {w : World} {b : Nat} {T : TypeId} {k : IntKind} {l : List Int} (h : Blk w b T k l) (j : Nat) (v : Int) : Blk (w.setCell ⟨b, j, none⟩ (.int k v)) b T k (l.set j v) := by
  unfold Blk
  rw [heap_setCell_same w b j _ T _ h, ints_set]
  simp
theorem Blk.lt {w : World} {b : Nat} {T : TypeId} {k : IntKind} {l : List Int} (h : Blk w b T k l) : b < w.heap.size := (Array.getElem?_eq_some_iff.1 h).1
theorem Blk.other {w : World} {b : Nat} {T : TypeId} {k : IntKind} {l : List Int} (h : Blk w b T k l) (a : Addr) (v : Value) (hne : b ≠ a.block) : Blk (w.setCell a v) b T k l := (heap_setCell_other w a b v hne).trans h
theorem Blk.alloc {w : World} {b : Nat} {T : TypeId} {k : IntKind} {l : List Int} (h : Blk w b T k l) (o : Obj) : Blk (w.alloc o) b T k l := (Below.heap_alloc _ _ _ h.lt).trans h
theorem Blk.below {w w' : World} {b : Nat} {T : TypeId} {k : IntKind} {l : List Int} (h : Blk w b T k l) {B : Nat} (hb : Below B w w') (hB : b < B) : Blk w' b T k l := (hb.block b hB).trans h
theorem Blk.rd {w : World} {b : Nat} {T : TypeId} {k : IntKind} {l : List Int} (h : Blk w b T k l) {n : Nat} (hn : l.length = n) : Rd w k (some ⟨b, 0, none⟩) n l :=
  ⟨hn, fun _ => ⟨b, 0, rfl, fun j hj => by rw [Nat.zero_add]; exact h.cell (by omega)⟩⟩
/-- A row of numbers that the call owns reads as they are. -/
theorem own_rd {w : World} {base n : Nat} {e : TypeId} {k : IntKind} {v : Value} {xs : List Int} (h : w.ownsRow base e 1 v n (ints k xs)) : ∃ A c, v = .slice A n c ∧ n ≤ c ∧ Rd w k A n xs := by
  have hl : xs.length = n := by have := h.1; simpa [ints] using this
  rcases Nat.eq_zero_or_pos n with h0 | h0
  · obtain ⟨A, c, hv⟩ := own_slice h
    exact ⟨A, c, hv, by omega, hl, fun hp => by omega⟩
  · obtain ⟨g, c, hv, _, _, hc, hcell, _⟩ := own_form h h0
    exact ⟨_, c, hv, hc, hl, fun _ => ⟨g, 0, rfl, fun j hj => by rw [Nat.zero_add]; exact hcell j _ (ints_get (by omega))⟩⟩
theorem Blk.own {w : World} {b : Nat} {T : TypeId} {k : IntKind} {l : List Int} (h : Blk w b T k l) {n base : Nat} (hn : l.length = n) (hb : base ≤ b) (hm : n ≤ maxLen) : w.ownsRow base T 1 (.slice (some ⟨b, 0, none⟩) n n) n (ints k l) :=
  ⟨by rw [ints_length, hn, Nat.mul_one], .inr ⟨b, n, _, rfl, hb, h, Nat.le_refl _, hm, by simp [ints_length, hn], by simp; exact List.take_of_length_le (by rw [ints_length, hn]; exact Nat.le_refl _)⟩⟩
/-- 'make([]T, n)' of one-cell elements: n zeros are owned. -/
theorem wpList_mk1 {P : Program} (w : World) {ops : Array Oper} {rest : List Oper} {o : Oper} {a : Act} {Q : Exit → Act → World → Prop} (hg : o.guard = none) (l c : Operand) {t : TypeId} (hop : o.op = Op.makeSlice t l c)
    {base : Nat} {e : TypeId} {k : IntKind} {bytes : Nat} (El : ElT P t e (.int k 0) 1 bytes) {kl kc : IntKind} {L C : Int} {n : Nat} (hl : a.eval l = .int kl L) (hc : a.eval c = .int kc C) (hL : L = (n : Int)) (hC : C = (n : Int))
    (hbytes : bytes * n ≤ 140737488355328) (hbase : base ≤ w.heap.size)
    (hK : ∀ w', w'.ownsRow base e 1 (.slice (some ⟨w.heap.size, 0, none⟩) n n) n (ints k (List.replicate n 0)) → Below w.heap.size w w' → w'.heap.size = w.heap.size + 1 → wpList P ops Q rest (a.put o.dst (.slice (some ⟨w.heap.size, 0, none⟩) n n)) w') :
    wpList P ops Q (o :: rest) a w := by
  obtain ⟨i0, hi, hz0, hz1, hz2⟩ := info_parts El.info
  subst hL hC
  have hn : n ≤ maxLen := by
    have := Nat.mul_le_mul_right n El.bpos
    unfold maxLen
    omega
  have hn' : (n : Int) ≤ 9223372036854775807 := by unfold maxLen at hn; omega
  have hb' : (i0.bytes : Int) * n ≤ 281474976710656 := by
    rw [hz2]
    have h : ((bytes * n : Nat) : Int) ≤ 281474976710656 := by omega
    rwa [Int.natCast_mul] at h
  have hr := run_make (P := P) w t e i0 (.int k 0) El.und hi hz0 kl kc n n (by omega) (Int.le_refl _) hb' hn'
  simp only [Int.toNat_natCast] at hr
  refine wpList_plain hg fun K hK' => ?_
  unfold Oper.wp
  simp [execOp, hop, hl, hc, hr, Result.andThen]
  refine hK' _ _ (hK _ ?_ ((Below.refl _ _).alloc (Nat.le_refl _) _) (by simp))
  have hz : i0.size = 1 := hz1
  have e1 : (madeCells (Value.int k 0).cells (n * i0.size)).toList = ints k (List.replicate n 0) := by
    rw [hz, Nat.mul_one]
    show (madeCells #[Value.int k 0] n).toList = _
    rw [toList_madeCells_one]
    simp [ints]
  rw [← e1]
  exact World.ownsRow_lit w _ n hbase hn (by rw [size_madeCells, hz])
/-! ### a row's slices of numbers -/
def IsRow (k : IntKind) (w : World) (a : Option Addr) (len cap : Nat) (zs : List Int) : Prop :=
  (a = none ∧ len = 0 ∧ cap = 0 ∧ zs = []) ∨
  ∃ x, a = some x ∧ len ≤ cap ∧ cap ≤ maxLen ∧ zs.length = cap ∧ (∀ i, i < zs.length → w.cell? (x.add i) = some (.int k (zs.getD i 0))) ∧ ∀ n ∈ zs, (Lit.int k n).wf = true
theorem IsRow.rd {k : IntKind} {w : World} {a : Option Addr} {len cap : Nat} {zs : List Int} (h : IsRow k w a len cap zs) : Rd w k a len (zs.take len) := by
  rcases h with ⟨rfl, rfl, rfl, rfl⟩ | ⟨⟨b, o, s⟩, rfl, hl, hm, hz, hc, hw⟩
  · exact ⟨rfl, fun h => by omega⟩
  · refine ⟨by simp; omega, fun hn => ?_⟩
    have hs : s = none := by simpa [Addr.add] using World.cell?_spot (hc 0 (by omega))
    subst hs
    refine ⟨b, o, rfl, fun j hj => ?_⟩
    have e : (⟨b, o, none⟩ : Addr).add j = ⟨b, o + j, none⟩ := by unfold Addr.add; split <;> simp_all
    have := hc j (by omega)
    rw [e] at this
    rw [this, rd_getElem (by simp; omega)]
    simp [List.getD_eq_getElem?_getD, List.getElem?_eq_getElem (show j < zs.length by omega)]
theorem IsRow.wf {k : IntKind} {w : World} {a : Option Addr} {len cap : Nat} {zs : List Int} (h : IsRow k w a len cap zs) : ∀ j, j < len → (Lit.int k (Go.Proofs.YtkjoncllnlmdgaaDoor.rd (zs.take len) j)).wf = true := by
  intro j hj
  rcases h with ⟨rfl, rfl, rfl, rfl⟩ | ⟨x, rfl, hl, hm, hz, hc, hw⟩
  · omega
  · rw [rd_getElem (by simp; omega)]
    exact hw _ (List.mem_of_mem_take (List.getElem_mem _))
theorem u8_of_wf {n : Int} (h : (Lit.int .u8 n).wf = true) : 0 ≤ n ∧ n ≤ 255 := by
  simp [Lit.wf, IntKind.min, IntKind.max, IntKind.signed, IntKind.bits] at h
  omega
theorem u16_of_wf {n : Int} (h : (Lit.int .u16 n).wf = true) : 0 ≤ n ∧ n ≤ 65535 := by
  simp [Lit.wf, IntKind.min, IntKind.max, IntKind.signed, IntKind.bits] at h
  omega
theorem IsRow.u8 {w : World} {a : Option Addr} {len cap : Nat} {zs : List Int} (h : IsRow .u8 w a len cap zs) : ∀ j, j < len → 0 ≤ Go.Proofs.YtkjoncllnlmdgaaDoor.rd (zs.take len) j ∧ Go.Proofs.YtkjoncllnlmdgaaDoor.rd (zs.take len) j ≤ 255 := fun j hj => u8_of_wf (h.wf j hj)
/-- A row's slice of whole numbers is no longer than its weight allows. -/
theorem sized_ints {H : Type} {enc : TypeId × Value → H} {P : Program} {W : World} {base : Nat} {spare : Nat → Bool} {held : Bool} {t e : TypeId} {k : IntKind} {a : Option Addr} {len cap : Nat} {d : DataW H} {ps : List MemPlace} {ts : List TypeId} {ds : List (DataW H)} {j : Nat}
    (hsz : (DataW.weightsEach P ts ds).all (· ≤ reachBytes) = true) (ht : ts[j]? = some t) (hd : ds[j]? = some d) (hu : P.underlying t = some (.slice e)) (he : P.underlying e = some (.int k)) (hc : P.cellsOf e = 1) {B : Nat} (hB : P.bytesOf e = B)
    (h : DataW.Trod enc P W base spare held t (.slice a len cap) d ps) : len * B ≤ 140737488351232 := by
  obtain ⟨fuel, hf⟩ := h
  rcases Go.ChangeShapes.open_ints hu he hc hf with ⟨hcs, _⟩ | ⟨x, l, c, zs, hcs, _, hl, _, hz, hx, _, _⟩
  · simp [Value.cells] at hcs
    obtain ⟨rfl, rfl, rfl⟩ := hcs
    simp
  · simp [Value.cells] at hcs
    obtain ⟨rfl, rfl, rfl⟩ := hcs
    obtain ⟨hx, _⟩ := Prod.mk.inj hx
    subst hx
    have z := sized_slice hsz ht hd hu
    rw [hB] at z
    have hlz : len ≤ zs.length := by rw [hz]; split <;> omega
    have hsum : (Go.ChangeShapes.lits (H := H) k (zs.take len)).length + (Go.ChangeShapes.lits (H := H) k (zs.drop len)).length = zs.length := by
      simp [Go.ChangeShapes.lits]
      omega
    rw [hsum] at z
    exact Nat.le_trans (Nat.mul_le_mul_right _ hlz) z
end Go.Proofs.YtkjoncllnlmdgaaDoor
/-
  Plain: the tokens that bytes are told by: the longest match among all distances, the nearest of these; the same by a chain of places where three bytes stood.
-/
namespace Go.Proofs.YtkjoncllnlmdgaaDoor
open Go.RowKit

def sameFrom (b : List Int) (p q : Nat) : Nat → Nat → Nat
  | 0, n => n
  | f + 1, n => if q + n < b.length ∧ rd b (p + n) = rd b (q + n) then sameFrom b p q f (n + 1) else n
/-- How many bytes at two places are the same, at most 258. -/
def sameN (b : List Int) (p q : Nat) : Nat := sameFrom b p q 258 0
theorem sameFrom_rng (b : List Int) (p q : Nat) : ∀ f n, n ≤ sameFrom b p q f n ∧ sameFrom b p q f n ≤ n + f := by
  intro f
  induction f with
  | zero => intro n; exact ⟨Nat.le_refl _, Nat.le_refl _⟩
  | succ f ih =>
    intro n
    unfold sameFrom
    split
    · have := ih (n + 1); omega
    · omega
theorem sameN_le (b : List Int) (p q : Nat) : sameN b p q ≤ 258 := by
  have := (sameFrom_rng b p q 258 0).2
  unfold sameN
  omega
theorem sameFrom_eq (b : List Int) (p q : Nat) : ∀ f n j, n ≤ j → j < sameFrom b p q f n → q + j < b.length ∧ rd b (p + j) = rd b (q + j) := by
  intro f
  induction f with
  | zero => intro n j h1 h2; unfold sameFrom at h2; omega
  | succ f ih =>
    intro n j h1 h2
    unfold sameFrom at h2
    split at h2
    · rename_i hc
      rcases Nat.lt_or_ge n j with g | g
      · exact ih (n + 1) j g h2
      · obtain rfl : j = n := by omega
        exact hc
    · omega
theorem sameN_eq (b : List Int) (p q j : Nat) (h : j < sameN b p q) : q + j < b.length ∧ rd b (p + j) = rd b (q + j) := sameFrom_eq b p q 258 0 j (Nat.zero_le _) h
theorem sameN_three {b : List Int} {p q : Nat} (hq : q + 3 ≤ b.length) (h0 : rd b p = rd b q) (h1 : rd b (p + 1) = rd b (q + 1)) (h2 : rd b (p + 2) = rd b (q + 2)) : 3 ≤ sameN b p q := by
  have e : sameN b p q = sameFrom b p q 255 3 := by
    unfold sameN
    show sameFrom b p q (257 + 1) 0 = _
    rw [sameFrom, if_pos ⟨by omega, h0⟩]
    show sameFrom b p q (256 + 1) 1 = _
    rw [sameFrom, if_pos ⟨by omega, h1⟩]
    show sameFrom b p q (255 + 1) 2 = _
    rw [sameFrom, if_pos ⟨by omega, h2⟩]
  rw [e]
  exact (sameFrom_rng b p q 255 3).1
def bestTo (b : List Int) (i : Nat) : Nat → Nat × Nat
  | 0 => (0, 0)
  | d + 1 => if (bestTo b i d).1 < sameN b (i - (d + 1)) i then (sameN b (i - (d + 1)) i, d + 1) else bestTo b i d
/-- The longest match at a place, the nearest of these. -/
def bestM (b : List Int) (i : Nat) : Nat × Nat := bestTo b i (min i 32768)
theorem bestTo_le (b : List Int) (i : Nat) : ∀ d, (bestTo b i d).1 ≤ 258 ∧ (bestTo b i d).2 ≤ d := by
  intro d
  induction d with
  | zero => exact ⟨Nat.zero_le _, Nat.le_refl _⟩
  | succ d ih =>
    unfold bestTo
    split
    · exact ⟨sameN_le _ _ _, Nat.le_refl _⟩
    · exact ⟨ih.1, Nat.le_succ_of_le ih.2⟩
theorem bestTo_match (b : List Int) (i : Nat) : ∀ d, 0 < (bestTo b i d).1 → 1 ≤ (bestTo b i d).2 ∧ (bestTo b i d).1 = sameN b (i - (bestTo b i d).2) i := by
  intro d
  induction d with
  | zero => intro h; exact absurd h (Nat.lt_irrefl _)
  | succ d ih =>
    unfold bestTo
    split
    · intro _; exact ⟨Nat.succ_le_succ (Nat.zero_le _), rfl⟩
    · exact ih
/-- What a match of fewer than three bytes counts for: nothing. -/
def cl (m : Nat × Nat) : Nat × Nat := if m.1 < 3 then (0, 0) else m
theorem cl_step (b : List Int) (i d : Nat) : cl (bestTo b i (d + 1)) = if 3 ≤ sameN b (i - (d + 1)) i ∧ (cl (bestTo b i d)).1 < sameN b (i - (d + 1)) i then (sameN b (i - (d + 1)) i, d + 1) else cl (bestTo b i d) := by
  generalize hs : sameN b (i - (d + 1)) i = s
  generalize hm : bestTo b i d = m
  have e : bestTo b i (d + 1) = if m.1 < s then (s, d + 1) else m := by
    show (if (bestTo b i d).1 < sameN b (i - (d + 1)) i then (sameN b (i - (d + 1)) i, d + 1) else bestTo b i d) = _
    rw [hs, hm]
  rw [e]
  unfold cl
  rcases Nat.lt_or_ge m.1 s with g | g <;> rcases Nat.lt_or_ge m.1 3 with g3 | g3 <;> rcases Nat.lt_or_ge s 3 with s3 | s3
  · rw [if_pos g, if_pos s3, if_pos g3, if_neg (by omega)]
  · rw [if_pos g, if_neg (Nat.not_lt.2 s3), if_pos g3, if_pos ⟨s3, by show 0 < s; omega⟩]
  · omega
  · rw [if_pos g, if_neg (Nat.not_lt.2 s3), if_neg (Nat.not_lt.2 g3), if_pos ⟨s3, g⟩]
  · rw [if_neg (Nat.not_lt.2 g), if_pos g3, if_neg (by omega)]
  · omega
  · rw [if_neg (Nat.not_lt.2 g), if_neg (Nat.not_lt.2 g3), if_neg (by omega)]
  · rw [if_neg (Nat.not_lt.2 g), if_neg (Nat.not_lt.2 g3), if_neg (fun h => absurd h.2 (Nat.not_lt.2 g))]
theorem cl_gap (b : List Int) (i c : Nat) (hc : c ≤ i) : ∀ k, k ≤ c → (∀ p, c - k ≤ p → p < c → sameN b p i < 3) → cl (bestTo b i (i - (c - k))) = cl (bestTo b i (i - c)) := by
  intro k
  induction k with
  | zero => intro _ _; rfl
  | succ k ih =>
    intro hk h
    rw [← ih (by omega) (fun p h1 h2 => h p (by omega) h2)]
    have e : i - (c - (k + 1)) = (i - (c - k)) + 1 := by omega
    rw [e, cl_step]
    have e2 : i - (i - (c - k) + 1) = c - (k + 1) := by omega
    rw [e2, if_neg (fun hh => absurd hh.1 (Nat.not_le.2 (h (c - (k + 1)) (Nat.le_refl _) (by omega))))]
theorem best_full (b : List Int) (i d : Nat) (h : (bestTo b i d).1 = 258) : ∀ k, bestTo b i (d + k) = bestTo b i d := by
  intro k
  induction k with
  | zero => rfl
  | succ k ih =>
    show (if (bestTo b i (d + k)).1 < sameN b (i - (d + k + 1)) i then (sameN b (i - (d + k + 1)) i, d + k + 1) else bestTo b i (d + k)) = _
    rw [ih, if_neg]
    have := sameN_le b (i - (d + k + 1)) i
    omega
/-- Where three bytes stood last ahead of a place; -1: nowhere. -/
def lastAt (b : List Int) (x y z : Int) : Nat → Int
  | 0 => -1
  | p + 1 => if p + 3 ≤ b.length ∧ rd b p = x ∧ rd b (p + 1) = y ∧ rd b (p + 2) = z then (p : Int) else lastAt b x y z p
def prevAt (b : List Int) (p : Nat) : Int := if p + 3 ≤ b.length then lastAt b (rd b p) (rd b (p + 1)) (rd b (p + 2)) p else -1
theorem lastAt_cases (b : List Int) (x y z : Int) : ∀ c, (lastAt b x y z c = -1 ∧ ∀ p, p < c → p + 3 ≤ b.length → ¬ (rd b p = x ∧ rd b (p + 1) = y ∧ rd b (p + 2) = z)) ∨ ∃ p : Nat, p < c ∧ lastAt b x y z c = p ∧ p + 3 ≤ b.length ∧ (rd b p = x ∧ rd b (p + 1) = y ∧ rd b (p + 2) = z) ∧ ∀ q, p < q → q < c → q + 3 ≤ b.length → ¬ (rd b q = x ∧ rd b (q + 1) = y ∧ rd b (q + 2) = z) := by
  intro c
  induction c with
  | zero => exact .inl ⟨rfl, fun p h => by omega⟩
  | succ c ih =>
    unfold lastAt
    split
    · rename_i h
      exact .inr ⟨c, Nat.lt_succ_self _, rfl, h.1, h.2, fun q h1 h2 => by omega⟩
    · rename_i h
      rcases ih with ⟨e, h2⟩ | ⟨p, hp, e, h3, h4, h5⟩
      · refine .inl ⟨e, fun p hp h3 hh => ?_⟩
        rcases Nat.lt_or_ge p c with g | g
        · exact h2 p g h3 hh
        · obtain rfl : p = c := by omega
          exact h ⟨h3, hh⟩
      · refine .inr ⟨p, by omega, e, h3, h4, fun q h6 h7 h8 hh => ?_⟩
        rcases Nat.lt_or_ge q c with g | g
        · exact h5 q h6 g h8 hh
        · obtain rfl : q = c := by omega
          exact h ⟨h8, hh⟩
/-- The chain's state: all places from c on are looked at. -/
structure Find (b : List Int) (i c : Nat) (at' : Int) (m : Nat × Nat) : Prop where
  le : c ≤ i
  far : i - c ≤ 32768
  last : at' = lastAt b (rd b i) (rd b (i + 1)) (rd b (i + 2)) c
  best : m = cl (bestTo b i (i - c))
theorem not_key {b : List Int} {p i : Nat} (hp : p < i) (hi : i + 3 ≤ b.length) (h : p + 3 ≤ b.length → ¬ (rd b p = rd b i ∧ rd b (p + 1) = rd b (i + 1) ∧ rd b (p + 2) = rd b (i + 2))) : sameN b p i < 3 := by
  refine Nat.not_le.1 fun hn => ?_
  have e0 := (sameN_eq b p i 0 (by omega)).2
  have e1 := (sameN_eq b p i 1 (by omega)).2
  have e2 := (sameN_eq b p i 2 (by omega)).2
  exact h (by omega) ⟨e0, e1, e2⟩
theorem Find.start (b : List Int) (i : Nat) : Find b i i (lastAt b (rd b i) (rd b (i + 1)) (rd b (i + 2)) i) (0, 0) :=
  ⟨Nat.le_refl _, by omega, rfl, by rw [Nat.sub_self]; rfl⟩
theorem Find.next {b : List Int} {i c p : Nat} {m : Nat × Nat} (hi : i + 3 ≤ b.length) (h : Find b i c (p : Int) m) (hf : i - p ≤ 32768) :
    p < c ∧ p + 3 ≤ b.length ∧ Find b i p (prevAt b p) (if m.1 < sameN b p i then (sameN b p i, i - p) else m) := by
  rcases lastAt_cases b (rd b i) (rd b (i + 1)) (rd b (i + 2)) c with ⟨e, _⟩ | ⟨p', hp, e, h3, h4, h5⟩
  · have := h.last.trans e; omega
  · have e0 : (p : Int) = p' := h.last.trans e
    obtain rfl : p = p' := by omega
    refine ⟨hp, h3, by have := h.le; omega, hf, ?_, ?_⟩
    · unfold prevAt
      rw [if_pos h3, h4.1, h4.2.1, h4.2.2]
    · have hle := h.le
      have g := cl_gap b i c h.le (c - (p + 1)) (by omega) (fun q h6 h7 => not_key (by omega) hi (fun h8 => h5 q (by omega) h7 h8))
      have e1 : i - (c - (c - (p + 1))) = i - p - 1 := by omega
      rw [e1, ← h.best] at g
      have s3 := sameN_three (p := p) hi h4.1 h4.2.1 h4.2.2
      have k := cl_step b i (i - p - 1)
      have e2 : i - p - 1 + 1 = i - p := by omega
      have e3 : i - (i - p) = p := by omega
      rw [e2, e3, g] at k
      rw [k]
      by_cases hm : m.1 < sameN b p i
      · rw [if_pos hm, if_pos ⟨s3, hm⟩]
      · rw [if_neg hm, if_neg (fun hh => hm hh.2)]
theorem Find.stop {b : List Int} {i c : Nat} {at' : Int} {m : Nat × Nat} (hi : i + 3 ≤ b.length) (h : Find b i c at' m) (he : at' < 0 ∨ 32768 < (i : Int) - at' ∨ 258 ≤ m.1) : m = cl (bestM b i) := by
  have hle := h.le
  have hfar := h.far
  unfold bestM
  by_cases hm : 258 ≤ m.1
  · have hb := h.best
    have h258 : (bestTo b i (i - c)).1 = 258 := by
      have l := (bestTo_le b i (i - c)).1
      rw [hb] at hm
      unfold cl at hm
      split at hm
      · exact absurd hm (by decide)
      · omega
    have e : min i 32768 = (i - c) + (min i 32768 - (i - c)) := by omega
    rw [e, best_full b i _ h258, hb]
  · rcases lastAt_cases b (rd b i) (rd b (i + 1)) (rd b (i + 2)) c with ⟨e, h2⟩ | ⟨p, hp, e, h3, h4, h5⟩
    · have g := cl_gap b i c hle (c - (i - min i 32768)) (by omega) (fun q h6 h7 => not_key (by omega) hi (fun h8 => h2 q h7 h8))
      have e1 : i - (c - (c - (i - min i 32768))) = min i 32768 := by omega
      rw [e1] at g
      rw [g, h.best]
    · have ea := h.last.trans e
      have hpf : 32768 < i - p := by omega
      have g := cl_gap b i c hle (c - (i - 32768)) (by omega) (fun q h6 h7 => not_key (by omega) hi (fun h8 => h5 q (by omega) h7 h8))
      have e1 : i - (c - (c - (i - 32768))) = min i 32768 := by omega
      rw [e1] at g
      rw [g, h.best]
theorem best_short {b : List Int} {i : Nat} (hi : ¬ i + 3 ≤ b.length) : cl (bestM b i) = (0, 0) := by
  unfold cl
  rw [if_pos]
  refine Nat.not_le.1 fun h => ?_
  have m := bestTo_match b i (min i 32768) (by unfold bestM at h; omega)
  unfold bestM at h
  have := (sameN_eq b (i - (bestTo b i (min i 32768)).2) i 2 (by omega)).1
  omega
/-- The tokens from a place on. -/
def pressFrom (b : List Int) : Nat → Nat → List (Int × Int × Int)
  | 0, _ => []
  | f + 1, i => if i < b.length then (if (bestM b i).1 < 3 then (rd b i, 0, 0) :: pressFrom b f (i + 1) else (0, ((bestM b i).1 : Int), ((bestM b i).2 : Int)) :: pressFrom b f (i + (bestM b i).1)) else []
def pressL (b : List Int) : List (Int × Int × Int) := pressFrom b b.length 0
theorem pressFrom_end (b : List Int) (f i : Nat) (h : b.length ≤ i) : pressFrom b f i = [] := by
  cases f with
  | zero => rfl
  | succ f => unfold pressFrom; rw [if_neg (Nat.not_lt.2 h)]
/-- A match as it may be. -/
theorem bestM_rng {b : List Int} {i : Nat} (h : 3 ≤ (bestM b i).1) : (bestM b i).1 ≤ 258 ∧ 1 ≤ (bestM b i).2 ∧ (bestM b i).2 ≤ 32768 ∧ (bestM b i).2 ≤ i ∧ i + (bestM b i).1 ≤ b.length ∧ ∀ j, j < (bestM b i).1 → rd b (i + j) = rd b (i - (bestM b i).2 + j) := by
  have l := bestTo_le b i (min i 32768)
  have m := bestTo_match b i (min i 32768) (by unfold bestM at h; omega)
  unfold bestM at h ⊢
  refine ⟨l.1, m.1, by omega, by omega, ?_, fun j hj => ?_⟩
  · have := (sameN_eq b (i - (bestTo b i (min i 32768)).2) i ((bestTo b i (min i 32768)).1 - 1) (by omega)).1
    omega
  · exact (sameN_eq b (i - (bestTo b i (min i 32768)).2) i j (by omega)).2.symm
theorem pressFrom_ok {b : List Int} (hb : ∀ j, j < b.length → 0 ≤ rd b j ∧ rd b j ≤ 255) : ∀ f i, ∀ t ∈ pressFrom b f i, (t.2.1 = 0 ∧ t.2.2 = 0 ∧ 0 ≤ t.1 ∧ t.1 ≤ 255) ∨ (t.1 = 0 ∧ 3 ≤ t.2.1 ∧ t.2.1 ≤ 258 ∧ 1 ≤ t.2.2 ∧ t.2.2 ≤ 32768) := by
  intro f
  induction f with
  | zero => intro i t ht; cases ht
  | succ f ih =>
    intro i t ht
    unfold pressFrom at ht
    split at ht
    · rename_i hi
      split at ht
      · rcases List.mem_cons.1 ht with rfl | h
        · exact .inl ⟨rfl, rfl, hb i hi⟩
        · exact ih _ t h
      · rename_i h3
        rcases List.mem_cons.1 ht with rfl | h
        · have r := bestM_rng (b := b) (i := i) (by omega)
          exact .inr ⟨rfl, by show (3 : Int) ≤ ((bestM b i).1 : Int); omega, by show ((bestM b i).1 : Int) ≤ 258; omega, by show (1 : Int) ≤ ((bestM b i).2 : Int); omega, by show ((bestM b i).2 : Int) ≤ 32768; omega⟩
        · exact ih _ t h
    · cases ht
theorem pressFrom_length (b : List Int) : ∀ f i, (pressFrom b f i).length ≤ f := by
  intro f
  induction f with
  | zero => intro i; exact Nat.le_refl _
  | succ f ih =>
    intro i
    unfold pressFrom
    split
    · split
      · rw [List.length_cons]; exact Nat.succ_le_succ (ih _)
      · rw [List.length_cons]; exact Nat.succ_le_succ (ih _)
    · exact Nat.zero_le _
end Go.Proofs.YtkjoncllnlmdgaaDoor
/-
  More small laws that walks use: 'make' in a region that draws.
-/
namespace Go.Proofs.YtkjoncllnlmdgaaDoor
open Go.RowKit

/-- 'make' as a rule for the walk: for a region that draws. -/
theorem make_rule {P : Program} {t e : TypeId} {k : IntKind} {bytes : Nat} (El : ElT P t e (.int k 0) 1 bytes) (n : Nat) (L : Int) (hL : L = n) (hbytes : bytes * n ≤ 140737488355328) :
    ∃ (o : Obj) (l : List Int), (∀ w : World, Sem.run P (Instr.makeSlice t (.int .i64 L) (.int .i64 L)) w = .ok (.slice (some ⟨w.heap.size, 0, none⟩) n n) (w.alloc o)) ∧ Hid (l = List.replicate n 0) ∧
      Hid (∀ (w : World) (g base : Nat), g = w.heap.size → base ≤ g → (w.alloc o).ownsRow base e 1 (.slice (some ⟨g, 0, none⟩) n n) n (ints k l)) := by
  obtain ⟨i0, hi, hz0, hz1, hz2⟩ := info_parts El.info
  subst hL
  have hn : n ≤ maxLen := by
    have := Nat.mul_le_mul_right n El.bpos
    unfold maxLen
    omega
  have hn' : (n : Int) ≤ 9223372036854775807 := by unfold maxLen at hn; omega
  have hb' : (i0.bytes : Int) * n ≤ 281474976710656 := by
    rw [hz2]
    have h : ((bytes * n : Nat) : Int) ≤ 281474976710656 := by omega
    rwa [Int.natCast_mul] at h
  refine ⟨Obj.cells (madeCells (Value.int k 0).cells (n * i0.size)) e, List.replicate n 0, fun w => ?_, rfl, ?_⟩
  · have hr := run_make (P := P) w t e i0 (.int k 0) El.und hi hz0 .i64 .i64 n n (by omega) (Int.le_refl _) hb' hn'
    simp only [Int.toNat_natCast] at hr
    exact hr
  · show ∀ (w : World) (g base : Nat), g = w.heap.size → base ≤ g → _
    intro w g base hg hbase
    subst hg
    have hz : i0.size = 1 := hz1
    have e1 : (madeCells (Value.int k 0).cells (n * i0.size)).toList = ints k (List.replicate n 0) := by
      rw [hz, Nat.mul_one]
      show (madeCells #[Value.int k 0] n).toList = _
      rw [toList_madeCells_one]
      simp [ints]
    rw [← e1]
    exact World.ownsRow_lit w _ n hbase hn (by rw [size_madeCells, hz])
end Go.Proofs.YtkjoncllnlmdgaaDoor
/-
  Slices of tokens (a byte, a length, a distance) as rows hold them.
-/
namespace Go.Proofs.YtkjoncllnlmdgaaDoor
open Go.RowKit

abbrev Tok := Int × Int × Int
def tokB (ts : List Tok) (j : Nat) : Int := (ts.getD j (0, 0, 0)).1
def tokL (ts : List Tok) (j : Nat) : Int := (ts.getD j (0, 0, 0)).2.1
def tokD (ts : List Tok) (j : Nat) : Int := (ts.getD j (0, 0, 0)).2.2
def Toks (w : World) (A : Option Addr) (n : Nat) (ts : List Tok) : Prop :=
  ts.length = n ∧ (0 < n → ∃ b o, A = some ⟨b, o, none⟩ ∧ ∀ j, j < n → w.cell? ⟨b, o + j * 3, none⟩ = some (.int .u8 (tokB ts j)) ∧ w.cell? ⟨b, o + j * 3 + 1, none⟩ = some (.int .i64 (tokL ts j)) ∧ w.cell? ⟨b, o + j * 3 + 2, none⟩ = some (.int .i64 (tokD ts j)))
theorem Toks.below {w w1 : World} {A : Option Addr} {n : Nat} {ts : List Tok} (h : Toks w A n ts) (hb : Below w.heap.size w w1) : Toks w1 A n ts :=
  ⟨h.1, fun hn => by obtain ⟨b, o, e, hc⟩ := h.2 hn; exact ⟨b, o, e, fun j hj => ⟨kept_cell hb (hc j hj).1, kept_cell hb (hc j hj).2.1, kept_cell hb (hc j hj).2.2⟩⟩⟩
def TokWf (ts : List Tok) (n : Nat) : Prop := ∀ j, j < n → (0 ≤ tokB ts j ∧ tokB ts j ≤ 255) ∧ (-9223372036854775808 ≤ tokL ts j ∧ tokL ts j ≤ 9223372036854775807) ∧ (-9223372036854775808 ≤ tokD ts j ∧ tokD ts j ≤ 9223372036854775807)

theorem list_choice {P : Nat → Tok → Prop} (n : Nat) (h : ∀ j, j < n → ∃ x, P j x) : ∃ l : List Tok, l.length = n ∧ ∀ j, j < n → P j (l.getD j (0, 0, 0)) := by
  have h' : ∀ j, ∃ x, j < n → P j x := fun j => by
    by_cases hj : j < n
    · obtain ⟨x, hx⟩ := h j hj; exact ⟨x, fun _ => hx⟩
    · exact ⟨(0, 0, 0), fun hh => absurd hh hj⟩
  have ⟨f, hf⟩ := Classical.axiomOfChoice h'
  refine ⟨(List.range n).map f, by simp, fun j hj => ?_⟩
  have : ((List.range n).map f).getD j (0, 0, 0) = f j := by simp [List.getD_eq_getElem?_getD, List.getElem?_range hj]
  rw [this]
  exact hf j hj
theorem i64_of_wf {n : Int} (h : (Lit.int .i64 n).wf = true) : -9223372036854775808 ≤ n ∧ n ≤ 9223372036854775807 := by
  simp [Lit.wf, IntKind.min, IntKind.max, IntKind.signed, IntKind.bits] at h
  omega
theorem toks_of_trod {H : Type} {enc : TypeId × Value → H} {P : Program} {w : World} {base : Nat} {sp : Nat → Bool} {held : Bool} {t e : TypeId} {f0 f1 f2 : Field} {v : Value} {d : DataW H} {p : List MemPlace}
    (ht : P.underlying t = some (.slice e)) (he : P.underlying e = some (.struct #[f0, f1, f2])) (o0 : f0.offset = 0) (o1 : f1.offset = 1) (o2 : f2.offset = 2) (k0 : P.underlying f0.type = some (.int .u8)) (k1 : P.underlying f1.type = some (.int .i64)) (k2 : P.underlying f2.type = some (.int .i64))
    (c0 : P.cellsOf f0.type = 1) (c1 : P.cellsOf f1.type = 1) (c2 : P.cellsOf f2.type = 1) (ce : P.cellsOf e = 3) (hv : ∃ A n c, v = .slice A n c)
    (h : DataW.Trod enc P w base sp held t v d p) :
    ∃ A n c ts, v = .slice A n c ∧ n ≤ maxLen ∧ Toks w A n ts ∧ TokWf ts n := by
  obtain ⟨fuel, hf⟩ := h
  obtain ⟨A, n, c, rfl⟩ := hv
  rcases DataW.trod_slice ht hf with ⟨hcs, _⟩ | ⟨a, len, cap, elems, rest, m, _, hcs, _, hb, hl, hm, hlen, hel, _, _⟩
  · simp [Value.cells] at hcs
    obtain ⟨rfl, rfl, rfl⟩ := hcs
    exact ⟨none, 0, 0, [], rfl, by simp [maxLen], ⟨rfl, fun hh => by omega⟩, fun j hj => by omega⟩
  · simp [Value.cells] at hcs
    obtain ⟨rfl, rfl, rfl⟩ := hcs
    obtain ⟨b, o, s⟩ := a
    have each : ∀ j, j < n → ∃ x : Tok, (w.cell? ((⟨b, o, s⟩ : Addr).add (j * 3)) = some (.int .u8 x.1) ∧ w.cell? (((⟨b, o, s⟩ : Addr).add (j * 3)).add 1) = some (.int .i64 x.2.1) ∧ w.cell? (((⟨b, o, s⟩ : Addr).add (j * 3)).add 2) = some (.int .i64 x.2.2)) ∧ (Lit.int .u8 x.1).wf = true ∧ (Lit.int .i64 x.2.1).wf = true ∧ (Lit.int .i64 x.2.2).wf = true := by
      intro j hj
      have hz := hel j hj
      rw [ce, List.getElem?_eq_getElem (show j < elems.length by omega)] at hz
      obtain ⟨cs, hcs, hz⟩ := Option.bind_eq_some_iff.1 hz
      obtain ⟨_, hcl, hcc⟩ := World.cells?_some hcs
      obtain ⟨xs, m', _, _, _, hxl, hx⟩ := DataW.trod_struct he hz
      have hxl3 : xs.length = 3 := by simpa using hxl
      match cs, hcl with
      | [y0, y1, y2], _ =>
        have g0 := hx 0 f0 rfl
        have g1 := hx 1 f1 rfl
        have g2 := hx 2 f2 rfl
        rw [List.getElem?_eq_getElem (by omega), o0, c0] at g0
        rw [List.getElem?_eq_getElem (by omega), o1, c1] at g1
        rw [List.getElem?_eq_getElem (by omega), o2, c2] at g2
        obtain ⟨n0, e0, _, q0⟩ := DataW.trod_int k0 g0
        obtain ⟨n1, e1, _, q1⟩ := DataW.trod_int k1 g1
        obtain ⟨n2, e2, _, q2⟩ := DataW.trod_int k2 g2
        simp at e0 e1 e2
        subst e0 e1 e2
        have a0 := hcc 0 (by omega)
        have a1 := hcc 1 (by omega)
        have a2 := hcc 2 (by omega)
        exact ⟨(n0, n1, n2), ⟨by simpa [Addr.add] using a0, by simpa using a1, by simpa using a2⟩, q0, q1, q2⟩
    obtain ⟨ts, htl, hts⟩ := list_choice n each
    refine ⟨_, n, c, ts, rfl, by omega, ⟨htl, fun hn => ?_⟩, fun j hj => ?_⟩
    · have hs : s = none := by simpa [Addr.add] using World.cell?_spot (hts 0 hn).1.1
      subst hs
      refine ⟨b, o, rfl, fun j hj => ?_⟩
      have ad : ∀ (x k : Nat), (⟨b, x, none⟩ : Addr).add k = ⟨b, x + k, none⟩ := fun x k => by unfold Addr.add; split <;> simp_all
      have := (hts j hj).1
      rw [ad, ad, ad] at this
      exact this
    · obtain ⟨_, q0, q1, q2⟩ := hts j hj
      exact ⟨u8_of_wf q0, i64_of_wf q1, i64_of_wf q2⟩
end Go.Proofs.YtkjoncllnlmdgaaDoor
/-
  Plain facts about the tables of symbols (no program): the rows, the search from behind, the search from ahead.
-/
namespace Go.Proofs.YtkjoncllnlmdgaaDoor

def rowL (rows : List (Int × Int)) (k : Nat) : Int := (rows.getD k (0, 0)).1
def rowB (rows : List (Int × Int)) (k : Nat) : Int := (rows.getD k (0, 0)).2
/-- The last of the first k rows that isn't above n; 0, if there is none. -/
def lastLe (rows : List (Int × Int)) (n : Int) : Nat → Nat
  | 0 => 0
  | k + 1 => if rowL rows k ≤ n then k else lastLe rows n k

theorem lastLe_lt (rows : List (Int × Int)) (n : Int) (k : Nat) (h : 0 < k) : lastLe rows n k < k := by
  induction k with
  | zero => omega
  | succ k ih =>
    simp only [lastLe]; split
    · omega
    · rcases Nat.eq_zero_or_pos k with rfl | hk
      · simp [lastLe]
      · have := ih hk; omega

theorem lastLe_hit (rows : List (Int × Int)) (n : Int) (k : Nat) (h : rowL rows k ≤ n) : lastLe rows n (k + 1) = k := by simp [lastLe, h]
theorem lastLe_miss (rows : List (Int × Int)) (n : Int) (k : Nat) (h : n < rowL rows k) : lastLe rows n (k + 1) = lastLe rows n k := by
  simp only [lastLe]; rw [if_neg (by omega)]
theorem lastLe_one (rows : List (Int × Int)) (n : Int) : lastLe rows n 1 = 0 := by simp [lastLe]

def lens : List (Int × Int) := [(3, 0), (4, 0), (5, 0), (6, 0), (7, 0), (8, 0), (9, 0), (10, 0), (11, 1), (13, 1), (15, 1), (17, 1), (19, 2), (23, 2), (27, 2), (31, 2), (35, 3), (43, 3), (51, 3), (59, 3), (67, 4), (83, 4), (99, 4), (115, 4), (131, 5), (163, 5), (195, 5), (227, 5), (258, 0)]
def dists : List (Int × Int) := [(1, 0), (2, 0), (3, 0), (4, 0), (5, 1), (7, 1), (9, 2), (13, 2), (17, 3), (25, 3), (33, 4), (49, 4), (65, 5), (97, 5), (129, 6), (193, 6), (257, 7), (385, 7), (513, 8), (769, 8), (1025, 9), (1537, 9), (2049, 10), (3073, 10), (4097, 11), (6145, 11), (8193, 12), (12289, 12), (16385, 13), (24577, 13)]
theorem lens_length : lens.length = 29 := rfl
theorem dists_length : dists.length = 30 := rfl

/-- The symbol's number, its bits, and what follows, of n. -/
def symS (first : Int) (rows : List (Int × Int)) (n : Int) : Int := first + (lastLe rows n rows.length : Nat)
def symB (rows : List (Int × Int)) (n : Int) : Int := rowB rows (lastLe rows n rows.length)
def symX (rows : List (Int × Int)) (n : Int) : Int := n - rowL rows (lastLe rows n rows.length)
def clampL (n : Int) : Int := if n < 3 then 3 else if 258 < n then 258 else n
def clampD (n : Int) : Int := if n < 1 then 1 else if 32768 < n then 32768 else n

theorem all_lt {p : Nat → Bool} {n : Nat} (h : (List.range n).all p = true) (k : Nat) (hk : k < n) : p k = true := List.all_eq_true.1 h k (List.mem_range.2 hk)

theorem lens_range (j : Nat) (h : j < 29) : 3 ≤ rowL lens j ∧ rowL lens j ≤ 258 ∧ 0 ≤ rowB lens j ∧ rowB lens j ≤ 5 := by
  have := all_lt (p := fun j => decide (3 ≤ rowL lens j ∧ rowL lens j ≤ 258 ∧ 0 ≤ rowB lens j ∧ rowB lens j ≤ 5)) (n := 29) (by decide) j h
  simpa using this
theorem dists_range (j : Nat) (h : j < 30) : 1 ≤ rowL dists j ∧ rowL dists j ≤ 24577 ∧ 0 ≤ rowB dists j ∧ rowB dists j ≤ 13 := by
  have := all_lt (p := fun j => decide (1 ≤ rowL dists j ∧ rowL dists j ≤ 24577 ∧ 0 ≤ rowB dists j ∧ rowB dists j ≤ 13)) (n := 30) (by decide) j h
  simpa using this

/-- Where the first row isn't above n, what is found isn't. -/
theorem lastLe_le (rows : List (Int × Int)) (n : Int) (k : Nat) (h0 : rowL rows 0 ≤ n) : rowL rows (lastLe rows n k) ≤ n := by
  induction k with
  | zero => simpa [lastLe] using h0
  | succ k ih => simp only [lastLe]; split <;> assumption

theorem clampL_range (n : Int) : 3 ≤ clampL n ∧ clampL n ≤ 258 := by unfold clampL; split <;> (try split) <;> omega
theorem clampD_range (n : Int) : 1 ≤ clampD n ∧ clampD n ≤ 32768 := by unfold clampD; split <;> (try split) <;> omega

theorem lastLe_mono (rows : List (Int × Int)) (n m : Int) (h : n ≤ m) (k : Nat) : lastLe rows n k ≤ lastLe rows m k := by
  induction k with
  | zero => simp [lastLe]
  | succ k ih =>
    have h0 : lastLe rows n k ≤ k := by
      rcases Nat.eq_zero_or_pos k with rfl | hk
      · simp [lastLe]
      · have := lastLe_lt rows n k hk; omega
    simp only [lastLe]
    split
    · rw [if_pos (by omega)]; exact Nat.le_refl _
    · split
      · exact h0
      · exact ih
/-- A greater number has no lesser symbol; of one symbol it has what follows more. -/
theorem sym_rise (first : Int) (rows : List (Int × Int)) (n m : Int) (h : n ≤ m) : symS first rows n < symS first rows m ∨ symS first rows n = symS first rows m ∧ symX rows n ≤ symX rows m := by
  have h1 := lastLe_mono rows n m h rows.length
  unfold symS symX
  rcases Nat.lt_or_ge (lastLe rows n rows.length) (lastLe rows m rows.length) with h2 | h2
  · left; omega
  · right
    have h3 : lastLe rows n rows.length = lastLe rows m rows.length := by omega
    rw [h3]
    exact ⟨rfl, by omega⟩
theorem clampL_mono {n m : Int} (h : n ≤ m) : clampL n ≤ clampL m := by unfold clampL; split <;> split <;> (try split) <;> (try split) <;> omega
theorem clampD_mono {n m : Int} (h : n ≤ m) : clampD n ≤ clampD m := by unfold clampD; split <;> split <;> (try split) <;> (try split) <;> omega
theorem clampL_lo {n : Int} (h : n < 3) : clampL n = 3 := if_pos h
theorem clampL_hi {n : Int} (h : 258 < n) : clampL n = 258 := by unfold clampL; rw [if_neg (by omega), if_pos h]
theorem clampL_in {n : Int} (h : 3 ≤ n) (h2 : n ≤ 258) : clampL n = n := by unfold clampL; rw [if_neg (by omega), if_neg (by omega)]
theorem clampD_lo {n : Int} (h : n < 1) : clampD n = 1 := if_pos h
theorem clampD_hi {n : Int} (h : 32768 < n) : clampD n = 32768 := by unfold clampD; rw [if_neg (by omega), if_pos h]
theorem clampD_in {n : Int} (h : 1 ≤ n) (h2 : n ≤ 32768) : clampD n = n := by unfold clampD; rw [if_neg (by omega), if_neg (by omega)]
theorem symL_range (n : Int) (h : 3 ≤ n) (h2 : n ≤ 258) : 257 ≤ symS 257 lens n ∧ symS 257 lens n ≤ 285 ∧ 0 ≤ symB lens n ∧ symB lens n ≤ 5 ∧ 0 ≤ symX lens n ∧ symX lens n ≤ 255 := by
  have h1 := lastLe_lt lens n lens.length (by decide)
  have h3 := lastLe_le lens n lens.length (by show (3 : Int) ≤ n; exact h)
  have h4 := lens_range (lastLe lens n lens.length) h1
  have h5 : lens.length = 29 := rfl
  unfold symS symB symX
  omega
theorem symD_range (n : Int) (h : 1 ≤ n) (h2 : n ≤ 32768) : 0 ≤ symS 0 dists n ∧ symS 0 dists n ≤ 29 ∧ 0 ≤ symB dists n ∧ symB dists n ≤ 13 ∧ 0 ≤ symX dists n ∧ symX dists n ≤ 32767 := by
  have h1 := lastLe_lt dists n dists.length (by decide)
  have h3 := lastLe_le dists n dists.length (by show (1 : Int) ≤ n; exact h)
  have h4 := dists_range (lastLe dists n dists.length) h1
  have h5 : dists.length = 30 := rfl
  unfold symS symB symX
  omega
/-- Behind what is found every row is above n. -/
theorem lastLe_gt (rows : List (Int × Int)) (n : Int) (k j : Nat) (h : lastLe rows n k < j) (hj : j < k) : n < rowL rows j := by
  induction k with
  | zero => omega
  | succ k ih =>
    simp only [lastLe] at h
    split at h
    · omega
    · rename_i hn
      rcases Nat.lt_or_ge j k with h2 | h2
      · exact ih h h2
      · obtain rfl : j = k := by omega
        omega
theorem lens_step : ∀ k : Nat, k < 29 → (k + 1 < 29 → rowL lens (k + 1) ≤ rowL lens k + 2 ^ (rowB lens k).toNat) ∧ (k + 1 = 29 → 258 < rowL lens k + 2 ^ (rowB lens k).toNat) := by decide +kernel
theorem dists_step : ∀ k : Nat, k < 30 → (k + 1 < 30 → rowL dists (k + 1) ≤ rowL dists k + 2 ^ (rowB dists k).toNat) ∧ (k + 1 = 30 → 32768 < rowL dists k + 2 ^ (rowB dists k).toNat) := by decide +kernel
theorem symXL_lt (n : Int) (h : 3 ≤ n) (h2 : n ≤ 258) : symX lens n < 2 ^ (symB lens n).toNat := by
  have h1 := lastLe_lt lens n lens.length (by decide)
  have h3 := lens_step (lastLe lens n lens.length) h1
  unfold symX symB
  rw [lens_length] at *
  rcases Nat.lt_or_ge (lastLe lens n 29 + 1) 29 with h4 | h4
  · have h5 := lastLe_gt lens n 29 (lastLe lens n 29 + 1) (by omega) h4
    have := h3.1 h4
    omega
  · have := h3.2 (by omega)
    omega
theorem symXD_lt (n : Int) (h : 1 ≤ n) (h2 : n ≤ 32768) : symX dists n < 2 ^ (symB dists n).toNat := by
  have h1 := lastLe_lt dists n dists.length (by decide)
  have h3 := dists_step (lastLe dists n dists.length) h1
  unfold symX symB
  rw [dists_length] at *
  rcases Nat.lt_or_ge (lastLe dists n 30 + 1) 30 with h4 | h4
  · have h5 := lastLe_gt dists n 30 (lastLe dists n 30 + 1) (by omega) h4
    have := h3.1 h4
    omega
  · have := h3.2 (by omega)
    omega
end Go.Proofs.YtkjoncllnlmdgaaDoor
