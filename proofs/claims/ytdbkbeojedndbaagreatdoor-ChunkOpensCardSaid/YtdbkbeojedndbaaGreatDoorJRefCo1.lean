/-
  Texts joined into one file: B, SameB, HuffW, HuffP, C, HuffC.
-/
import Derived.Test.YtdbkbeojedndbaaGreatDoorRows
import Derived.WalkKit
import Derived.WalkSpells
import Derived.WalkLawsBesides
import Derived.Deep.QuietTactic
import Derived.BigQuiet
import Derived.Lib.Hide
import Derived.Laws.StructEq
import Derived.KernelRfl
import Derived.SizedLaws
import Derived.ChangeSlices
import Derived.Laws.Tables
import Derived.IntWalk
namespace Go.Proofs.YtdbkbeojedndbaaGreatDoor
open Go.RowKit

theorem laid_kept {w w' : World} {vs : Array Value} {T : TypeId} (hb : Below (w.alloc (Obj.cells vs T)).heap.size (w.alloc (Obj.cells vs T)) w') (i : Nat) (v : Value) (h : vs[i]? = some v) :
  w'.cell? ⟨w.heap.size, i, none⟩ = some v ∧ w'.frozen? ⟨w.heap.size, i, none⟩ = false :=
 ⟨(hb.cell (p := ⟨w.heap.size, i, none⟩) (by simp)).trans (by simp [h]), (hb.frozen (p := ⟨w.heap.size, i, none⟩) (by simp)).trans (by simp)⟩
theorem kept_cell {w w' : World} (hb : Below w.heap.size w w') {a : Addr} {v : Value} (h : w.cell? a = some v) : w'.cell? a = some v := (hb.cell (World.block_lt_of_cell? w a h)).trans h
theorem kept_new {w : World} {a : Addr} {v : Value} (h : w.cell? a = some v) (o : Obj) : (w.alloc o).cell? a = some v := kept_cell ((Below.refl _ _).alloc (Nat.le_refl _) _) h
theorem kept_new2 {w : World} {a : Addr} {v : Value} (h : w.cell? a = some v) (o o' : Obj) : ((w.alloc o).alloc o').cell? a = some v := kept_new (kept_new h o) o'
theorem below_seq {B : Nat} {w w1 w2 : World} (h : Below B w w1) (hB : B ≤ w.heap.size) (k : Below w1.heap.size w1 w2) : Below B w w2 := h.trans (k.mono (Nat.le_trans hB h.size))
theorem below_new {B : Nat} {w w1 : World} (h : Below B w w1) (hB : B ≤ w.heap.size) (o : Obj) : Below B w (w1.alloc o) := h.alloc (Nat.le_trans hB h.size) o

/-! ### rows that the call owns -/
theorem own_below {w w1 : World} {base : Nat} {e : TypeId} {size n : Nat} {v : Value} {xs : List Value} (h : w.ownsRow base e size v n xs) (hb : Below w.heap.size w w1) : w1.ownsRow base e size v n xs :=
 h.kept ⟨hb.os, hb.tape, hb.output, hb.size, fun i hi _ => hb.block i hi⟩ (row := none) (by cases v.ownBlock <;> simp)
theorem own_slice {w : World} {base n : Nat} {e : TypeId} {size : Nat} {v : Value} {xs : List Value} (h : w.ownsRow base e size v n xs) : ∃ A c, v = .slice A n c := by
 rcases h.2 with ⟨rfl, rfl⟩ | ⟨g, cap, cur, rfl, _⟩
 ·exact ⟨none, 0, rfl⟩
 ·exact ⟨_, cap, rfl⟩
theorem own_form {w : World} {base n : Nat} {e : TypeId} {size : Nat} {v : Value} {xs : List Value} (h : w.ownsRow base e size v n xs) (hn : 0 < n) :
  ∃ g c, v = .slice (some ⟨g, 0, none⟩) n c ∧ base ≤ g ∧ g < w.heap.size ∧ n ≤ c ∧ (∀ j u, xs[j]? = some u → w.cell? ⟨g, j, none⟩ = some u) ∧ ∀ j, w.frozen? ⟨g, j, none⟩ = false := by
 rcases h.2 with ⟨rfl, rfl⟩ | ⟨g, cap, cur, rfl, hb, hh, hc, _⟩
 ·omega
 ·refine ⟨g, cap, rfl, hb, (Array.getElem?_eq_some_iff.1 hh).1, hc, fun j u hj => ?_, fun j => h.frozenAt j⟩
  have hl : j < xs.length := (List.getElem?_eq_some_iff.1 hj).1
  rw [h.cellAt j (by rw [h.1] at hl; exact hl)]
  exact hj
theorem own_mono {w : World} {base base' n : Nat} {e : TypeId} {size : Nat} {v : Value} {xs : List Value} (h : w.ownsRow base e size v n xs) (hb : base' ≤ base) : w.ownsRow base' e size v n xs := by
 refine ⟨h.1, ?_⟩
 rcases h.2 with h2 | ⟨g, cap, cur, hv, hg, r⟩
 ·exact .inl h2
 ·exact .inr ⟨g, cap, cur, hv, Nat.le_trans hb hg, r⟩
theorem below_app {B : Nat} {w w1 w2 : World} {base : Nat} {e : TypeId} {size n : Nat} {v : Value} {xs : List Value} (h : Below B w w1) (hB : B ≤ w.heap.size) (ho : w1.ownsRow base e size v n xs) (hbase : B ≤ base) (hg : w1.grownBy w2 v.ownBlock) : Below B w w2 :=
 h.grown hg (Nat.le_trans hB h.size) (fun k hk => Nat.le_trans hbase (ho.lt k hk).1)
theorem news_at (w : World) (vs : Array Value) (T : TypeId) : ∀ j u, vs.toList[j]? = some u → (w.alloc (Obj.cells vs T)).cell? ((⟨w.heap.size, 0, none⟩ : Addr).add j) = some u := by
 intro j u hu
 have : (⟨w.heap.size, 0, none⟩ : Addr).add j = ⟨w.heap.size, j, none⟩ := by unfold Addr.add; split <;> simp_all
 rw [this]
 simpa using hu
/-! ### append of one element that is built right ahead of it -/
structure ElT (P : Program) (t e : TypeId) (z : Value) (size bytes : Nat) : Prop where
 und : P.underlying t = some (.slice e)
 info : (P.info? e).map (fun i => (i.zero, i.size, i.bytes)) = some (some z, size, bytes)
 zs : z.cells.size = size
 pos : 0 < size
 bpos : 0 < bytes
theorem wpList_app1 {P : Program} {wr : World} {ops : Array Oper} {rest : List Oper} {o : Oper} {a : Act} {Q : Exit → Act → World → Prop} (hgd : o.guard = none) (s x : Operand) {t : TypeId}
  (ho : o.op = .call { callee := .builtin .append, args := #[s, x], argTypes := #[t, t] })
  {base : Nat} {e : TypeId} {z : Value} {size bytes : Nat} (El : ElT P t e z size bytes) {v : Value} {n : Nat} {xs : List Value} (hown : wr.ownsRow base e size v n xs)
  (hs : a.eval s = v) {vs : Array Value} {T : TypeId} (hx : a.eval x = .slice (some ⟨wr.heap.size, 0, none⟩) 1 1) (hl : vs.size = size) (h1 : vs.toList.all (fun u => u.oneCell') = true)
  (hbytes : (n + 1) * bytes ≤ 140737488355328) (hbase : base ≤ wr.heap.size)
  (h : ∀ v' w', w'.ownsRow base e size v' (n + 1) (xs ++ vs.toList) → Below base wr w' → (wr.alloc (.cells vs T)).grownBy w' v.ownBlock → wpList P ops Q rest (a.put o.dst v') w') : wpList P ops Q (o :: rest) a (wr.alloc (.cells vs T)) := by
 obtain ⟨i0, hi, hz0, hz1, hz2⟩ := info_parts El.info
 have hn : n + 1 ≤ maxLen := by
  have := Nat.mul_le_mul_left (n + 1) El.bpos
  unfold maxLen
  omega
 refine wpList_append_own _ hgd s x t ho base e i0 z size bytes El.und hi hz0 hz1 hz2 El.zs El.pos v n xs hs (hown.alloc _) ⟨wr.heap.size, 0, none⟩ 1 1 vs.toList hx (by simpa using hl) (news_at _ _ _) (fun u hu => List.all_eq_true.1 h1 u hu) hn hbytes (by simp; omega) ?_
 intro v' w' h2 h3 _
 refine h v' w' h2 ?_ h3
 refine ((Below.refl base wr).alloc hbase _).grown h3 (by simp; omega) (fun k hk => (hown.lt k hk).1)
theorem wpList_app2 {P : Program} {wr : World} {ops : Array Oper} {rest : List Oper} {o : Oper} {a : Act} {Q : Exit → Act → World → Prop} (hgd : o.guard = none) (s x : Operand) {t : TypeId}
  (ho : o.op = .call { callee := .builtin .append, args := #[s, x], argTypes := #[t, t] })
  {base : Nat} {e : TypeId} {z : Value} {size bytes : Nat} (El : ElT P t e z size bytes) {v : Value} {n : Nat} {xs : List Value} (hown : wr.ownsRow base e size v n xs)
  (hs : a.eval s = v) {vs : Array Value} {T : TypeId} {bx : Nat} (hx : a.eval x = .slice (some ⟨bx, 0, none⟩) 1 1) (hbx : bx = wr.heap.size) (hl : vs.size = size) (h1 : vs.toList.all (fun u => u.oneCell') = true)
  (hbytes : (n + 1) * bytes ≤ 140737488355328) (hbase : base ≤ wr.heap.size)
  (h : ∀ v' w', w'.ownsRow base e size v' (n + 1) (xs ++ vs.toList) → Below base wr w' → (wr.alloc (.cells vs T)).grownBy w' v.ownBlock → wpList P ops Q rest (a.put o.dst v') w') : wpList P ops Q (o :: rest) a (wr.alloc (.cells vs T)) := by
 subst hbx
 exact wpList_app1 hgd s x ho El hown hs hx hl h1 hbytes hbase h
theorem own_other {w w' : World} {base : Nat} {e : TypeId} {size n : Nat} {v : Value} {xs : List Value} {o : Obj} {row : Option Nat} (h : w.ownsRow base e size v n xs) (hg : (w.alloc o).grownBy w' row) (hne : v.ownBlock = none ∨ v.ownBlock ≠ row) : w'.ownsRow base e size v n xs :=
 (h.alloc o).kept hg hne
structure Later (W0 W : World) : Prop where
 bel : Below W0.heap.size W0 W
theorem Later.refl (W0 : World) : Later W0 W0 := ⟨Below.refl _ _⟩
theorem Later.drew {W0 W : World} (h : Later W0 W) : Later W0 W.drew := ⟨h.bel.drew⟩
theorem Later.step {W0 W W' : World} (h : Later W0 W) (k : Below W.heap.size W W') : Later W0 W' := ⟨below_seq h.bel (Nat.le_refl _) k⟩
theorem Later.alloc {W0 W : World} (h : Later W0 W) (o : Obj) : Later W0 (W.alloc o) := ⟨below_new h.bel (Nat.le_refl _) o⟩
theorem Later.cell {W0 : World} {a : Addr} {v : Value} (h : W0.cell? a = some v) : ∀ W, Later W0 W → W.cell? a = some v := fun _ k => kept_cell k.bel h
/-! ### '==' of structs, field by field -/
theorem eqFields_cons {P : Program} {d : Nat} {xs ys : Array Value} {f : Field} {fs : List Field} {a b : Value} {r s : Bool} {w : World} (hn : (f.name == "_") = false)
  (ha : (part f.type xs f.offset).run P w = .ok a w) (hb : (part f.type ys f.offset).run P w = .ok b w) (he : (Op.equalIn d f.type a b).run P w = .ok r w)
  (hr : (Op.eqFields d xs ys fs).run P w = .ok s w) : (Op.eqFields d xs ys (f :: fs)).run P w = .ok (r && s) w := by
 have hn' : f.name ≠ "_" := by simpa using hn
 rw [Op.eqFields]
 simp only [if_pos hn', Sem.run_bind, ha, hb, he, Result.andThen_ok]
 cases r
 ·simp
 ·simpa using hr
theorem eqFields_nil {P : Program} {d : Nat} {xs ys : Array Value} {w : World} : (Op.eqFields d xs ys []).run P w = .ok true w := by simp [Op.eqFields]
theorem eqStruct_of {P : Program} {d : Nat} {xs ys : Array Value} {t : TypeId} {fs : Array Field} {r : Bool} {w : World} (hu : P.underlying t = some (.struct fs)) (hp : P.stoodInHeld t = false) (h : (Op.eqFields d xs ys fs.toList).run P w = .ok r w) : (Op.equalIn (d + 1) t (.agg xs) (.agg ys)).run P w = .ok r w := by
 have hf : P.fieldsOf t = fs := by simp [Program.fieldsOf, hu]
 rw [run_equalIn_struct (P := P) w d t xs ys (by rw [hf]; exact hu) hp, hf]
 exact h
theorem eqInt_of {P : Program} {d : Nat} {t : TypeId} {k : IntKind} {w : World} (hu : P.underlying t = some (.int k)) (a b : Int) : (Op.equalIn (d + 1) t (.int k a) (.int k b)).run P w = .ok (a == b) w := by
 simp [Op.equalIn, run_underlying hu]
theorem binEql_of {P : Program} {t : TypeId} {xs ys : Array Value} {r : Bool} {w : World} (h : (Op.equalIn (9998 + 2) t (.agg xs) (.agg ys)).run P w = .ok r w) : (binOp .eql t (.agg xs) (.agg ys)).run P w = .ok (.bool r) w := by
 simp only [binOp]
 simp only [Op.equal, Op.maxDepth, Sem.run_bind]
 have h' : Sem.run P (Op.equalIn 10000 t (.agg xs) (.agg ys)) w = .ok r w := h
 rw [h']
 rfl
theorem below_drewN {B : Nat} {w w1 : World} (h : Below B w w1) (n : Nat) : Below B w (w1.drewN n) := ⟨h.os, h.tape, h.output, h.size, h.block⟩
theorem drawn3 (w : World) (o : Obj) (n : Nat) (u0 u1 u2 : Value) : Below w.heap.size w (((((w.alloc o).drewN n).setCell ⟨w.heap.size, 0, none⟩ u0).setCell ⟨w.heap.size, 1, none⟩ u1).setCell ⟨w.heap.size, 2, none⟩ u2) :=
 (((below_drewN ((Below.refl _ _).alloc (Nat.le_refl _) o) n).setCell (Nat.le_refl _) u0).setCell (Nat.le_refl _) u1).setCell (Nat.le_refl _) u2
/-! ### slices of numbers that are read; blocks of numbers that the call made -/
def rd (xs : List Int) (j : Nat) : Int := xs.getD j 0
theorem rd_getElem {xs : List Int} {j : Nat} (h : j < xs.length) : rd xs j = xs[j] := by simp [rd, List.getD_eq_getElem?_getD, List.getElem?_eq_getElem h]
theorem rd_set {xs : List Int} {j m : Nat} {v : Int} (h : m < xs.length) : rd (xs.set m v) j = if m = j then v else rd xs j := by
 unfold rd
 simp only [List.getD_eq_getElem?_getD, List.getElem?_set]
 split
 ·simp_all
 ·rfl
def Rd (w : World) (k : IntKind) (A : Option Addr) (n : Nat) (xs : List Int) : Prop :=
 xs.length = n ∧ (0 < n → ∃ b o, A = some ⟨b, o, none⟩ ∧ ∀ j, j < n → w.cell? ⟨b, o + j, none⟩ = some (.int k (rd xs j)))
theorem Rd.below {w w1 : World} {k : IntKind} {A : Option Addr} {n : Nat} {xs : List Int} (h : Rd w k A n xs) (hb : Below w.heap.size w w1) : Rd w1 k A n xs :=
 ⟨h.1, fun hn => by obtain ⟨b, o, e, hc⟩ := h.2 hn; exact ⟨b, o, e, fun j hj => kept_cell hb (hc j hj)⟩⟩
theorem Rd.drew {w : World} {k : IntKind} {A : Option Addr} {n : Nat} {xs : List Int} (h : Rd w k A n xs) : Rd w.drew k A n xs := h.below (Below.refl _ _).drew
theorem Rd.alloc {w : World} {k : IntKind} {A : Option Addr} {n : Nat} {xs : List Int} (h : Rd w k A n xs) (o : Obj) : Rd (w.alloc o) k A n xs := h.below ((Below.refl _ _).alloc (Nat.le_refl _) _)
def ints (k : IntKind) (l : List Int) : List Value := l.map (Value.int k)
theorem ints_length (k : IntKind) (l : List Int) : (ints k l).length = l.length := by simp [ints]
theorem ints_append (k : IntKind) (a b : List Int) : ints k (a ++ b) = ints k a ++ ints k b := by simp [ints]
theorem ints_set (k : IntKind) (l : List Int) (j : Nat) (v : Int) : ints k (l.set j v) = (ints k l).set j (.int k v) := by simp [ints, List.map_set]
theorem ints_get {k : IntKind} {l : List Int} {j : Nat} (h : j < l.length) : (ints k l)[j]? = some (.int k (rd l j)) := by simp [ints, rd_getElem h, List.getElem?_eq_getElem h]
theorem ints_one (k : IntKind) (l : List Int) : (ints k l).toArray.all (fun u => u.oneCell') = true := by simp [ints, Value.oneCell']
theorem ints_size (k : IntKind) (l : List Int) : (ints k l).toArray.size = l.length := by simp [ints]
def Blk (w : World) (b : Nat) (T : TypeId) (k : IntKind) (l : List Int) : Prop := w.heap[b]? = some (.cells (ints k l).toArray T (0, 0))
theorem Blk.cell {w : World} {b : Nat} {T : TypeId} {k : IntKind} {l : List Int} (h : Blk w b T k l) {j : Nat} (hj : j < l.length) : w.cell? ⟨b, j, none⟩ = some (.int k (rd l j)) := by
 rw [cell_of_row w b j _ T (0, 0) h, List.getElem?_toArray, ints_get hj]
theorem Blk.frozen {w : World} {b : Nat} {T : TypeId} {k : IntKind} {l : List Int} (h : Blk w b T k l) (j : Nat) : w.frozen? ⟨b, j, none⟩ = false := frozen_of_row w b j _ T h
theorem Blk.set {w : World} {b : Nat} {T : TypeId} {k : IntKind} {l : List Int} (h : Blk w b T k l) (j : Nat) (v : Int) : Blk (w.setCell ⟨b, j, none⟩ (.int k v)) b T k (l.set j v) := by
 unfold Blk
 rw [heap_setCell_same w b j _ T _ h, ints_set]
 simp
theorem Blk.lt {w : World} {b : Nat} {T : TypeId} {k : IntKind} {l : List Int} (h : Blk w b T k l) : b < w.heap.size := (Array.getElem?_eq_some_iff.1 h).1
theorem Blk.other {w : World} {b : Nat} {T : TypeId} {k : IntKind} {l : List Int} (h : Blk w b T k l) (a : Addr) (v : Value) (hne : b ≠ a.block) : Blk (w.setCell a v) b T k l := (heap_setCell_other w a b v hne).trans h
theorem Blk.alloc {w : World} {b : Nat} {T : TypeId} {k : IntKind} {l : List Int} (h : Blk w b T k l) (o : Obj) : Blk (w.alloc o) b T k l := (Below.heap_alloc _ _ _ h.lt).trans h
theorem Blk.below {w w' : World} {b : Nat} {T : TypeId} {k : IntKind} {l : List Int} (h : Blk w b T k l) {B : Nat} (hb : Below B w w') (hB : b < B) : Blk w' b T k l := (hb.block b hB).trans h
theorem Blk.rd {w : World} {b : Nat} {T : TypeId} {k : IntKind} {l : List Int} (h : Blk w b T k l) {n : Nat} (hn : l.length = n) : Rd w k (some ⟨b, 0, none⟩) n l :=
 ⟨hn, fun _ => ⟨b, 0, rfl, fun j hj => by rw [Nat.zero_add]; exact h.cell (by omega)⟩⟩
theorem own_rd {w : World} {base n : Nat} {e : TypeId} {k : IntKind} {v : Value} {xs : List Int} (h : w.ownsRow base e 1 v n (ints k xs)) : ∃ A c, v = .slice A n c ∧ n ≤ c ∧ Rd w k A n xs := by
 have hl : xs.length = n := by have := h.1; simpa [ints] using this
 rcases Nat.eq_zero_or_pos n with h0 | h0
 ·obtain ⟨A, c, hv⟩ := own_slice h
  exact ⟨A, c, hv, by omega, hl, fun hp => by omega⟩
 ·obtain ⟨g, c, hv, _, _, hc, hcell, _⟩ := own_form h h0
  exact ⟨_, c, hv, hc, hl, fun _ => ⟨g, 0, rfl, fun j hj => by rw [Nat.zero_add]; exact hcell j _ (ints_get (by omega))⟩⟩
theorem Blk.own {w : World} {b : Nat} {T : TypeId} {k : IntKind} {l : List Int} (h : Blk w b T k l) {n base : Nat} (hn : l.length = n) (hb : base ≤ b) (hm : n ≤ maxLen) : w.ownsRow base T 1 (.slice (some ⟨b, 0, none⟩) n n) n (ints k l) :=
 ⟨by rw [ints_length, hn, Nat.mul_one], .inr ⟨b, n, _, rfl, hb, h, Nat.le_refl _, hm, by simp [ints_length, hn], by simp; exact List.take_of_length_le (by rw [ints_length, hn]; exact Nat.le_refl _)⟩⟩
theorem wpList_mk1 {P : Program} (w : World) {ops : Array Oper} {rest : List Oper} {o : Oper} {a : Act} {Q : Exit → Act → World → Prop} (hg : o.guard = none) (l c : Operand) {t : TypeId} (hop : o.op = Op.makeSlice t l c)
  {base : Nat} {e : TypeId} {k : IntKind} {bytes : Nat} (El : ElT P t e (.int k 0) 1 bytes) {kl kc : IntKind} {L C : Int} {n : Nat} (hl : a.eval l = .int kl L) (hc : a.eval c = .int kc C) (hL : L = (n : Int)) (hC : C = (n : Int))
  (hbytes : bytes * n ≤ 140737488355328) (hbase : base ≤ w.heap.size)
  (hK : ∀ w', w'.ownsRow base e 1 (.slice (some ⟨w.heap.size, 0, none⟩) n n) n (ints k (List.replicate n 0)) → Below w.heap.size w w' → w'.heap.size = w.heap.size + 1 → wpList P ops Q rest (a.put o.dst (.slice (some ⟨w.heap.size, 0, none⟩) n n)) w') :
  wpList P ops Q (o :: rest) a w := by
 obtain ⟨i0, hi, hz0, hz1, hz2⟩ := info_parts El.info
 subst hL hC
 have hn : n ≤ maxLen := by
  have := Nat.mul_le_mul_right n El.bpos
  unfold maxLen
  omega
 have hn' : (n : Int) ≤ 9223372036854775807 := by unfold maxLen at hn; omega
 have hb' : (i0.bytes : Int) * n ≤ 281474976710656 := by
  rw [hz2]
  have h : ((bytes * n : Nat) : Int) ≤ 281474976710656 := by omega
  rwa [Int.natCast_mul] at h
 have hr := run_make (P := P) w t e i0 (.int k 0) El.und hi hz0 kl kc n n (by omega) (Int.le_refl _) hb' hn'
 simp only [Int.toNat_natCast] at hr
 refine wpList_plain hg fun K hK' => ?_
 unfold Oper.wp
 simp [execOp, hop, hl, hc, hr, Result.andThen]
 refine hK' _ _ (hK _ ?_ ((Below.refl _ _).alloc (Nat.le_refl _) _) (by simp))
 have hz : i0.size = 1 := hz1
 have e1 : (madeCells (Value.int k 0).cells (n * i0.size)).toList = ints k (List.replicate n 0) := by
  rw [hz, Nat.mul_one]
  show (madeCells #[Value.int k 0] n).toList = _
  rw [toList_madeCells_one]
  simp [ints]
 rw [← e1]
 exact World.ownsRow_lit w _ n hbase hn (by rw [size_madeCells, hz])
/-! ### a row's slices of numbers -/
def IsRow (k : IntKind) (w : World) (a : Option Addr) (len cap : Nat) (zs : List Int) : Prop :=
 (a = none ∧ len = 0 ∧ cap = 0 ∧ zs = []) ∨
 ∃ x, a = some x ∧ len ≤ cap ∧ cap ≤ maxLen ∧ zs.length = cap ∧ (∀ i, i < zs.length → w.cell? (x.add i) = some (.int k (zs.getD i 0))) ∧ ∀ n ∈ zs, (Lit.int k n).wf = true
theorem IsRow.rd {k : IntKind} {w : World} {a : Option Addr} {len cap : Nat} {zs : List Int} (h : IsRow k w a len cap zs) : Rd w k a len (zs.take len) := by
 rcases h with ⟨rfl, rfl, rfl, rfl⟩ | ⟨⟨b, o, s⟩, rfl, hl, hm, hz, hc, hw⟩
 ·exact ⟨rfl, fun h => by omega⟩
 ·refine ⟨by simp; omega, fun hn => ?_⟩
  have hs : s = none := by simpa [Addr.add] using World.cell?_spot (hc 0 (by omega))
  subst hs
  refine ⟨b, o, rfl, fun j hj => ?_⟩
  have e : (⟨b, o, none⟩ : Addr).add j = ⟨b, o + j, none⟩ := by unfold Addr.add; split <;> simp_all
  have := hc j (by omega)
  rw [e] at this
  rw [this, rd_getElem (by simp; omega)]
  simp [List.getD_eq_getElem?_getD, List.getElem?_eq_getElem (show j < zs.length by omega)]
theorem IsRow.wf {k : IntKind} {w : World} {a : Option Addr} {len cap : Nat} {zs : List Int} (h : IsRow k w a len cap zs) : ∀ j, j < len → (Lit.int k (Go.Proofs.YtdbkbeojedndbaaGreatDoor.rd (zs.take len) j)).wf = true := by
 intro j hj
 rcases h with ⟨rfl, rfl, rfl, rfl⟩ | ⟨x, rfl, hl, hm, hz, hc, hw⟩
 ·omega
 ·rw [rd_getElem (by simp; omega)]
  exact hw _ (List.mem_of_mem_take (List.getElem_mem _))
theorem u8_of_wf {n : Int} (h : (Lit.int .u8 n).wf = true) : 0 ≤ n ∧ n ≤ 255 := by
 simp [Lit.wf, IntKind.min, IntKind.max, IntKind.signed, IntKind.bits] at h
 omega
theorem u16_of_wf {n : Int} (h : (Lit.int .u16 n).wf = true) : 0 ≤ n ∧ n ≤ 65535 := by
 simp [Lit.wf, IntKind.min, IntKind.max, IntKind.signed, IntKind.bits] at h
 omega
theorem IsRow.u8 {w : World} {a : Option Addr} {len cap : Nat} {zs : List Int} (h : IsRow .u8 w a len cap zs) : ∀ j, j < len → 0 ≤ Go.Proofs.YtdbkbeojedndbaaGreatDoor.rd (zs.take len) j ∧ Go.Proofs.YtdbkbeojedndbaaGreatDoor.rd (zs.take len) j ≤ 255 := fun j hj => u8_of_wf (h.wf j hj)
theorem sized_ints {H : Type} {enc : TypeId × Value → H} {P : Program} {W : World} {base : Nat} {spare : Nat → Bool} {held : Bool} {t e : TypeId} {k : IntKind} {a : Option Addr} {len cap : Nat} {d : DataW H} {ps : List MemPlace} {ts : List TypeId} {ds : List (DataW H)} {j : Nat}
  (hsz : (DataW.weightsEach P ts ds).all (· ≤ reachBytes) = true) (ht : ts[j]? = some t) (hd : ds[j]? = some d) (hu : P.underlying t = some (.slice e)) (he : P.underlying e = some (.int k)) (hc : P.cellsOf e = 1) {B : Nat} (hB : P.bytesOf e = B)
  (h : DataW.Trod enc P W base spare held t (.slice a len cap) d ps) : len * B ≤ 140737488351232 := by
 obtain ⟨fuel, hf⟩ := h
 rcases Go.ChangeShapes.open_ints hu he hc hf with ⟨hcs, _⟩ | ⟨x, l, c, zs, hcs, _, hl, _, hz, hx, _, _⟩
 ·simp [Value.cells] at hcs
  obtain ⟨rfl, rfl, rfl⟩ := hcs
  simp
 ·simp [Value.cells] at hcs
  obtain ⟨rfl, rfl, rfl⟩ := hcs
  obtain ⟨hx, _⟩ := Prod.mk.inj hx
  subst hx
  have z := sized_slice hsz ht hd hu
  rw [hB] at z
  have hlz : len ≤ zs.length := by rw [hz]; split <;> omega
  have hsum : (Go.ChangeShapes.lits (H := H) k (zs.take len)).length + (Go.ChangeShapes.lits (H := H) k (zs.drop len)).length = zs.length := by
   simp [Go.ChangeShapes.lits]
   omega
  rw [hsum] at z
  exact Nat.le_trans (Nat.mul_le_mul_right _ hlz) z
end Go.Proofs.YtdbkbeojedndbaaGreatDoor
namespace Go.Proofs.YtdbkbeojedndbaaGreatDoor
open Go.RowKit

def SameB (A A' : Option Addr) : Prop := ∀ b o, A' = some ⟨b, o, none⟩ → ∃ o', A = some ⟨b, o', none⟩
theorem SameB.part (b o o' : Nat) : SameB (some ⟨b, o, none⟩) (some ⟨b, o', none⟩) := fun b' o2 e => by cases e; exact ⟨_, rfl⟩
theorem SameB.none (A : Option Addr) : SameB A none := fun b o e => by cases e
theorem SameB.move {A : Option Addr} {b o : Nat} (h : SameB A (some ⟨b, o, Option.none⟩)) (o' : Nat) : SameB A (some ⟨b, o', Option.none⟩) := fun b' o2 e => by cases e; exact h b o rfl
def NewB (B : Nat) (A : Option Addr) : Prop := ∀ b o, A = some ⟨b, o, none⟩ → B ≤ b
end Go.Proofs.YtdbkbeojedndbaaGreatDoor
namespace Go.Proofs.YtdbkbeojedndbaaGreatDoor
open Go.RowKit

def cntTo (xs : List Int) (k : Nat) : List Int := (List.range 16).map fun (j : Nat) => (((xs.take k).filter fun x => x == (j : Int)).length : Int)
def lensOk (xs : List Int) : Bool := xs.all fun x => decide (0 ≤ x ∧ x ≤ 15)
def cntOf (xs : List Int) : List Int := (cntTo xs xs.length).set 0 0

theorem cntTo_length (xs : List Int) (k : Nat) : (cntTo xs k).length = 16 := by simp [cntTo]
theorem rd_cntTo (xs : List Int) (k j : Nat) (h : j < 16) : rd (cntTo xs k) j = (((xs.take k).filter fun x => x == (j : Int)).length : Int) := by
 rw [rd_getElem (by rw [cntTo_length]; exact h)]
 simp [cntTo]
theorem rd_cntTo_le (xs : List Int) (k j : Nat) (h : j < 16) : 0 ≤ rd (cntTo xs k) j ∧ rd (cntTo xs k) j ≤ k := by
 rw [rd_cntTo xs k j h]
 have h1 := List.length_filter_le (fun x => x == (j : Int)) (xs.take k)
 have h2 := List.length_take_le k xs
 omega
theorem ext_rd {a b : List Int} (hl : a.length = b.length) (h : ∀ j, j < a.length → rd a j = rd b j) : a = b := by
 apply List.ext_getElem hl
 intro i h1 h2
 rw [← rd_getElem h1, ← rd_getElem h2]
 exact h i h1
theorem cntTo_succ (xs : List Int) (k m : Nat) (hk : k < xs.length) (hm : rd xs k = (m : Int)) (h16 : m < 16) : cntTo xs (k + 1) = (cntTo xs k).set m (rd (cntTo xs k) m + 1) := by
 apply ext_rd (by simp [cntTo_length])
 intro j hj
 rw [cntTo_length] at hj
 rw [rd_set (by rw [cntTo_length]; exact h16), rd_cntTo _ _ _ hj, rd_cntTo _ _ _ h16, rd_cntTo _ _ _ hj, List.take_succ_eq_append_getElem hk, ← rd_getElem hk, hm, List.filter_append]
 by_cases e : m = j
 ·subst e
  rw [if_pos rfl]
  simp
 ·rw [if_neg e]
  have : ((m : Int) == (j : Int)) = false := by simp; omega
  simp [this]

set_option maxHeartbeats 1000000 in
set_option maxRecDepth 200000 in
theorem counts_calls (A : Option Addr) (n cap : Nat) (xs : List Int) (w : World) (hR : Rd w .i64 A n xs) (hn : n ≤ 140737488351232) :
  Calls Tryz.prog 82 #[.slice A n cap] w fun e w' => ∃ l : List Int, l.length = 16 ∧ e = .returned (.tuple #[.agg (ints .i64 l).toArray, .bool (lensOk xs)]) ∧ (lensOk xs = true → l = cntOf xs) ∧ Below w.heap.size w w' := by
 have HR := Lib.hid hR
 have hlen := Lib.hid hR.1
 clear hR
 go_enter Tryz.func82, Tryz.ntmps82
 go_wp2
 go_loopw [6, 9] (fun x i wr => ∃ k : Nat, k ≤ n ∧ i = .int .i64 k ∧ Blk wr w.heap.size 133 .i64 (List.replicate 16 0) ∧ Blk wr (w.heap.size + 1) 133 .i64 (cntTo xs k) ∧ Hid (lensOk (xs.take k) = true) ∧ Below w.heap.size w wr) (fun _ i _ => n - (intOf i).toNat)
 case atStart =>
  refine ⟨0, by omega, rfl, ?_, ?_, rfl, below_new (below_new (Below.refl _ _) (Nat.le_refl _) _) (Nat.le_refl _) _⟩
  ·exact heap_alloc2_old _ _ _
  ·exact heap_alloc2_new _ _ _
 case round =>
  obtain ⟨k, hk, rfl, hB0, hB1, Hok, hbel⟩ := hrel
  have HB0 := Lib.hid hB0
  have HB1 := Lib.hid hB1
  have Hbel := Lib.hid hbel
  clear hB0 hB1 hbel
  by_cases hlt : k < n
  ·obtain ⟨b, o, rfl, hc⟩ := HR.out.2 (by omega)
   have hck := kept_cell Hbel.out (hc k hlt)
   clear hc
   by_cases hx : 0 ≤ rd xs k ∧ rd xs k ≤ 15
   ·obtain ⟨hx0, hx1⟩ := hx
    obtain ⟨m, hm⟩ : ∃ m : Nat, rd xs k = m := ⟨(rd xs k).toNat, by omega⟩
    rw [hm] at hck hx0 hx1
    have Hm := Lib.hid hm
    clear hm
    have hcm := HB1.out.cell (j := m) (by rw [cntTo_length]; omega)
    have hfm := HB1.out.frozen m
    have hrg := rd_cntTo_le xs k m (by omega)
    go_wp2
    go_roundw
    case rel =>
     refine ⟨k + 1, by omega, by go_num, HB0.out.other _ _ (by simp), ?_, ?_, Hbel.out.setCell (by simp) _⟩
     ·rw [cntTo_succ xs k m (by rw [hlen.out]; omega) Hm.out (by omega)]
      exact HB1.out.set _ _
     ·show lensOk _ = true
      rw [List.take_succ_eq_append_getElem (by rw [hlen.out]; omega)]
      have h1 : lensOk (xs.take k) = true := Hok.out
      unfold lensOk at *
      rw [List.all_append, h1, ← rd_getElem (by rw [hlen.out]; omega), Hm.out]
      simp
      omega
    case measure => simp [intOf]; omega
   ·have hno : lensOk xs = false := by
     unfold lensOk
     rw [List.all_eq_false]
     exact ⟨xs[k]'(by rw [hlen.out]; omega), List.getElem_mem _, by rw [← rd_getElem (by rw [hlen.out]; omega)]; simpa using hx⟩
    have hways : rd xs k < 0 ∨ (0 ≤ rd xs k ∧ 15 < rd xs k) := by omega
    clear hx
    have hs : (ints .i64 (cntTo xs k)).toArray.size = 16 := by simp [ints_length, cntTo_length]
    have Hno := Lib.hid hno
    have Hs := Lib.hid hs
    clear hno hs
    rcases hways with h1 | ⟨h1, h2⟩
    all_goals
     go_wp2_with (first
      | (refine wpList_load_row rfl 133 _ rfl (w.heap.size + 1) rfl 133 _ (0, 0) _ HB1.out Tryz.underlying133 rfl (by rw [Hs.out]; kernel_rfl) ?_)
      | (refine wpList_store_row rfl 133 _ _ rfl w.heap.size _ rfl rfl 133 _ HB0.out (by rw [Hs.out]; kernel_rfl) (by rw [Hs.out]; simp [ints]) (ints_one _ _) ?_))
     have hrow := setRow_heap wr w.heap.size _ (ints .i64 (cntTo xs k)).toArray 133 _ HB0.out
     have hl := run_loadVar_row (P := Tryz.prog) _ w.heap.size 133 133 _ _ _ hrow Tryz.underlying133 rfl (by rw [Hs.out]; kernel_rfl)
     refine bodyPost_ret (v := .tuple #[.agg (ints .i64 (cntTo xs k)).toArray, .bool false]) ?_ rfl ⟨cntTo xs k, cntTo_length _ _, by rw [Hno.out], (fun h => absurd h (by rw [Hno.out]; decide)), ?_⟩
     ·simp [results, Tryz.results82, asAddr, hl]
     ·exact Hbel.out.trans ⟨rfl, rfl, rfl, by simp, fun i hi => setRow_other wr w.heap.size i _ (by omega)⟩
  ·obtain rfl : k = n := by omega
   have hs : (ints .i64 ((cntTo xs k).set 0 0)).toArray.size = 16 := by simp [ints_length, cntTo_length]
   have Hs := Lib.hid hs
   have hok : lensOk xs = true := by
    have h1 : lensOk (xs.take k) = true := Hok.out
    rwa [List.take_of_length_le (by rw [hlen.out]; exact Nat.le_refl _)] at h1
   have Hk := Lib.hid hok
   clear hs hok
   have hc0 := HB1.out.cell (j := 0) (by rw [cntTo_length]; omega)
   have hf0 := HB1.out.frozen 0
   have HB1' := Lib.hid (HB1.out.set 0 0)
   have HB0' := Lib.hid (HB0.out.other ⟨w.heap.size + 1, 0, none⟩ (.int .i64 0) (by simp))
   go_wp2_with (first
    | (refine wpList_load_row rfl 133 _ rfl (w.heap.size + 1) rfl 133 _ (0, 0) _ HB1'.out Tryz.underlying133 rfl (by rw [Hs.out]; kernel_rfl) ?_)
    | (refine wpList_store_row rfl 133 _ _ rfl w.heap.size _ rfl rfl 133 _ HB0'.out (by rw [Hs.out]; kernel_rfl) (by rw [Hs.out]; simp [ints]) (ints_one _ _) ?_))
   have hrow := setRow_heap _ w.heap.size _ (ints .i64 ((cntTo xs k).set 0 0)).toArray 133 _ HB0'.out
   have hl := run_loadVar_row (P := Tryz.prog) _ w.heap.size 133 133 _ _ _ hrow Tryz.underlying133 rfl (by rw [Hs.out]; kernel_rfl)
   refine bodyPost_ret (v := .tuple #[.agg (ints .i64 ((cntTo xs k).set 0 0)).toArray, .bool true]) ?_ rfl ⟨(cntTo xs k).set 0 0, by rw [List.length_set, cntTo_length], by rw [Hk.out], fun _ => by unfold cntOf; rw [hlen.out], ?_⟩
   ·simp [results, Tryz.results82, asAddr, hl]
   ·exact (Hbel.out.setCell (by simp) _).trans ⟨rfl, rfl, rfl, by simp, fun i hi => setRow_other _ w.heap.size i _ (by omega)⟩
def leftAt (c : List Int) : Nat → Int
 | 0 => 1
 | i + 1 => 2 * leftAt c i - rd c (i + 1)
def sumAt (c : List Int) : Nat → Int
 | 0 => 0
 | i + 1 => sumAt c i + rd c (i + 1)
def leftOk (c : List Int) (i : Nat) : Bool := (List.range i).all fun j => decide (0 ≤ leftAt c (j + 1))
theorem leftOk_succ (c : List Int) (i : Nat) : leftOk c (i + 1) = (leftOk c i && decide (0 ≤ leftAt c (i + 1))) := by
 simp [leftOk, List.range_succ]
def rightOf (c : List Int) : Bool := leftOk c 15 && (leftAt c 15 == 0 || (sumAt c 15 == 1 && rd c 1 == 1))
def rightB (xs : List Int) : Bool := lensOk xs && rightOf (cntOf xs)

theorem leftOk_no (c : List Int) (i k : Nat) (hk : k < i) (h : leftAt c (k + 1) < 0) : leftOk c i = false := by
 unfold leftOk
 rw [List.all_eq_false]
 exact ⟨k, List.mem_range.2 hk, by simp; omega⟩
theorem rd_cntOf (xs : List Int) (j : Nat) (h : j < 16) : 0 ≤ rd (cntOf xs) j ∧ rd (cntOf xs) j ≤ xs.length := by
 unfold cntOf
 rw [rd_set (by rw [cntTo_length]; omega)]
 split
 ·omega
 ·exact rd_cntTo_le xs xs.length j h
theorem leftAt_le (c : List Int) (hc : ∀ j, j < 16 → 0 ≤ rd c j) (i : Nat) (hi : i < 16) : leftAt c i ≤ 2 ^ i := by
 induction i with
 | zero => simp [leftAt]
 | succ i ih =>
  have h1 := ih (by omega)
  have h2 := hc (i + 1) hi
  simp only [leftAt, Int.pow_succ]
  omega
theorem sumAt_le (c : List Int) (n : Int) (hc : ∀ j, j < 16 → 0 ≤ rd c j ∧ rd c j ≤ n) (i : Nat) (hi : i < 16) : 0 ≤ sumAt c i ∧ sumAt c i ≤ i * n := by
 induction i with
 | zero => simp [sumAt]
 | succ i ih =>
  have h1 := ih (by omega)
  have h2 := hc (i + 1) hi
  simp only [sumAt]
  have e : ((i + 1 : Nat) : Int) * n = i * n + n := by rw [Int.natCast_add, Int.add_mul]; simp
  rw [e]
  omega

set_option maxHeartbeats 1000000 in
set_option maxRecDepth 200000 in
theorem Right_calls (A : Option Addr) (n cap : Nat) (xs : List Int) (w : World) (hR : Rd w .i64 A n xs) (hn : n ≤ 140737488351232) :
  Calls Tryz.prog 81 #[.slice A n cap] w fun e w' => e = .returned (.bool (rightB xs)) ∧ Below w.heap.size w w' := by
 have HR := Lib.hid hR
 have hlen := Lib.hid hR.1
 clear hR
 go_enter Tryz.func81, Tryz.ntmps81
 go_wp2_with fail
 refine (counts_calls A n cap xs _ HR.out hn).mono ?_
 rintro e w1 ⟨l, hl, rfl, hcnt, hb1⟩
 have Hl := Lib.hid hl
 cases hok : lensOk xs
 ·have hrb : rightB xs = false := by unfold rightB; rw [hok]; rfl
  have Hrb := Lib.hid hrb
  have Hb1 := Lib.hid hb1
  clear hl hcnt hb1 hok hrb
  go_wp2_with (first
   | (refine wpList_store_row rfl 133 _ _ rfl w1.heap.size _ rfl rfl 133 _ (heap_alloc_new _ _) (by rw [ints_size, Hl.out]; kernel_rfl) (by rw [ints_size, Hl.out]; rfl) (ints_one _ _) ?_))
  go_ret
  rw [Hrb.out]
  exact ⟨rfl, (below_new Hb1.out (Nat.le_refl _) _).trans ⟨rfl, rfl, rfl, by simp, fun i hi => setRow_other _ w1.heap.size i _ (by have := Hb1.out.size; omega)⟩⟩
 ·obtain rfl := hcnt hok
  have hrb : rightB xs = rightOf (cntOf xs) := by unfold rightB; rw [hok]; rfl
  have hrng := fun j hj => rd_cntOf xs j hj
  rw [hlen.out] at hrng
  generalize cntOf xs = c at *
  have Hrb := Lib.hid hrb
  have Hb1 := Lib.hid hb1
  have Hrng := Lib.hid hrng
  clear hl hcnt hb1 hok hrb hrng
  go_wp2_with (first
   | (refine wpList_store_row rfl 133 _ _ rfl w1.heap.size _ rfl rfl 133 _ (heap_alloc_new _ _) (by rw [ints_size, Hl.out]; kernel_rfl) (by rw [ints_size, Hl.out]; rfl) (ints_one _ _) ?_))
  have HB : Hid (Blk _ w1.heap.size 133 .i64 c) := setRow_heap _ w1.heap.size _ (ints .i64 c).toArray 133 _ (heap_alloc_new w1 (Obj.cells #[.int .i64 0, .int .i64 0, .int .i64 0, .int .i64 0, .int .i64 0, .int .i64 0, .int .i64 0, .int .i64 0, .int .i64 0, .int .i64 0, .int .i64 0, .int .i64 0, .int .i64 0, .int .i64 0, .int .i64 0, .int .i64 0] 133))
  have HW : Hid (Below w.heap.size w (World.setRow (w1.alloc (Obj.cells #[.int .i64 0, .int .i64 0, .int .i64 0, .int .i64 0, .int .i64 0, .int .i64 0, .int .i64 0, .int .i64 0, .int .i64 0, .int .i64 0, .int .i64 0, .int .i64 0, .int .i64 0, .int .i64 0, .int .i64 0, .int .i64 0] 133)) w1.heap.size (ints .i64 c).toArray)) := (below_new Hb1.out (Nat.le_refl _) _).trans ⟨rfl, rfl, rfl, by simp, fun i hi => setRow_other _ w1.heap.size i _ (by have := Hb1.out.size; omega)⟩
  generalize World.setRow (w1.alloc (Obj.cells #[.int .i64 0, .int .i64 0, .int .i64 0, .int .i64 0, .int .i64 0, .int .i64 0, .int .i64 0, .int .i64 0, .int .i64 0, .int .i64 0, .int .i64 0, .int .i64 0, .int .i64 0, .int .i64 0, .int .i64 0, .int .i64 0] 133)) w1.heap.size (ints .i64 c).toArray = W at *
  go_loop [5, 6, 7] (fun l a i => ∃ k : Nat, k ≤ 15 ∧ i = .int .i64 (1 + k) ∧ l = .int .i64 (leftAt c k) ∧ a = .int .i64 (sumAt c k) ∧ Hid (leftOk c k = true) ∧ 0 ≤ leftAt c k) (fun _ _ i => 16 - (intOf i).toNat)
  case atStart => exact ⟨0, by omega, rfl, rfl, rfl, rfl, by show (0 : Int) ≤ 1; omega⟩
  case round =>
   obtain ⟨k, hk, rfl, rfl, rfl, Hok, h0⟩ := hrel
   have hle := leftAt_le c (fun j hj => (Hrng.out j hj).1) k (by omega)
   have hle2 : (2 : Int) ^ k ≤ 2 ^ 15 := by
    have : (2 : Nat) ^ k ≤ 2 ^ 15 := Nat.pow_le_pow_right (by omega) hk
    exact_mod_cast this
   have hle3 : leftAt c k ≤ 32768 := Int.le_trans hle (Int.le_trans hle2 (by decide))
   have hsum := sumAt_le c n Hrng.out k (by omega)
   have hsum2 : sumAt c k ≤ 15 * n := by
    have : (k : Int) * n ≤ 15 * n := Int.mul_le_mul_of_nonneg_right (by omega) (by omega)
    omega
   obtain ⟨hs0, _⟩ := hsum
   clear hle hle2
   by_cases hlt : k < 15
   ·have hcell := HB.out.cell (j := 1 + k) (by rw [Hl.out]; omega)
    have hr := Hrng.out (1 + k) (by omega)
    have el : leftAt c (k + 1) = 2 * leftAt c k - rd c (1 + k) := by rw [Nat.add_comm 1 k]; rfl
    have es : sumAt c (k + 1) = sumAt c k + rd c (1 + k) := by rw [Nat.add_comm 1 k]; rfl
    have El := Lib.hid el
    have Es := Lib.hid es
    clear el es
    go_wp2
    ·go_ret
     have h1 : 2 * leftAt c k - rd c (1 + k) < 0 := by assumption
     rw [← El.out] at h1
     refine ⟨?_, HW.out⟩
     rw [Hrb.out, show rightOf c = false from by unfold rightOf; rw [leftOk_no c 15 k hlt h1]; rfl]
     rfl
    ·go_round
     case rel =>
      have h1 : 0 ≤ 2 * leftAt c k - rd c (1 + k) := by assumption
      refine ⟨k + 1, by omega, by go_num, by rw [El.out], by rw [Es.out], ?_, by rw [El.out]; exact h1⟩
      show leftOk c (k + 1) = true
      have h2 : leftOk c k = true := Hok.out
      rw [leftOk_succ, h2, El.out]
      simpa using h1
     case measure => simp [intOf]; omega
   ·obtain rfl : k = 15 := by omega
    have hcell := HB.out.cell (j := 1) (by rw [Hl.out]; omega)
    have hfin : rightB xs = (leftAt c 15 == 0 || (sumAt c 15 == 1 && rd c 1 == 1)) := by
     have h2 : leftOk c 15 = true := Hok.out
     rw [Hrb.out]; unfold rightOf; rw [h2]; rfl
    have Hfin := Lib.hid hfin
    clear hfin
    rcases Int.lt_trichotomy (leftAt c 15) 0 with g1 | g1 | g1
    ·omega
    ·have g2 : (leftAt c 15 == 0) = true := by simpa using g1
     have G := Lib.hid g1
     clear g1
     go_wp2
     go_ret
     refine ⟨?_, HW.out⟩
     rw [Hfin.out, G.out]
     rfl
    ·have g2 : (leftAt c 15 == 0) = false := by simp; omega
     cases g3 : (sumAt c 15 == 1)
     all_goals
      go_wp2
      go_ret
      refine ⟨?_, HW.out⟩
      rw [Hfin.out, g2, g3]
      rfl
end Go.Proofs.YtdbkbeojedndbaaGreatDoor
namespace Go.Proofs.YtdbkbeojedndbaaGreatDoor

def firstAt (c : List Int) : Nat → Int
 | 0 => 0
 | k + 1 => 2 * (firstAt c k + rd c k)
theorem firstAt_range (c : List Int) (n : Int) (hc : ∀ j, j < 16 → 0 ≤ rd c j ∧ rd c j ≤ n) (k : Nat) (hk : k ≤ 16) : 0 ≤ firstAt c k ∧ firstAt c k + 2 * n ≤ 2 * n * 2 ^ k := by
 induction k with
 | zero => simp [firstAt]
 | succ k ih =>
  have h1 := ih (by omega)
  have h2 := hc k (by omega)
  have e : 2 * n * 2 ^ (k + 1) = 2 * (2 * n * 2 ^ k) := by rw [Int.pow_succ, ← Int.mul_assoc, Int.mul_comm _ 2]
  rw [e]
  simp only [firstAt]
  omega
theorem firstAt_le (c : List Int) (n : Int) (hn : 0 ≤ n) (hc : ∀ j, j < 16 → 0 ≤ rd c j ∧ rd c j ≤ n) (k : Nat) (hk : k ≤ 16) : 0 ≤ firstAt c k ∧ firstAt c k ≤ 131072 * n := by
 have h1 := firstAt_range c n hc k hk
 have h2 : 2 * n * 2 ^ k ≤ 2 * n * 2 ^ 16 := by
  refine Int.mul_le_mul_of_nonneg_left ?_ (by omega)
  have : (2 : Nat) ^ k ≤ 2 ^ 16 := Nat.pow_le_pow_right (by omega) hk
  exact_mod_cast this
 have h3 : 2 * n * 2 ^ 16 = 131072 * n := by
  rw [show ((2 : Int) ^ 16) = 65536 from by decide +kernel]
  omega
 omega
def firstsOf (c : List Int) : List Int := (List.range 16).map (firstAt c)
theorem firstsOf_length (c : List Int) : (firstsOf c).length = 16 := by simp [firstsOf]
theorem rd_firstsOf (c : List Int) (j : Nat) (h : j < 16) : rd (firstsOf c) j = firstAt c j := by
 rw [rd_getElem (by rw [firstsOf_length]; exact h)]
 simp [firstsOf]
def before (xs : List Int) (k : Int) (s : Nat) : Nat := ((xs.take s).filter fun x => x == k).length
theorem before_zero (xs : List Int) (k : Int) : before xs k 0 = 0 := by simp [before]
theorem before_hit (xs : List Int) (k : Int) (s : Nat) (hs : s < xs.length) (h : rd xs s = k) : before xs k (s + 1) = before xs k s + 1 := by
 unfold before
 rw [List.take_succ_eq_append_getElem hs, ← rd_getElem hs, List.filter_append, h]
 simp
theorem before_miss (xs : List Int) (k : Int) (s : Nat) (hs : s < xs.length) (h : rd xs s ≠ k) : before xs k (s + 1) = before xs k s := by
 unfold before
 rw [List.take_succ_eq_append_getElem hs, ← rd_getElem hs, List.filter_append]
 have : (rd xs s == k) = false := by simpa using h
 simp [this]
theorem before_le (xs : List Int) (k : Int) (s : Nat) : before xs k s ≤ s := by
 have h1 := List.length_filter_le (fun x => x == k) (xs.take s)
 have h2 := List.length_take_le s xs
 unfold before
 omega
theorem rd_cntOf_pos (xs : List Int) (k : Nat) (h : 0 < k) (h2 : k < 16) : rd (cntOf xs) k = (before xs k xs.length : Nat) := by
 unfold cntOf
 rw [rd_set (by rw [cntTo_length]; omega), if_neg (by omega), rd_cntTo _ _ _ h2]
 rfl
theorem rd_cntOf_zero (xs : List Int) : rd (cntOf xs) 0 = 0 := by
 unfold cntOf
 rw [rd_set (by rw [cntTo_length]; omega), if_pos rfl]
def nextCode (xs : List Int) (k s : Nat) : Int := firstAt (cntOf xs) k + (before xs k s : Nat)
theorem nextCode_over (xs : List Int) (k : Nat) (h : 0 < k) (h2 : k < 16) : nextCode xs (k + 1) 0 = 2 * nextCode xs k xs.length := by
 unfold nextCode
 rw [before_zero]
 simp only [firstAt]
 rw [rd_cntOf_pos xs k h h2]
 omega
theorem nextCode_one (xs : List Int) : nextCode xs 1 0 = 0 := by
 unfold nextCode
 rw [before_zero]
 simp only [firstAt]
 rw [rd_cntOf_zero]
 rfl
theorem nextCode_range (xs : List Int) (k s : Nat) (hk : k ≤ 16) : 0 ≤ nextCode xs k s ∧ nextCode xs k s ≤ 131072 * xs.length + s := by
 have h1 := firstAt_le (cntOf xs) xs.length (by omega) (rd_cntOf xs) k hk
 have h2 := before_le xs k s
 unfold nextCode
 omega
def codeAt (xs : List Int) (s : Nat) : Int := if 0 < rd xs s ∧ rd xs s ≤ 15 then nextCode xs (rd xs s).toNat s else 0
def codesOf (xs : List Int) : List Int := (List.range xs.length).map (codeAt xs)
theorem codesOf_length (xs : List Int) : (codesOf xs).length = xs.length := by simp [codesOf]
theorem rd_codesOf (xs : List Int) (j : Nat) (h : j < xs.length) : rd (codesOf xs) j = codeAt xs j := by
 rw [rd_getElem (by rw [codesOf_length]; exact h)]
 simp [codesOf]
end Go.Proofs.YtdbkbeojedndbaaGreatDoor
namespace Go.Proofs.YtdbkbeojedndbaaGreatDoor
open Go.RowKit

theorem make_rule {P : Program} {t e : TypeId} {k : IntKind} {bytes : Nat} (El : ElT P t e (.int k 0) 1 bytes) (n : Nat) (L : Int) (hL : L = n) (hbytes : bytes * n ≤ 140737488355328) :
  ∃ (o : Obj) (l : List Int), (∀ w : World, Sem.run P (Instr.makeSlice t (.int .i64 L) (.int .i64 L)) w = .ok (.slice (some ⟨w.heap.size, 0, none⟩) n n) (w.alloc o)) ∧ Hid (l = List.replicate n 0) ∧
   Hid (∀ (w : World) (g base : Nat), g = w.heap.size → base ≤ g → (w.alloc o).ownsRow base e 1 (.slice (some ⟨g, 0, none⟩) n n) n (ints k l)) := by
 obtain ⟨i0, hi, hz0, hz1, hz2⟩ := info_parts El.info
 subst hL
 have hn : n ≤ maxLen := by
  have := Nat.mul_le_mul_right n El.bpos
  unfold maxLen
  omega
 have hn' : (n : Int) ≤ 9223372036854775807 := by unfold maxLen at hn; omega
 have hb' : (i0.bytes : Int) * n ≤ 281474976710656 := by
  rw [hz2]
  have h : ((bytes * n : Nat) : Int) ≤ 281474976710656 := by omega
  rwa [Int.natCast_mul] at h
 refine ⟨Obj.cells (madeCells (Value.int k 0).cells (n * i0.size)) e, List.replicate n 0, fun w => ?_, rfl, ?_⟩
 ·have hr := run_make (P := P) w t e i0 (.int k 0) El.und hi hz0 .i64 .i64 n n (by omega) (Int.le_refl _) hb' hn'
  simp only [Int.toNat_natCast] at hr
  exact hr
 ·show ∀ (w : World) (g base : Nat), g = w.heap.size → base ≤ g → _
  intro w g base hg hbase
  subst hg
  have hz : i0.size = 1 := hz1
  have e1 : (madeCells (Value.int k 0).cells (n * i0.size)).toList = ints k (List.replicate n 0) := by
   rw [hz, Nat.mul_one]
   show (madeCells #[Value.int k 0] n).toList = _
   rw [toList_madeCells_one]
   simp [ints]
  rw [← e1]
  exact World.ownsRow_lit w _ n hbase hn (by rw [size_madeCells, hz])
end Go.Proofs.YtdbkbeojedndbaaGreatDoor
namespace Go.Proofs.YtdbkbeojedndbaaGreatDoor
open Go.RowKit

def firstsTo (c : List Int) (k : Nat) : List Int := (List.range 16).map fun j => if j < k then firstAt c j else 0
theorem firstsTo_length (c : List Int) (k : Nat) : (firstsTo c k).length = 16 := by simp [firstsTo]
theorem rd_firstsTo (c : List Int) (k j : Nat) (h : j < 16) : rd (firstsTo c k) j = if j < k then firstAt c j else 0 := by
 rw [rd_getElem (by rw [firstsTo_length]; exact h)]
 simp [firstsTo]
theorem firstsTo_next (c : List Int) (k : Nat) (h : k < 16) : firstsTo c (k + 1) = (firstsTo c k).set k (firstAt c k) := by
 apply ext_rd (by simp [firstsTo_length])
 intro j hj
 rw [firstsTo_length] at hj
 rw [rd_set (by rw [firstsTo_length]; exact h), rd_firstsTo _ _ _ hj, rd_firstsTo _ _ _ hj]
 by_cases e : k = j
 ·subst e; rw [if_pos rfl, if_pos (by omega)]
 ·rw [if_neg e]
  by_cases g : j < k
  ·rw [if_pos g, if_pos (by omega)]
  ·rw [if_neg g, if_neg (by omega)]
theorem firstsTo_all (c : List Int) : firstsTo c 16 = firstsOf c := by
 apply ext_rd (by rw [firstsTo_length, firstsOf_length])
 intro j hj
 rw [firstsTo_length] at hj
 rw [rd_firstsTo _ _ _ hj, rd_firstsOf _ _ hj, if_pos hj]
theorem firstsTo_one (c : List Int) : firstsTo c 1 = List.replicate 16 0 := by
 apply ext_rd (by rw [firstsTo_length, List.length_replicate])
 intro j hj
 rw [firstsTo_length] at hj
 rw [rd_firstsTo _ _ _ hj]
 have : rd (List.replicate 16 (0 : Int)) j = 0 := by
  rw [rd_getElem (by rw [List.length_replicate]; exact hj), List.getElem_replicate]
 rw [this]
 split
 ·have : j = 0 := by omega
  subst this; rfl
 ·rfl

set_option maxHeartbeats 1000000 in
set_option maxRecDepth 200000 in
theorem firsts_calls (c : List Int) (n : Nat) (w : World) (hl : c.length = 16) (hn : n ≤ 1000000) (hc : ∀ j, j < 16 → 0 ≤ rd c j ∧ rd c j ≤ n) :
  Calls Tryz.prog 83 #[.agg (ints .i64 c).toArray] w fun e w' => e = .returned (.agg (ints .u64 (firstsOf c)).toArray) ∧ Below w.heap.size w w' := by
 have Hl := Lib.hid hl
 have Hc := Lib.hid hc
 clear hc
 go_enter Tryz.func83, Tryz.ntmps83
 go_wp2
 go_loopw [4, 5] (fun x i wr => ∃ k : Nat, k ≤ 15 ∧ i = .int .i64 (1 + k) ∧ x = .int .u64 (firstAt c k) ∧ Blk wr w.heap.size 133 .i64 c ∧ Blk wr (w.heap.size + 1) 138 .u64 (List.replicate 16 0) ∧ Blk wr (w.heap.size + 1 + 1) 138 .u64 (firstsTo c (1 + k)) ∧ Below w.heap.size w wr) (fun _ i _ => 16 - (intOf i).toNat)
 case atStart =>
  refine ⟨0, by omega, rfl, rfl, ?_, ?_, ?_, below_new (below_new (below_new (Below.refl _ _) (Nat.le_refl _) _) (Nat.le_refl _) _) (Nat.le_refl _) _⟩
  ·exact Blk.alloc (Blk.alloc (heap_alloc_new w _) _) _
  ·have h1 : Blk ((w.alloc (Obj.cells (ints .i64 c).toArray 133)).alloc (Obj.cells #[Value.int IntKind.u64 0, Value.int IntKind.u64 0, Value.int IntKind.u64 0, Value.int IntKind.u64 0, Value.int IntKind.u64 0, Value.int IntKind.u64 0, Value.int IntKind.u64 0, Value.int IntKind.u64 0, Value.int IntKind.u64 0, Value.int IntKind.u64 0, Value.int IntKind.u64 0, Value.int IntKind.u64 0, Value.int IntKind.u64 0, Value.int IntKind.u64 0, Value.int IntKind.u64 0, Value.int IntKind.u64 0] 138)) (w.heap.size + 1) 138 .u64 (List.replicate 16 0) := heap_alloc2_new _ _ _
   exact h1.alloc _
  ·rw [firstsTo_one]
   have h1 : Blk (((w.alloc (Obj.cells (ints .i64 c).toArray 133)).alloc (Obj.cells #[Value.int IntKind.u64 0, Value.int IntKind.u64 0, Value.int IntKind.u64 0, Value.int IntKind.u64 0, Value.int IntKind.u64 0, Value.int IntKind.u64 0, Value.int IntKind.u64 0, Value.int IntKind.u64 0, Value.int IntKind.u64 0, Value.int IntKind.u64 0, Value.int IntKind.u64 0, Value.int IntKind.u64 0, Value.int IntKind.u64 0, Value.int IntKind.u64 0, Value.int IntKind.u64 0, Value.int IntKind.u64 0] 138)).alloc (Obj.cells #[Value.int IntKind.u64 0, Value.int IntKind.u64 0, Value.int IntKind.u64 0, Value.int IntKind.u64 0, Value.int IntKind.u64 0, Value.int IntKind.u64 0, Value.int IntKind.u64 0, Value.int IntKind.u64 0, Value.int IntKind.u64 0, Value.int IntKind.u64 0, Value.int IntKind.u64 0, Value.int IntKind.u64 0, Value.int IntKind.u64 0, Value.int IntKind.u64 0, Value.int IntKind.u64 0, Value.int IntKind.u64 0] 138)) ((w.alloc (Obj.cells (ints .i64 c).toArray 133)).heap.size + 1) 138 .u64 (List.replicate 16 0) := heap_alloc2_new _ _ _
   rw [show (w.alloc (Obj.cells (ints .i64 c).toArray 133)).heap.size = w.heap.size + 1 from by simp] at h1
   exact h1
 case round =>
  obtain ⟨k, hk, rfl, rfl, hB0, hB1, hB2, hbel⟩ := hrel
  have HB0 := Lib.hid hB0
  have HB1 := Lib.hid hB1
  have HB2 := Lib.hid hB2
  have Hbel := Lib.hid hbel
  clear hB0 hB1 hB2 hbel
  by_cases hlt : k < 15
  ·have hck := HB0.out.cell (j := k) (by omega)
   have hr := Hc.out k (by omega)
   have hf := firstAt_le c n (by omega) Hc.out k (by omega)
   have hst := HB2.out.frozen (1 + k)
   have hcl := HB2.out.cell (j := 1 + k) (by rw [firstsTo_length]; omega)
   have El := Lib.hid (show firstAt c (1 + k) = 2 * (firstAt c k + rd c k) from by rw [Nat.add_comm]; rfl)
   have s1 : ((1 : Int) + k).toNat = 1 + k := by omega
   have s2 : IntKind.i64.wrap (1 + (k : Int) - 1) = k := by rw [IntWalk.i64_in _ (by omega)]; omega
   go_wp2
   go_roundw
   case rel =>
    have e1 : (firstAt c k + rd c k) * 2 = firstAt c (1 + k) := by rw [El.out]; omega
    refine ⟨k + 1, by omega, by go_num, by rw [e1, Nat.add_comm], HB0.out.other _ _ (by simp; omega), HB1.out.other _ _ (by simp), ?_, Hbel.out.setCell (by simp; omega) _⟩
    rw [show 1 + (k + 1) = 1 + k + 1 from by omega, firstsTo_next c (1 + k) (by omega), ← e1]
    exact HB2.out.set _ _
   case measure => simp [intOf]; omega
  ·have hk15 : k = 15 := by omega
   rw [hk15, show 1 + 15 = 16 from rfl, firstsTo_all] at HB2
   clear hk15
   have hs : (ints .u64 (firstsOf c)).toArray.size = 16 := by rw [ints_size, firstsOf_length]
   have Hs := Lib.hid hs
   clear hs
   go_wp2_with (first
    | (refine wpList_load_row rfl 138 _ rfl (w.heap.size + 1 + 1) rfl 138 _ (0, 0) _ HB2.out Tryz.underlying138 rfl (by rw [Hs.out]; kernel_rfl) ?_)
    | (refine wpList_store_row rfl 138 _ _ rfl (w.heap.size + 1) _ rfl rfl 138 _ HB1.out (by rw [Hs.out]; kernel_rfl) (by rw [Hs.out]; simp [ints]) (ints_one _ _) ?_))
   have hrow := setRow_heap _ (w.heap.size + 1) _ (ints .u64 (firstsOf c)).toArray 138 _ HB1.out
   have hl := run_loadVar_row (P := Tryz.prog) _ (w.heap.size + 1) 138 138 _ _ _ hrow Tryz.underlying138 rfl (by rw [Hs.out]; kernel_rfl)
   refine bodyPost_ret (v := .agg (ints .u64 (firstsOf c)).toArray) ?_ rfl ⟨rfl, ?_⟩
   ·simp [results, Tryz.results83, asAddr, hl, Act.put]
   ·exact Hbel.out.trans ⟨rfl, rfl, rfl, by simp, fun i hi => setRow_other _ (w.heap.size + 1) i _ (by omega)⟩
end Go.Proofs.YtdbkbeojedndbaaGreatDoor
