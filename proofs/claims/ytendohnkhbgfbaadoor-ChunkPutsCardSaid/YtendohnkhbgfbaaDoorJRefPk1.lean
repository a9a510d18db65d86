/-
  Texts joined into one file: B, ShaP, U32, C, Rot, A, Fr.
-/
import Derived.Test.YtendohnkhbgfbaaDoorRows
import Derived.WalkKit
import Derived.WalkSpells
import Derived.WalkLawsBesides
import Derived.Deep.QuietTactic
import Derived.BigQuiet
import Derived.Lib.Hide
import Derived.Laws.StructEq
import Derived.KernelRfl
import Derived.SizedLaws
import Derived.ChangeSlices
import Derived.Laws.BitsAllLaws
import Derived.IntWalk
import Derived.WalkSmall
import Derived.Laws.AppendOwnNone
import Derived.OneCell
import Derived.Deep.AppendLies
namespace Go.Proofs.YtendohnkhbgfbaaDoor
open Go.RowKit

theorem laid_kept {w w' : World} {vs : Array Value} {T : TypeId} (hb : Below (w.alloc (Obj.cells vs T)).heap.size (w.alloc (Obj.cells vs T)) w') (i : Nat) (v : Value) (h : vs[i]? = some v) :
  w'.cell? ⟨w.heap.size, i, none⟩ = some v ∧ w'.frozen? ⟨w.heap.size, i, none⟩ = false :=
 ⟨(hb.cell (p := ⟨w.heap.size, i, none⟩) (by simp)).trans (by simp [h]), (hb.frozen (p := ⟨w.heap.size, i, none⟩) (by simp)).trans (by simp)⟩
theorem kept_cell {w w' : World} (hb : Below w.heap.size w w') {a : Addr} {v : Value} (h : w.cell? a = some v) : w'.cell? a = some v := (hb.cell (World.block_lt_of_cell? w a h)).trans h
theorem kept_new {w : World} {a : Addr} {v : Value} (h : w.cell? a = some v) (o : Obj) : (w.alloc o).cell? a = some v := kept_cell ((Below.refl _ _).alloc (Nat.le_refl _) _) h
theorem kept_new2 {w : World} {a : Addr} {v : Value} (h : w.cell? a = some v) (o o' : Obj) : ((w.alloc o).alloc o').cell? a = some v := kept_new (kept_new h o) o'
theorem below_seq {B : Nat} {w w1 w2 : World} (h : Below B w w1) (hB : B ≤ w.heap.size) (k : Below w1.heap.size w1 w2) : Below B w w2 := h.trans (k.mono (Nat.le_trans hB h.size))
theorem below_new {B : Nat} {w w1 : World} (h : Below B w w1) (hB : B ≤ w.heap.size) (o : Obj) : Below B w (w1.alloc o) := h.alloc (Nat.le_trans hB h.size) o

/-! ### rows that the call owns -/
theorem own_below {w w1 : World} {base : Nat} {e : TypeId} {size n : Nat} {v : Value} {xs : List Value} (h : w.ownsRow base e size v n xs) (hb : Below w.heap.size w w1) : w1.ownsRow base e size v n xs :=
 h.kept ⟨hb.os, hb.tape, hb.output, hb.size, fun i hi _ => hb.block i hi⟩ (row := none) (by cases v.ownBlock <;> simp)
theorem own_slice {w : World} {base n : Nat} {e : TypeId} {size : Nat} {v : Value} {xs : List Value} (h : w.ownsRow base e size v n xs) : ∃ A c, v = .slice A n c := by
 rcases h.2 with ⟨rfl, rfl⟩ | ⟨g, cap, cur, rfl, _⟩
 ·exact ⟨none, 0, rfl⟩
 ·exact ⟨_, cap, rfl⟩
theorem own_form {w : World} {base n : Nat} {e : TypeId} {size : Nat} {v : Value} {xs : List Value} (h : w.ownsRow base e size v n xs) (hn : 0 < n) :
  ∃ g c, v = .slice (some ⟨g, 0, none⟩) n c ∧ base ≤ g ∧ g < w.heap.size ∧ n ≤ c ∧ (∀ j u, xs[j]? = some u → w.cell? ⟨g, j, none⟩ = some u) ∧ ∀ j, w.frozen? ⟨g, j, none⟩ = false := by
 rcases h.2 with ⟨rfl, rfl⟩ | ⟨g, cap, cur, rfl, hb, hh, hc, _⟩
 ·omega
 ·refine ⟨g, cap, rfl, hb, (Array.getElem?_eq_some_iff.1 hh).1, hc, fun j u hj => ?_, fun j => h.frozenAt j⟩
  have hl : j < xs.length := (List.getElem?_eq_some_iff.1 hj).1
  rw [h.cellAt j (by rw [h.1] at hl; exact hl)]
  exact hj
theorem own_mono {w : World} {base base' n : Nat} {e : TypeId} {size : Nat} {v : Value} {xs : List Value} (h : w.ownsRow base e size v n xs) (hb : base' ≤ base) : w.ownsRow base' e size v n xs := by
 refine ⟨h.1, ?_⟩
 rcases h.2 with h2 | ⟨g, cap, cur, hv, hg, r⟩
 ·exact .inl h2
 ·exact .inr ⟨g, cap, cur, hv, Nat.le_trans hb hg, r⟩
theorem below_app {B : Nat} {w w1 w2 : World} {base : Nat} {e : TypeId} {size n : Nat} {v : Value} {xs : List Value} (h : Below B w w1) (hB : B ≤ w.heap.size) (ho : w1.ownsRow base e size v n xs) (hbase : B ≤ base) (hg : w1.grownBy w2 v.ownBlock) : Below B w w2 :=
 h.grown hg (Nat.le_trans hB h.size) (fun k hk => Nat.le_trans hbase (ho.lt k hk).1)
theorem news_at (w : World) (vs : Array Value) (T : TypeId) : ∀ j u, vs.toList[j]? = some u → (w.alloc (Obj.cells vs T)).cell? ((⟨w.heap.size, 0, none⟩ : Addr).add j) = some u := by
 intro j u hu
 have : (⟨w.heap.size, 0, none⟩ : Addr).add j = ⟨w.heap.size, j, none⟩ := by unfold Addr.add; split <;> simp_all
 rw [this]
 simpa using hu
/-! ### append of one element that is built right ahead of it -/
structure ElT (P : Program) (t e : TypeId) (z : Value) (size bytes : Nat) : Prop where
 und : P.underlying t = some (.slice e)
 info : (P.info? e).map (fun i => (i.zero, i.size, i.bytes)) = some (some z, size, bytes)
 zs : z.cells.size = size
 pos : 0 < size
 bpos : 0 < bytes
theorem wpList_app1 {P : Program} {wr : World} {ops : Array Oper} {rest : List Oper} {o : Oper} {a : Act} {Q : Exit → Act → World → Prop} (hgd : o.guard = none) (s x : Operand) {t : TypeId}
  (ho : o.op = .call { callee := .builtin .append, args := #[s, x], argTypes := #[t, t] })
  {base : Nat} {e : TypeId} {z : Value} {size bytes : Nat} (El : ElT P t e z size bytes) {v : Value} {n : Nat} {xs : List Value} (hown : wr.ownsRow base e size v n xs)
  (hs : a.eval s = v) {vs : Array Value} {T : TypeId} (hx : a.eval x = .slice (some ⟨wr.heap.size, 0, none⟩) 1 1) (hl : vs.size = size) (h1 : vs.toList.all (fun u => u.oneCell') = true)
  (hbytes : (n + 1) * bytes ≤ 140737488355328) (hbase : base ≤ wr.heap.size)
  (h : ∀ v' w', w'.ownsRow base e size v' (n + 1) (xs ++ vs.toList) → Below base wr w' → (wr.alloc (.cells vs T)).grownBy w' v.ownBlock → wpList P ops Q rest (a.put o.dst v') w') : wpList P ops Q (o :: rest) a (wr.alloc (.cells vs T)) := by
 obtain ⟨i0, hi, hz0, hz1, hz2⟩ := info_parts El.info
 have hn : n + 1 ≤ maxLen := by
  have := Nat.mul_le_mul_left (n + 1) El.bpos
  unfold maxLen
  omega
 refine wpList_append_own _ hgd s x t ho base e i0 z size bytes El.und hi hz0 hz1 hz2 El.zs El.pos v n xs hs (hown.alloc _) ⟨wr.heap.size, 0, none⟩ 1 1 vs.toList hx (by simpa using hl) (news_at _ _ _) (fun u hu => List.all_eq_true.1 h1 u hu) hn hbytes (by simp; omega) ?_
 intro v' w' h2 h3 _
 refine h v' w' h2 ?_ h3
 refine ((Below.refl base wr).alloc hbase _).grown h3 (by simp; omega) (fun k hk => (hown.lt k hk).1)
theorem wpList_app2 {P : Program} {wr : World} {ops : Array Oper} {rest : List Oper} {o : Oper} {a : Act} {Q : Exit → Act → World → Prop} (hgd : o.guard = none) (s x : Operand) {t : TypeId}
  (ho : o.op = .call { callee := .builtin .append, args := #[s, x], argTypes := #[t, t] })
  {base : Nat} {e : TypeId} {z : Value} {size bytes : Nat} (El : ElT P t e z size bytes) {v : Value} {n : Nat} {xs : List Value} (hown : wr.ownsRow base e size v n xs)
  (hs : a.eval s = v) {vs : Array Value} {T : TypeId} {bx : Nat} (hx : a.eval x = .slice (some ⟨bx, 0, none⟩) 1 1) (hbx : bx = wr.heap.size) (hl : vs.size = size) (h1 : vs.toList.all (fun u => u.oneCell') = true)
  (hbytes : (n + 1) * bytes ≤ 140737488355328) (hbase : base ≤ wr.heap.size)
  (h : ∀ v' w', w'.ownsRow base e size v' (n + 1) (xs ++ vs.toList) → Below base wr w' → (wr.alloc (.cells vs T)).grownBy w' v.ownBlock → wpList P ops Q rest (a.put o.dst v') w') : wpList P ops Q (o :: rest) a (wr.alloc (.cells vs T)) := by
 subst hbx
 exact wpList_app1 hgd s x ho El hown hs hx hl h1 hbytes hbase h
theorem own_other {w w' : World} {base : Nat} {e : TypeId} {size n : Nat} {v : Value} {xs : List Value} {o : Obj} {row : Option Nat} (h : w.ownsRow base e size v n xs) (hg : (w.alloc o).grownBy w' row) (hne : v.ownBlock = none ∨ v.ownBlock ≠ row) : w'.ownsRow base e size v n xs :=
 (h.alloc o).kept hg hne
structure Later (W0 W : World) : Prop where
 bel : Below W0.heap.size W0 W
theorem Later.refl (W0 : World) : Later W0 W0 := ⟨Below.refl _ _⟩
theorem Later.drew {W0 W : World} (h : Later W0 W) : Later W0 W.drew := ⟨h.bel.drew⟩
theorem Later.step {W0 W W' : World} (h : Later W0 W) (k : Below W.heap.size W W') : Later W0 W' := ⟨below_seq h.bel (Nat.le_refl _) k⟩
theorem Later.alloc {W0 W : World} (h : Later W0 W) (o : Obj) : Later W0 (W.alloc o) := ⟨below_new h.bel (Nat.le_refl _) o⟩
theorem Later.cell {W0 : World} {a : Addr} {v : Value} (h : W0.cell? a = some v) : ∀ W, Later W0 W → W.cell? a = some v := fun _ k => kept_cell k.bel h
/-! ### '==' of structs, field by field -/
theorem eqFields_cons {P : Program} {d : Nat} {xs ys : Array Value} {f : Field} {fs : List Field} {a b : Value} {r s : Bool} {w : World} (hn : (f.name == "_") = false)
  (ha : (part f.type xs f.offset).run P w = .ok a w) (hb : (part f.type ys f.offset).run P w = .ok b w) (he : (Op.equalIn d f.type a b).run P w = .ok r w)
  (hr : (Op.eqFields d xs ys fs).run P w = .ok s w) : (Op.eqFields d xs ys (f :: fs)).run P w = .ok (r && s) w := by
 have hn' : f.name ≠ "_" := by simpa using hn
 rw [Op.eqFields]
 simp only [if_pos hn', Sem.run_bind, ha, hb, he, Result.andThen_ok]
 cases r
 ·simp
 ·simpa using hr
theorem eqFields_nil {P : Program} {d : Nat} {xs ys : Array Value} {w : World} : (Op.eqFields d xs ys []).run P w = .ok true w := by simp [Op.eqFields]
theorem eqStruct_of {P : Program} {d : Nat} {xs ys : Array Value} {t : TypeId} {fs : Array Field} {r : Bool} {w : World} (hu : P.underlying t = some (.struct fs)) (hp : P.stoodInHeld t = false) (h : (Op.eqFields d xs ys fs.toList).run P w = .ok r w) : (Op.equalIn (d + 1) t (.agg xs) (.agg ys)).run P w = .ok r w := by
 have hf : P.fieldsOf t = fs := by simp [Program.fieldsOf, hu]
 rw [run_equalIn_struct (P := P) w d t xs ys (by rw [hf]; exact hu) hp, hf]
 exact h
theorem eqInt_of {P : Program} {d : Nat} {t : TypeId} {k : IntKind} {w : World} (hu : P.underlying t = some (.int k)) (a b : Int) : (Op.equalIn (d + 1) t (.int k a) (.int k b)).run P w = .ok (a == b) w := by
 simp [Op.equalIn, run_underlying hu]
theorem binEql_of {P : Program} {t : TypeId} {xs ys : Array Value} {r : Bool} {w : World} (h : (Op.equalIn (9998 + 2) t (.agg xs) (.agg ys)).run P w = .ok r w) : (binOp .eql t (.agg xs) (.agg ys)).run P w = .ok (.bool r) w := by
 simp only [binOp]
 simp only [Op.equal, Op.maxDepth, Sem.run_bind]
 have h' : Sem.run P (Op.equalIn 10000 t (.agg xs) (.agg ys)) w = .ok r w := h
 rw [h']
 rfl
theorem below_drewN {B : Nat} {w w1 : World} (h : Below B w w1) (n : Nat) : Below B w (w1.drewN n) := ⟨h.os, h.tape, h.output, h.size, h.block⟩
theorem drawn3 (w : World) (o : Obj) (n : Nat) (u0 u1 u2 : Value) : Below w.heap.size w (((((w.alloc o).drewN n).setCell ⟨w.heap.size, 0, none⟩ u0).setCell ⟨w.heap.size, 1, none⟩ u1).setCell ⟨w.heap.size, 2, none⟩ u2) :=
 (((below_drewN ((Below.refl _ _).alloc (Nat.le_refl _) o) n).setCell (Nat.le_refl _) u0).setCell (Nat.le_refl _) u1).setCell (Nat.le_refl _) u2
/-! ### slices of numbers that are read; blocks of numbers that the call made -/
def rd (xs : List Int) (j : Nat) : Int := xs.getD j 0
theorem rd_getElem {xs : List Int} {j : Nat} (h : j < xs.length) : rd xs j = xs[j] := by simp [rd, List.getD_eq_getElem?_getD, List.getElem?_eq_getElem h]
theorem rd_set {xs : List Int} {j m : Nat} {v : Int} (h : m < xs.length) : rd (xs.set m v) j = if m = j then v else rd xs j := by
 unfold rd
 simp only [List.getD_eq_getElem?_getD, List.getElem?_set]
 split
 ·simp_all
 ·rfl
def Rd (w : World) (k : IntKind) (A : Option Addr) (n : Nat) (xs : List Int) : Prop :=
 xs.length = n ∧ (0 < n → ∃ b o, A = some ⟨b, o, none⟩ ∧ ∀ j, j < n → w.cell? ⟨b, o + j, none⟩ = some (.int k (rd xs j)))
theorem Rd.below {w w1 : World} {k : IntKind} {A : Option Addr} {n : Nat} {xs : List Int} (h : Rd w k A n xs) (hb : Below w.heap.size w w1) : Rd w1 k A n xs :=
 ⟨h.1, fun hn => by obtain ⟨b, o, e, hc⟩ := h.2 hn; exact ⟨b, o, e, fun j hj => kept_cell hb (hc j hj)⟩⟩
theorem Rd.drew {w : World} {k : IntKind} {A : Option Addr} {n : Nat} {xs : List Int} (h : Rd w k A n xs) : Rd w.drew k A n xs := h.below (Below.refl _ _).drew
theorem Rd.alloc {w : World} {k : IntKind} {A : Option Addr} {n : Nat} {xs : List Int} (h : Rd w k A n xs) (o : Obj) : Rd (w.alloc o) k A n xs := h.below ((Below.refl _ _).alloc (Nat.le_refl _) _)
def ints (k : IntKind) (l : List Int) : List Value := l.map (Value.int k)
theorem ints_length (k : IntKind) (l : List Int) : (ints k l).length = l.length := by simp [ints]
theorem ints_append (k : IntKind) (a b : List Int) : ints k (a ++ b) = ints k a ++ ints k b := by simp [ints]
theorem ints_set (k : IntKind) (l : List Int) (j : Nat) (v : Int) : ints k (l.set j v) = (ints k l).set j (.int k v) := by simp [ints, List.map_set]
theorem ints_get {k : IntKind} {l : List Int} {j : Nat} (h : j < l.length) : (ints k l)[j]? = some (.int k (rd l j)) := by simp [ints, rd_getElem h, List.getElem?_eq_getElem h]
theorem ints_one (k : IntKind) (l : List Int) : (ints k l).toArray.all (fun u => u.oneCell') = true := by simp [ints, Value.oneCell']
theorem ints_size (k : IntKind) (l : List Int) : (ints k l).toArray.size = l.length := by simp [ints]
def Blk (w : World) (b : Nat) (T : TypeId) (k : IntKind) (l : List Int) : Prop := w.heap[b]? = some (.cells (ints k l).toArray T (0, 0))
theorem Blk.cell {w : World} {b : Nat} {T : TypeId} {k : IntKind} {l : List Int} (h : Blk w b T k l) {j : Nat} (hj : j < l.length) : w.cell? ⟨b, j, none⟩ = some (.int k (rd l j)) := by
 rw [cell_of_row w b j _ T (0, 0) h, List.getElem?_toArray, ints_get hj]
theorem Blk.frozen {w : World} {b : Nat} {T : TypeId} {k : IntKind} {l : List Int} (h : Blk w b T k l) (j : Nat) : w.frozen? ⟨b, j, none⟩ = false := frozen_of_row w b j _ T h
theorem Blk.set {w : World} {b : Nat} {T : TypeId} {k : IntKind} {l : List Int} (h : Blk w b T k l) (j : Nat) (v : Int) : Blk (w.setCell ⟨b, j, none⟩ (.int k v)) b T k (l.set j v) := by
 unfold Blk
 rw [heap_setCell_same w b j _ T _ h, ints_set]
 simp
theorem Blk.lt {w : World} {b : Nat} {T : TypeId} {k : IntKind} {l : List Int} (h : Blk w b T k l) : b < w.heap.size := (Array.getElem?_eq_some_iff.1 h).1
theorem Blk.other {w : World} {b : Nat} {T : TypeId} {k : IntKind} {l : List Int} (h : Blk w b T k l) (a : Addr) (v : Value) (hne : b ≠ a.block) : Blk (w.setCell a v) b T k l := (heap_setCell_other w a b v hne).trans h
theorem Blk.alloc {w : World} {b : Nat} {T : TypeId} {k : IntKind} {l : List Int} (h : Blk w b T k l) (o : Obj) : Blk (w.alloc o) b T k l := (Below.heap_alloc _ _ _ h.lt).trans h
theorem Blk.below {w w' : World} {b : Nat} {T : TypeId} {k : IntKind} {l : List Int} (h : Blk w b T k l) {B : Nat} (hb : Below B w w') (hB : b < B) : Blk w' b T k l := (hb.block b hB).trans h
theorem Blk.rd {w : World} {b : Nat} {T : TypeId} {k : IntKind} {l : List Int} (h : Blk w b T k l) {n : Nat} (hn : l.length = n) : Rd w k (some ⟨b, 0, none⟩) n l :=
 ⟨hn, fun _ => ⟨b, 0, rfl, fun j hj => by rw [Nat.zero_add]; exact h.cell (by omega)⟩⟩
theorem own_rd {w : World} {base n : Nat} {e : TypeId} {k : IntKind} {v : Value} {xs : List Int} (h : w.ownsRow base e 1 v n (ints k xs)) : ∃ A c, v = .slice A n c ∧ n ≤ c ∧ Rd w k A n xs := by
 have hl : xs.length = n := by have := h.1; simpa [ints] using this
 rcases Nat.eq_zero_or_pos n with h0 | h0
 ·obtain ⟨A, c, hv⟩ := own_slice h
  exact ⟨A, c, hv, by omega, hl, fun hp => by omega⟩
 ·obtain ⟨g, c, hv, _, _, hc, hcell, _⟩ := own_form h h0
  exact ⟨_, c, hv, hc, hl, fun _ => ⟨g, 0, rfl, fun j hj => by rw [Nat.zero_add]; exact hcell j _ (ints_get (by omega))⟩⟩
theorem Blk.own {w : World} {b : Nat} {T : TypeId} {k : IntKind} {l : List Int} (h : Blk w b T k l) {n base : Nat} (hn : l.length = n) (hb : base ≤ b) (hm : n ≤ maxLen) : w.ownsRow base T 1 (.slice (some ⟨b, 0, none⟩) n n) n (ints k l) :=
 ⟨by rw [ints_length, hn, Nat.mul_one], .inr ⟨b, n, _, rfl, hb, h, Nat.le_refl _, hm, by simp [ints_length, hn], by simp; exact List.take_of_length_le (by rw [ints_length, hn]; exact Nat.le_refl _)⟩⟩
theorem wpList_mk1 {P : Program} (w : World) {ops : Array Oper} {rest : List Oper} {o : Oper} {a : Act} {Q : Exit → Act → World → Prop} (hg : o.guard = none) (l c : Operand) {t : TypeId} (hop : o.op = Op.makeSlice t l c)
  {base : Nat} {e : TypeId} {k : IntKind} {bytes : Nat} (El : ElT P t e (.int k 0) 1 bytes) {kl kc : IntKind} {L C : Int} {n : Nat} (hl : a.eval l = .int kl L) (hc : a.eval c = .int kc C) (hL : L = (n : Int)) (hC : C = (n : Int))
  (hbytes : bytes * n ≤ 140737488355328) (hbase : base ≤ w.heap.size)
  (hK : ∀ w', w'.ownsRow base e 1 (.slice (some ⟨w.heap.size, 0, none⟩) n n) n (ints k (List.replicate n 0)) → Below w.heap.size w w' → w'.heap.size = w.heap.size + 1 → wpList P ops Q rest (a.put o.dst (.slice (some ⟨w.heap.size, 0, none⟩) n n)) w') :
  wpList P ops Q (o :: rest) a w := by
 obtain ⟨i0, hi, hz0, hz1, hz2⟩ := info_parts El.info
 subst hL hC
 have hn : n ≤ maxLen := by
  have := Nat.mul_le_mul_right n El.bpos
  unfold maxLen
  omega
 have hn' : (n : Int) ≤ 9223372036854775807 := by unfold maxLen at hn; omega
 have hb' : (i0.bytes : Int) * n ≤ 281474976710656 := by
  rw [hz2]
  have h : ((bytes * n : Nat) : Int) ≤ 281474976710656 := by omega
  rwa [Int.natCast_mul] at h
 have hr := run_make (P := P) w t e i0 (.int k 0) El.und hi hz0 kl kc n n (by omega) (Int.le_refl _) hb' hn'
 simp only [Int.toNat_natCast] at hr
 refine wpList_plain hg fun K hK' => ?_
 unfold Oper.wp
 simp [execOp, hop, hl, hc, hr, Result.andThen]
 refine hK' _ _ (hK _ ?_ ((Below.refl _ _).alloc (Nat.le_refl _) _) (by simp))
 have hz : i0.size = 1 := hz1
 have e1 : (madeCells (Value.int k 0).cells (n * i0.size)).toList = ints k (List.replicate n 0) := by
  rw [hz, Nat.mul_one]
  show (madeCells #[Value.int k 0] n).toList = _
  rw [toList_madeCells_one]
  simp [ints]
 rw [← e1]
 exact World.ownsRow_lit w _ n hbase hn (by rw [size_madeCells, hz])
/-! ### a row's slices of numbers -/
def IsRow (k : IntKind) (w : World) (a : Option Addr) (len cap : Nat) (zs : List Int) : Prop :=
 (a = none ∧ len = 0 ∧ cap = 0 ∧ zs = []) ∨
 ∃ x, a = some x ∧ len ≤ cap ∧ cap ≤ maxLen ∧ zs.length = cap ∧ (∀ i, i < zs.length → w.cell? (x.add i) = some (.int k (zs.getD i 0))) ∧ ∀ n ∈ zs, (Lit.int k n).wf = true
theorem IsRow.rd {k : IntKind} {w : World} {a : Option Addr} {len cap : Nat} {zs : List Int} (h : IsRow k w a len cap zs) : Rd w k a len (zs.take len) := by
 rcases h with ⟨rfl, rfl, rfl, rfl⟩ | ⟨⟨b, o, s⟩, rfl, hl, hm, hz, hc, hw⟩
 ·exact ⟨rfl, fun h => by omega⟩
 ·refine ⟨by simp; omega, fun hn => ?_⟩
  have hs : s = none := by simpa [Addr.add] using World.cell?_spot (hc 0 (by omega))
  subst hs
  refine ⟨b, o, rfl, fun j hj => ?_⟩
  have e : (⟨b, o, none⟩ : Addr).add j = ⟨b, o + j, none⟩ := by unfold Addr.add; split <;> simp_all
  have := hc j (by omega)
  rw [e] at this
  rw [this, rd_getElem (by simp; omega)]
  simp [List.getD_eq_getElem?_getD, List.getElem?_eq_getElem (show j < zs.length by omega)]
theorem IsRow.wf {k : IntKind} {w : World} {a : Option Addr} {len cap : Nat} {zs : List Int} (h : IsRow k w a len cap zs) : ∀ j, j < len → (Lit.int k (Go.Proofs.YtendohnkhbgfbaaDoor.rd (zs.take len) j)).wf = true := by
 intro j hj
 rcases h with ⟨rfl, rfl, rfl, rfl⟩ | ⟨x, rfl, hl, hm, hz, hc, hw⟩
 ·omega
 ·rw [rd_getElem (by simp; omega)]
  exact hw _ (List.mem_of_mem_take (List.getElem_mem _))
theorem u8_of_wf {n : Int} (h : (Lit.int .u8 n).wf = true) : 0 ≤ n ∧ n ≤ 255 := by
 simp [Lit.wf, IntKind.min, IntKind.max, IntKind.signed, IntKind.bits] at h
 omega
theorem u16_of_wf {n : Int} (h : (Lit.int .u16 n).wf = true) : 0 ≤ n ∧ n ≤ 65535 := by
 simp [Lit.wf, IntKind.min, IntKind.max, IntKind.signed, IntKind.bits] at h
 omega
theorem IsRow.u8 {w : World} {a : Option Addr} {len cap : Nat} {zs : List Int} (h : IsRow .u8 w a len cap zs) : ∀ j, j < len → 0 ≤ Go.Proofs.YtendohnkhbgfbaaDoor.rd (zs.take len) j ∧ Go.Proofs.YtendohnkhbgfbaaDoor.rd (zs.take len) j ≤ 255 := fun j hj => u8_of_wf (h.wf j hj)
theorem sized_ints {H : Type} {enc : TypeId × Value → H} {P : Program} {W : World} {base : Nat} {spare : Nat → Bool} {held : Bool} {t e : TypeId} {k : IntKind} {a : Option Addr} {len cap : Nat} {d : DataW H} {ps : List MemPlace} {ts : List TypeId} {ds : List (DataW H)} {j : Nat}
  (hsz : (DataW.weightsEach P ts ds).all (· ≤ reachBytes) = true) (ht : ts[j]? = some t) (hd : ds[j]? = some d) (hu : P.underlying t = some (.slice e)) (he : P.underlying e = some (.int k)) (hc : P.cellsOf e = 1) {B : Nat} (hB : P.bytesOf e = B)
  (h : DataW.Trod enc P W base spare held t (.slice a len cap) d ps) : len * B ≤ 140737488351232 := by
 obtain ⟨fuel, hf⟩ := h
 rcases Go.ChangeShapes.open_ints hu he hc hf with ⟨hcs, _⟩ | ⟨x, l, c, zs, hcs, _, hl, _, hz, hx, _, _⟩
 ·simp [Value.cells] at hcs
  obtain ⟨rfl, rfl, rfl⟩ := hcs
  simp
 ·simp [Value.cells] at hcs
  obtain ⟨rfl, rfl, rfl⟩ := hcs
  obtain ⟨hx, _⟩ := Prod.mk.inj hx
  subst hx
  have z := sized_slice hsz ht hd hu
  rw [hB] at z
  have hlz : len ≤ zs.length := by rw [hz]; split <;> omega
  have hsum : (Go.ChangeShapes.lits (H := H) k (zs.take len)).length + (Go.ChangeShapes.lits (H := H) k (zs.drop len)).length = zs.length := by
   simp [Go.ChangeShapes.lits]
   omega
  rw [hsum] at z
  exact Nat.le_trans (Nat.mul_le_mul_right _ hlz) z
end Go.Proofs.YtendohnkhbgfbaaDoor
namespace Go.Proofs.YtendohnkhbgfbaaDoor
open Go.RowKit

abbrev W32 := BitVec 32
def rotr (x : W32) (n : Nat) : W32 := x.rotateRight n
def sg0 (x : W32) : W32 := rotr x 7 ^^^ rotr x 18 ^^^ (x >>> 3)
def sg1 (x : W32) : W32 := rotr x 17 ^^^ rotr x 19 ^^^ (x >>> 10)
def bg0 (x : W32) : W32 := rotr x 2 ^^^ rotr x 13 ^^^ rotr x 22
def bg1 (x : W32) : W32 := rotr x 6 ^^^ rotr x 11 ^^^ rotr x 25
def chS (e f g : W32) : W32 := (e &&& f) ^^^ (~~~e &&& g)
def majS (a b c : W32) : W32 := (a &&& b) ^^^ (a &&& c) ^^^ (b &&& c)
theorem chS_or (e f g : W32) : chS e f g = (e &&& f) ||| (~~~e &&& g) := by
 unfold chS
 ext i hi
 simp
 cases e[i] <;> cases f[i] <;> cases g[i] <;> rfl
theorem majS_or (a b c : W32) : majS a b c = (a &&& b) ||| (a &&& c) ||| (b &&& c) := by
 unfold majS
 ext i hi
 simp
 cases a[i] <;> cases b[i] <;> cases c[i] <;> rfl
def be4 (b : List Int) (p : Nat) : W32 := BitVec.ofNat 32 ((((rd b p).toNat * 256 + (rd b (p + 1)).toNat) * 256 + (rd b (p + 2)).toNat) * 256 + (rd b (p + 3)).toNat)
def sch (b : List Int) (p : Nat) (j : Nat) : W32 :=
 if h : j < 16 then be4 b (p + 4 * j) else sch b p (j - 16) + sg0 (sch b p (j - 15)) + sch b p (j - 7) + sg1 (sch b p (j - 2))
termination_by j
decreasing_by all_goals omega
theorem sch_low {b : List Int} {p j : Nat} (h : j < 16) : sch b p j = be4 b (p + 4 * j) := by rw [sch, dif_pos h]
theorem sch_high {b : List Int} {p j : Nat} (h : 16 ≤ j) : sch b p j = sch b p (j - 16) + sg0 (sch b p (j - 15)) + sch b p (j - 7) + sg1 (sch b p (j - 2)) := by
 rw [sch, dif_neg (by omega)]
structure S8 where
 (a b c d e f g h : W32)
def S8.at (s : S8) : Nat → W32
 | 0 => s.a | 1 => s.b | 2 => s.c | 3 => s.d | 4 => s.e | 5 => s.f | 6 => s.g | _ => s.h
def S8.plus (s t : S8) : S8 := ⟨s.a + t.a, s.b + t.b, s.c + t.c, s.d + t.d, s.e + t.e, s.f + t.f, s.g + t.g, s.h + t.h⟩
theorem S8.plus_at (s t : S8) (j : Nat) : (s.plus t).at j = s.at j + t.at j := by
 unfold S8.at S8.plus
 split <;> rfl
def tS (s : S8) (k w : W32) : W32 := s.h + bg1 s.e + chS s.e s.f s.g + k + w
def uS (s : S8) : W32 := bg0 s.a + majS s.a s.b s.c
def roundS (s : S8) (k w : W32) : S8 := ⟨tS s k w + uS s, s.a, s.b, s.c, s.d + tS s k w, s.e, s.f, s.g⟩
def keyL : List Int := [
 0x428a2f98, 0x71374491, 0xb5c0fbcf, 0xe9b5dba5, 0x3956c25b, 0x59f111f1, 0x923f82a4, 0xab1c5ed5,
 0xd807aa98, 0x12835b01, 0x243185be, 0x550c7dc3, 0x72be5d74, 0x80deb1fe, 0x9bdc06a7, 0xc19bf174,
 0xe49b69c1, 0xefbe4786, 0x0fc19dc6, 0x240ca1cc, 0x2de92c6f, 0x4a7484aa, 0x5cb0a9dc, 0x76f988da,
 0x983e5152, 0xa831c66d, 0xb00327c8, 0xbf597fc7, 0xc6e00bf3, 0xd5a79147, 0x06ca6351, 0x14292967,
 0x27b70a85, 0x2e1b2138, 0x4d2c6dfc, 0x53380d13, 0x650a7354, 0x766a0abb, 0x81c2c92e, 0x92722c85,
 0xa2bfe8a1, 0xa81a664b, 0xc24b8b70, 0xc76c51a3, 0xd192e819, 0xd6990624, 0xf40e3585, 0x106aa070,
 0x19a4c116, 0x1e376c08, 0x2748774c, 0x34b0bcb5, 0x391c0cb3, 0x4ed8aa4a, 0x5b9cca4f, 0x682e6ff3,
 0x748f82ee, 0x78a5636f, 0x84c87814, 0x8cc70208, 0x90befffa, 0xa4506ceb, 0xbef9a3f7, 0xc67178f2]
def firstL : List Int := [0x6a09e667, 0xbb67ae85, 0x3c6ef372, 0xa54ff53a, 0x510e527f, 0x9b05688c, 0x1f83d9ab, 0x5be0cd19]
def w32 (z : Int) : W32 := BitVec.ofNat 32 z.toNat
def keyS (j : Nat) : W32 := w32 (rd keyL j)
def firstS : S8 := ⟨w32 (rd firstL 0), w32 (rd firstL 1), w32 (rd firstL 2), w32 (rd firstL 3), w32 (rd firstL 4), w32 (rd firstL 5), w32 (rd firstL 6), w32 (rd firstL 7)⟩
def roundsS (b : List Int) (p : Nat) (s : S8) : Nat → S8
 | 0 => s
 | n + 1 => roundS (roundsS b p s n) (keyS n) (sch b p n)
def blockS8 (b : List Int) (p : Nat) (s : S8) : S8 := s.plus (roundsS b p s 64)
def blocksS (b : List Int) : Nat → S8
 | 0 => firstS
 | n + 1 => blockS8 b (64 * n) (blocksS b n)
def beB (n : Nat) : List Int := [(n / 2 ^ 56 % 256 : Nat), (n / 2 ^ 48 % 256 : Nat), (n / 2 ^ 40 % 256 : Nat), (n / 2 ^ 32 % 256 : Nat), (n / 2 ^ 24 % 256 : Nat), (n / 2 ^ 16 % 256 : Nat), (n / 2 ^ 8 % 256 : Nat), (n % 256 : Nat)]
def zerosN (n : Nat) : Nat := (119 - n % 64) % 64
def padS (b : List Int) : List Int := b ++ (128 :: (List.replicate (zerosN b.length) 0 ++ beB (8 * b.length)))
def wordB (x : W32) : List Int := [(x.toNat / 16777216 : Nat), (x.toNat / 65536 % 256 : Nat), (x.toNat / 256 % 256 : Nat), (x.toNat % 256 : Nat)]
def S8.bytes (s : S8) : List Int := wordB s.a ++ wordB s.b ++ wordB s.c ++ wordB s.d ++ wordB s.e ++ wordB s.f ++ wordB s.g ++ wordB s.h
def shaS (b : List Int) : List Int := (blocksS (padS b) ((padS b).length / 64)).bytes
theorem padS_length (b : List Int) : (padS b).length = b.length + 1 + zerosN b.length + 8 := by
 simp [padS, beB]; omega
theorem padS_mod (b : List Int) : (padS b).length % 64 = 0 := by
 rw [padS_length]; unfold zerosN; omega
theorem shaS_length (b : List Int) : (shaS b).length = 32 := rfl
theorem be4_cong {b c : List Int} {p q : Nat} (h : ∀ j, j < 4 → rd b (p + j) = rd c (q + j)) : be4 b p = be4 c q := by
 have h0 := h 0 (by omega)
 have h1 := h 1 (by omega)
 have h2 := h 2 (by omega)
 have h3 := h 3 (by omega)
 unfold be4
 rw [Nat.add_zero, Nat.add_zero] at h0
 rw [h0, h1, h2, h3]
theorem sch_cong {b c : List Int} {p q : Nat} (h : ∀ j, j < 64 → rd b (p + j) = rd c (q + j)) : ∀ j, sch b p j = sch c q j := by
 intro j
 induction j using Nat.strongRecOn with
 | ind j ih =>
  by_cases hj : j < 16
  ·rw [sch_low hj, sch_low hj]
   refine be4_cong (fun i hi => ?_)
   have := h (4 * j + i) (by omega)
   rw [Nat.add_assoc, Nat.add_assoc]
   exact this
  ·rw [sch_high (b := b) (p := p) (j := j) (by omega), sch_high (b := c) (p := q) (j := j) (by omega), ih (j - 16) (by omega), ih (j - 15) (by omega), ih (j - 7) (by omega), ih (j - 2) (by omega)]
theorem rounds_cong {b c : List Int} {p q : Nat} (h : ∀ j, j < 64 → rd b (p + j) = rd c (q + j)) (s : S8) : ∀ n, roundsS b p s n = roundsS c q s n := by
 intro n
 induction n with
 | zero => rfl
 | succ n ih => rw [roundsS, roundsS, ih, sch_cong h]
theorem block_cong {b c : List Int} {p q : Nat} (h : ∀ j, j < 64 → rd b (p + j) = rd c (q + j)) (s : S8) : blockS8 b p s = blockS8 c q s := by
 unfold blockS8
 rw [rounds_cong h]
theorem blocks_app (b c : List Int) : ∀ n, 64 * n ≤ b.length → blocksS (b ++ c) n = blocksS b n := by
 intro n
 induction n with
 | zero => intro _; rfl
 | succ n ih =>
  intro h
  rw [blocksS, blocksS, ih (by omega)]
  refine block_cong (fun j hj => ?_) _
  unfold rd
  rw [List.getD_eq_getElem?_getD, List.getD_eq_getElem?_getD, List.getElem?_append_left (by omega)]
end Go.Proofs.YtendohnkhbgfbaaDoor
namespace Go.Proofs.YtendohnkhbgfbaaDoor
open Go.RowKit

def wv (x : W32) : Int := (x.toNat : Int)
theorem wv_rng (x : W32) : 0 ≤ wv x ∧ wv x < 4294967296 := by
 have := x.isLt
 unfold wv
 omega
theorem wv_toNat (x : W32) : (wv x).toNat = x.toNat := rfl
theorem w32_wv (x : W32) : w32 (wv x) = x := by
 unfold w32 wv
 simp
theorem wv_w32 {z : Int} (h : 0 ≤ z ∧ z < 4294967296) : wv (w32 z) = z := by
 unfold w32 wv
 rw [BitVec.toNat_ofNat]
 omega
theorem wv_add (x y : W32) : IntKind.u32.wrap (wv x + wv y) = wv (x + y) := by
 unfold wv
 rw [BitVec.toNat_add, IntKind.wrap_u32]
 omega
theorem wv_addM (x y : W32) : (wv x + wv y) % (4294967296 : Int) = wv (x + y) := by rw [← IntKind.wrap_u32]; exact wv_add x y
theorem wv_add4 (x y z t : W32) : (wv x + wv y + wv z + wv t) % (4294967296 : Int) = wv (x + y + z + t) := by
 rw [← wv_addM, ← wv_addM, ← wv_addM]
 omega
theorem wv_add5 (x y z t u : W32) : (wv x + wv y + wv z + wv t + wv u) % (4294967296 : Int) = wv (x + y + z + t + u) := by
 rw [← wv_addM, ← wv_addM, ← wv_addM, ← wv_addM]
 omega
theorem wv_xor (x y : W32) : bits .xor .u32 (wv x) (wv y) = wv (x ^^^ y) := by
 unfold wv
 rw [u32_xor_nat _ _ x.isLt y.isLt, BitVec.toNat_xor]
theorem wv_and (x y : W32) : bits .and .u32 (wv x) (wv y) = wv (x &&& y) := by
 unfold wv
 rw [u32_and_nat _ _ x.isLt y.isLt, BitVec.toNat_and]
theorem wv_or (x y : W32) : bits .or .u32 (wv x) (wv y) = wv (x ||| y) := by
 unfold wv
 rw [u32_or_nat _ _ x.isLt y.isLt, BitVec.toNat_or]
theorem wv_shr (x : W32) (n : Nat) : wv x / 2 ^ n = wv (x >>> n) := by
 unfold wv
 rw [BitVec.toNat_ushiftRight, Nat.shiftRight_eq_div_pow]
 simp
theorem wv_shr3 (x : W32) : wv x / (8 : Int) = wv (x >>> 3) := wv_shr x 3

theorem wv_shr10 (x : W32) : wv x / (1024 : Int) = wv (x >>> 10) := wv_shr x 10
theorem wv_shl (x : W32) (n : Nat) : IntKind.u32.wrap (wv x * 2 ^ n) = wv (x <<< n) := by
 unfold wv
 rw [BitVec.toNat_shiftLeft, Nat.shiftLeft_eq, IntKind.wrap_u32]
 have e : ((x.toNat : Int) * 2 ^ n) = ((x.toNat * 2 ^ n : Nat) : Int) := by simp
 rw [e]
 omega
theorem wv_not (x : W32) : 4294967295 - wv x = wv (~~~x) := by
 have := x.isLt
 unfold wv
 rw [BitVec.toNat_not]
 omega
theorem wv_notx (x : W32) : bits .xor .u32 (if IntKind.u32.signed = true then -1 else IntKind.u32.max) (wv x) = wv (~~~x) := by
 have e : (if IntKind.u32.signed = true then -1 else IntKind.u32.max) = wv (BitVec.allOnes 32) := by decide
 rw [e, wv_xor]
 congr 1
theorem rotr_eq (x : W32) {n : Nat} (h : n < 32) : rotr x n = (x >>> n) ||| (x <<< (32 - n)) := by
 unfold rotr
 rw [BitVec.rotateRight_def, Nat.mod_eq_of_lt h]
theorem rotr_zero (x : W32) : rotr x 0 = x := by
 rw [rotr_eq x (by omega)]
 ext i hi
 simp
theorem rotr_step (x : W32) {i : Nat} (h : i + 1 < 32) : rotr (rotr x i) 1 = rotr x (i + 1) := by
 unfold rotr
 ext j hj
 have e1 : (1 : Nat) % 32 = 1 := rfl
 have e2 : i % 32 = i := Nat.mod_eq_of_lt (by omega)
 have e3 : (i + 1) % 32 = i + 1 := Nat.mod_eq_of_lt h
 simp only [BitVec.getElem_rotateRight, e1, e2, e3]
 by_cases h1 : j < 32 - 1
 ·rw [dif_pos h1]
  by_cases h2 : 1 + j < 32 - i
  ·rw [dif_pos h2, dif_pos (by omega)]
   congr 1
   omega
  ·rw [dif_neg h2, dif_neg (by omega)]
   congr 1
   omega
 ·rw [dif_neg h1]
  rw [dif_pos (by omega), dif_neg (by omega)]
  congr 1
  omega
theorem turn_one (x : W32) : wv x / (2 : Int) + wv x % (2 : Int) * (2147483648 : Int) = wv (rotr x 1) := by
 rw [rotr_eq x (by omega)]
 unfold wv
 rw [BitVec.toNat_or, BitVec.toNat_ushiftRight, BitVec.toNat_shiftLeft, Nat.shiftRight_eq_div_pow, Nat.shiftLeft_eq]
 have hx := x.isLt
 have e1 : x.toNat * 2 ^ (32 - 1) % 2 ^ 32 = 2 ^ 31 * (x.toNat % 2) := by omega
 rw [e1, Nat.or_comm, ← Nat.two_pow_add_eq_or_of_lt (by omega)]
 omega
theorem word_or {x0 x1 x2 x3 : Int} (h0 : 0 ≤ x0 ∧ x0 ≤ 255) (h1 : 0 ≤ x1 ∧ x1 ≤ 255) (h2 : 0 ≤ x2 ∧ x2 ≤ 255) (h3 : 0 ≤ x3 ∧ x3 ≤ 255) :
  bits .or .u32 (bits .or .u32 (bits .or .u32 (x0 * 16777216) (x1 * 65536)) (x2 * 256)) x3 = wv (BitVec.ofNat 32 (((x0.toNat * 256 + x1.toNat) * 256 + x2.toNat) * 256 + x3.toNat)) := by
 obtain ⟨a, rfl⟩ := Int.eq_ofNat_of_zero_le h0.1
 obtain ⟨b, rfl⟩ := Int.eq_ofNat_of_zero_le h1.1
 obtain ⟨c, rfl⟩ := Int.eq_ofNat_of_zero_le h2.1
 obtain ⟨d, rfl⟩ := Int.eq_ofNat_of_zero_le h3.1
 have e1 : ((a : Int) * 16777216) = ((2 ^ 24 * a : Nat) : Int) := by omega
 have e2 : ((b : Int) * 65536) = ((2 ^ 16 * b : Nat) : Int) := by omega
 have e3 : ((c : Int) * 256) = ((2 ^ 8 * c : Nat) : Int) := by omega
 rw [e1, e2, u32_or_nat _ _ (by omega) (by omega), ← Nat.two_pow_add_eq_or_of_lt (by omega)]
 have e4 : 2 ^ 24 * a + 2 ^ 16 * b = 2 ^ 16 * (2 ^ 8 * a + b) := by omega
 rw [e4, e3, u32_or_nat _ _ (by omega) (by omega), ← Nat.two_pow_add_eq_or_of_lt (by omega)]
 have e5 : 2 ^ 16 * (2 ^ 8 * a + b) + 2 ^ 8 * c = 2 ^ 8 * (2 ^ 16 * a + 2 ^ 8 * b + c) := by omega
 rw [e5, u32_or_nat _ _ (by omega) (by omega), ← Nat.two_pow_add_eq_or_of_lt (by omega)]
 unfold wv
 simp only [Int.toNat_natCast, BitVec.toNat_ofNat]
 omega
end Go.Proofs.YtendohnkhbgfbaaDoor
namespace Go.Proofs.YtendohnkhbgfbaaDoor
open Go.RowKit

theorem make_rule {P : Program} {t e : TypeId} {k : IntKind} {bytes : Nat} (El : ElT P t e (.int k 0) 1 bytes) (n : Nat) (L : Int) (hL : L = n) (hbytes : bytes * n ≤ 140737488355328) :
  ∃ (o : Obj) (l : List Int), (∀ w : World, Sem.run P (Instr.makeSlice t (.int .i64 L) (.int .i64 L)) w = .ok (.slice (some ⟨w.heap.size, 0, none⟩) n n) (w.alloc o)) ∧ Hid (l = List.replicate n 0) ∧
   Hid (∀ (w : World) (g base : Nat), g = w.heap.size → base ≤ g → (w.alloc o).ownsRow base e 1 (.slice (some ⟨g, 0, none⟩) n n) n (ints k l)) := by
 obtain ⟨i0, hi, hz0, hz1, hz2⟩ := info_parts El.info
 subst hL
 have hn : n ≤ maxLen := by
  have := Nat.mul_le_mul_right n El.bpos
  unfold maxLen
  omega
 have hn' : (n : Int) ≤ 9223372036854775807 := by unfold maxLen at hn; omega
 have hb' : (i0.bytes : Int) * n ≤ 281474976710656 := by
  rw [hz2]
  have h : ((bytes * n : Nat) : Int) ≤ 281474976710656 := by omega
  rwa [Int.natCast_mul] at h
 refine ⟨Obj.cells (madeCells (Value.int k 0).cells (n * i0.size)) e, List.replicate n 0, fun w => ?_, rfl, ?_⟩
 ·have hr := run_make (P := P) w t e i0 (.int k 0) El.und hi hz0 .i64 .i64 n n (by omega) (Int.le_refl _) hb' hn'
  simp only [Int.toNat_natCast] at hr
  exact hr
 ·show ∀ (w : World) (g base : Nat), g = w.heap.size → base ≤ g → _
  intro w g base hg hbase
  subst hg
  have hz : i0.size = 1 := hz1
  have e1 : (madeCells (Value.int k 0).cells (n * i0.size)).toList = ints k (List.replicate n 0) := by
   rw [hz, Nat.mul_one]
   show (madeCells #[Value.int k 0] n).toList = _
   rw [toList_madeCells_one]
   simp [ints]
  rw [← e1]
  exact World.ownsRow_lit w _ n hbase hn (by rw [size_madeCells, hz])
end Go.Proofs.YtendohnkhbgfbaaDoor
namespace Go.Proofs.YtendohnkhbgfbaaDoor
open Go.RowKit

theorem rot_count {k : Nat} (h : 0 < k ∧ k < 32) : bits BinOp.and IntKind.u64 (18446744073709551616 - (k : Int)) 31 = 32 - (k : Int) := by
 obtain ⟨m, hm⟩ : ∃ m : Nat, m = 18446744073709551616 - k := ⟨_, rfl⟩
 have e : (18446744073709551616 - (k : Int)) = (m : Int) := by omega
 rw [e]
 have h9 := bits_and_u64_nat m 31 (by omega) (by decide)
 have e2 : ((31 : Nat) : Int) = 31 := rfl
 rw [e2] at h9
 rw [h9, show (31 : Nat) = 2 ^ 5 - 1 from rfl, Nat.and_two_pow_sub_one_eq_mod]
 omega
set_option maxHeartbeats 1000000 in
theorem Rot_calls (x : W32) (k : Nat) (hk : 0 < k ∧ k < 32) (w : World) :
  Calls Tryd.prog 108 #[.int .u32 (wv x), .int .i64 (-(k : Int))] w fun e w' => e = .returned (.int .u32 (wv (rotr x k))) ∧ w' = w := by
 obtain ⟨z, hz⟩ : ∃ z : Int, z = -(k : Int) := ⟨_, rfl⟩
 have e1 : IntKind.u64.wrap z = 18446744073709551616 - (k : Int) := by rw [IntKind.wrap_u64]; omega
 have e2 := rot_count hk
 rw [← hz]
 clear hz
 go_enter Tryd.func108, Tryd.ntmps108
 go_wp2_with fail
 have e3 : wv x * 2 ^ (32 - k) % 4294967296 = wv (x <<< (32 - k)) := by rw [← IntKind.wrap_u32]; exact wv_shl x (32 - k)
 have e4 : wv x / 2 ^ (32 - (32 - k)) = wv (x >>> k) := by rw [show 32 - (32 - k) = k by omega]; exact wv_shr x k
 have e5 : bits .or .u32 (wv (x <<< (32 - k))) (wv (x >>> k)) = wv (rotr x k) := by
  rw [wv_or, rotr_eq x hk.2, BitVec.or_comm]
 rw [e3, e4, e5]
 go_ret
 exact ⟨rfl, rfl⟩
theorem Rots_calls (x : W32) (k : Nat) (z : Int) (hk : 0 < k ∧ k < 32) (hz : z = -(k : Int)) (w : World) :
  Calls Tryd.prog 108 #[.int .u32 (wv x), .int .i64 z] w fun e w' => e = .returned (.int .u32 (wv (rotr x k))) ∧ w' = w := by
 subst hz
 exact Rot_calls x k hk w
end Go.Proofs.YtendohnkhbgfbaaDoor
namespace Go.Proofs.YtendohnkhbgfbaaDoor
open Go.RowKit

theorem addr_add (b o j : Nat) : (⟨b, o, none⟩ : Addr).add j = ⟨b, o + j, none⟩ := by unfold Addr.add; split <;> simp_all
theorem wpList_appRd {P : Program} {w : World} {ops : Array Oper} {rest : List Oper} {o : Oper} {a : Act} {Q : Exit → Act → World → Prop} (hgd : o.guard = none) (s x : Operand) {t : TypeId}
  (ho : o.op = .call { callee := .builtin .append, args := #[s, x], argTypes := #[t, t] })
  {base : Nat} {e : TypeId} {k : IntKind} {bytes : Nat} (El : ElT P t e (.int k 0) 1 bytes) {v : Value} {n : Nat} {ys : List Int} (hown : w.ownsRow base e 1 v n (ints k ys)) (hs : a.eval s = v)
  {A : Option Addr} {m c : Nat} {zs : List Int} (hx : a.eval x = .slice A m c) (hR : Rd w k A m zs) (hA : A = none → m = 0 ∧ c = 0) (hbytes : (n + m) * bytes ≤ 140737488355328) (hbase : base ≤ w.heap.size)
  (h : ∀ v' w', w'.ownsRow base e 1 v' (n + m) (ints k (ys ++ zs)) → w.grownBy w' v.ownBlock → wpList P ops Q rest (a.put o.dst v') w') : wpList P ops Q (o :: rest) a w := by
 obtain ⟨i0, hi, hz0, hz1, hz2⟩ := info_parts El.info
 have hn : n + m ≤ maxLen := by
  have := Nat.mul_le_mul_left (n + m) El.bpos
  unfold maxLen
  omega
 have hl := hR.1
 cases A with
 | none =>
  obtain ⟨rfl, rfl⟩ := hA rfl
  have hz : zs = [] := List.length_eq_zero_iff.1 hl
  subst hz
  refine wpList_append_own_none hgd s x t ho base e i0 1 El.und hi v n _ hs hown hx (h v w ?_ ?_)
  ·simpa using hown
  ·exact ⟨rfl, rfl, rfl, Nat.le_refl _, fun _ _ _ => rfl⟩
 | some ad =>
  refine wpList_append_own _ hgd s x t ho base e i0 (.int k 0) 1 bytes El.und hi hz0 hz1 hz2 El.zs El.pos v n _ hs hown ad m c (ints k zs) hx (by rw [ints_length]; omega) ?_ (fun u hu => ?_) hn hbytes hbase ?_
  ·intro j u hu
   have hj : j < zs.length := by
    have := (List.getElem?_eq_some_iff.1 hu).1
    rwa [ints_length] at this
   obtain ⟨b, o', e', hc⟩ := hR.2 (by omega)
   cases e'
   rw [ints_get hj] at hu
   cases hu
   rw [addr_add]
   exact hc j (by omega)
  ·unfold ints at hu
   obtain ⟨y, _, rfl⟩ := List.mem_map.1 hu
   rfl
  ·intro v' w' h2 h3 _
   rw [← ints_append] at h2
   exact h v' w' h2 h3
end Go.Proofs.YtendohnkhbgfbaaDoor
namespace Go.Proofs.YtendohnkhbgfbaaDoor
open Go.RowKit

structure Fr (w w' : World) (S : List (Option Nat)) : Prop where
 os : w'.os = w.os
 tape : w'.tape = w.tape
 output : w'.output = w.output
 size : w.heap.size ≤ w'.heap.size
 block : ∀ k, k < w.heap.size → (∀ o ∈ S, o ≠ some k) → w'.heap[k]? = w.heap[k]?
theorem Fr.refl (w : World) (S : List (Option Nat)) : Fr w w S := ⟨rfl, rfl, rfl, Nat.le_refl _, fun _ _ _ => rfl⟩
theorem Fr.trans {w w1 w2 : World} {S T : List (Option Nat)} (h : Fr w w1 S) (k : Fr w1 w2 T) (hT : ∀ o ∈ T, o ∈ S ∨ ∀ j, o = some j → w.heap.size ≤ j) : Fr w w2 S :=
 ⟨k.os.trans h.os, k.tape.trans h.tape, k.output.trans h.output, Nat.le_trans h.size k.size, fun j hj hS =>
  (k.block j (Nat.lt_of_lt_of_le hj h.size) (fun o ho e => by
   rcases hT o ho with h1 | h1
   ·exact hS o h1 e
   ·have := h1 j e; omega)).trans (h.block j hj hS)⟩
theorem Fr.ofBelow {w w' : World} (h : Below w.heap.size w w') (S : List (Option Nat)) : Fr w w' S := ⟨h.os, h.tape, h.output, h.size, fun k hk _ => h.block k hk⟩
theorem Fr.below {w w' : World} {S : List (Option Nat)} {B : Nat} (h : Fr w w' S) (hB : B ≤ w.heap.size) (hS : ∀ o ∈ S, ∀ j, o = some j → B ≤ j) : Below B w w' :=
 ⟨h.os, h.tape, h.output, h.size, fun k hk => h.block k (Nat.lt_of_lt_of_le hk hB) (fun o ho e => by have := hS o ho k e; omega)⟩
theorem Fr.ofGrown {w w' : World} {row : Option Nat} (h : w.grownBy w' row) : Fr w w' [row] := ⟨h.os, h.tape, h.output, h.size, fun k hk hS => h.block k hk (fun e => hS row (by simp) e.symm)⟩
theorem Fr.mono {w w' : World} {S T : List (Option Nat)} (h : Fr w w' S) (hS : ∀ o ∈ S, o ∈ T) : Fr w w' T := ⟨h.os, h.tape, h.output, h.size, fun k hk hT => h.block k hk (fun o ho => hT o (hS o ho))⟩
theorem Fr.set {w w' : World} {S : List (Option Nat)} (h : Fr w w' S) (a : Addr) (v : Value) (ha : some a.block ∈ S ∨ w.heap.size ≤ a.block) : Fr w (w'.setCell a v) S :=
 ⟨h.os, h.tape, h.output, by simpa using h.size, fun k hk hS => (heap_setCell_other w' a k v (by
  intro e
  rcases ha with h1 | h1
  ·exact hS _ h1 (by rw [e])
  ·omega)).trans (h.block k hk hS)⟩
theorem Fr.alloc {w w' : World} {S : List (Option Nat)} (h : Fr w w' S) (o : Obj) : Fr w (w'.alloc o) S :=
 ⟨h.os, h.tape, h.output, by have := h.size; simp; omega, fun k hk hS => (Below.heap_alloc _ _ _ (Nat.lt_of_lt_of_le hk h.size)).trans (h.block k hk hS)⟩
theorem Fr.drew {w w' : World} {S : List (Option Nat)} (h : Fr w w' S) : Fr w w'.drew S := ⟨h.os, h.tape, h.output, h.size, h.block⟩
def Apart (a b : Option Nat) : Prop := ∀ k, a = some k → b ≠ some k
theorem Apart.symm {a b : Option Nat} (h : Apart a b) : Apart b a := fun k e f => h k f e
theorem own_fr {w w' : World} {base : Nat} {e : TypeId} {size n : Nat} {v : Value} {xs : List Value} {S : List (Option Nat)} (h : w.ownsRow base e size v n xs) (hf : Fr w w' S) (hS : ∀ o ∈ S, Apart v.ownBlock o) : w'.ownsRow base e size v n xs := by
 refine ⟨h.1, ?_⟩
 rcases h.2 with h2 | ⟨g, cap, cur, rfl, hb, hg, r⟩
 ·exact .inl h2
 ·refine .inr ⟨g, cap, cur, rfl, hb, ?_, r⟩
  rw [hf.block g (Array.getElem?_eq_some_iff.1 hg).1 (fun o ho => hS o ho g rfl)]
  exact hg
theorem own_apart {w : World} {h : Nat} {cells : Array Value} {T e : TypeId} {fz : Nat × Nat} {base n size : Nat} {v : Value} {xs : List Value} (hh : w.heap[h]? = some (.cells cells T fz)) (hT : T ≠ e) (ho : w.ownsRow base e size v n xs) : Apart v.ownBlock (some h) := by
 intro k hk e2
 cases e2
 rcases ho.2 with ⟨rfl, _⟩ | ⟨g, cap, cur, rfl, _, hg, _⟩
 ·simp [Value.ownBlock] at hk
 ·simp [Value.ownBlock] at hk
  subst hk
  rw [hh] at hg
  simp at hg
  exact hT hg.2.1
theorem own_apart2 {w : World} {e e' : TypeId} {base base' n n' size size' : Nat} {v v' : Value} {xs xs' : List Value} (he : e ≠ e') (h : w.ownsRow base e size v n xs) (h' : w.ownsRow base' e' size' v' n' xs') : Apart v.ownBlock v'.ownBlock := by
 intro k hk e2
 rcases h'.2 with ⟨rfl, _⟩ | ⟨g, cap, cur, rfl, _, hg, _⟩
 ·simp [Value.ownBlock] at e2
 ·simp [Value.ownBlock] at e2
  subst e2
  exact own_apart hg (Ne.symm he) h g hk rfl
theorem own_base0 {w : World} {base n : Nat} {e : TypeId} {size : Nat} {v : Value} {xs : List Value} (h : w.ownsRow base e size v n xs) : w.ownsRow 0 e size v n xs := own_mono h (Nat.zero_le _)
theorem own_front {w : World} {base n : Nat} {e : TypeId} {A : Option Addr} {c : Nat} {xs : List Value} (h : w.ownsRow base e 1 (.slice A n c) n xs) (m : Nat) (hm : m ≤ n) : w.ownsRow base e 1 (.slice A m c) m (xs.take m) := by
 refine ⟨by rw [List.length_take, h.1]; omega, ?_⟩
 rcases h.2 with ⟨h1, h2⟩ | ⟨g, cap, cur, h1, hb, hg, h3, h4, h5, h6⟩
 ·simp at h1
  obtain ⟨rfl, rfl, rfl⟩ := h1
  exact .inl ⟨by rw [show m = 0 from by omega], by omega⟩
 ·simp at h1
  obtain ⟨rfl, rfl⟩ := h1
  refine .inr ⟨g, c, cur, rfl, hb, hg, by omega, h4, h5, ?_⟩
  rw [← h6, List.take_take]
  congr 1
  omega
theorem own_store {w : World} {base n : Nat} {e : TypeId} {size : Nat} {g c : Nat} {xs : List Value} (h : w.ownsRow base e size (.slice (some ⟨g, 0, none⟩) n c) n xs) (j : Nat) (u : Value) :
  (w.setCell ⟨g, j, none⟩ u).ownsRow base e size (.slice (some ⟨g, 0, none⟩) n c) n (xs.set j u) := by
 refine ⟨by rw [List.length_set, h.1], ?_⟩
 rcases h.2 with ⟨h1, h2⟩ | ⟨g', cap, cur, h1, hb, hg, h3, h4, h5, h6⟩
 ·cases h1
 ·simp at h1
  obtain ⟨rfl, rfl⟩ := h1
  refine .inr ⟨g, c, cur.setIfInBounds j u, rfl, hb, ?_, h3, h4, by rw [Array.size_setIfInBounds, h5], ?_⟩
  ·exact heap_setCell_same w g j _ _ _ hg
  ·rw [Array.toList_setIfInBounds, List.take_set, h6]
theorem wpList_app3 {P : Program} {wr : World} {ops : Array Oper} {rest : List Oper} {o : Oper} {a : Act} {Q : Exit → Act → World → Prop} (hgd : o.guard = none) (s x : Operand) {t : TypeId}
  (ho : o.op = .call { callee := .builtin .append, args := #[s, x], argTypes := #[t, t] })
  {base : Nat} {e : TypeId} {z : Value} {size bytes : Nat} (El : ElT P t e z size bytes) {v : Value} {n : Nat} {xs : List Value} (hown : wr.ownsRow base e size v n xs)
  (hs : a.eval s = v) {vs : Array Value} {T : TypeId} {bx : Nat} (hx : a.eval x = .slice (some ⟨bx, 0, none⟩) 1 1) (hbx : bx = wr.heap.size) (hl : vs.size = size) (h1 : vs.toList.all (fun u => u.oneCell') = true)
  (hbytes : (n + 1) * bytes ≤ 140737488355328) (hbase : base ≤ wr.heap.size)
  (h : ∀ g cap w', w'.ownsRow base e size (.slice (some ⟨g, 0, none⟩) (n + 1) cap) (n + 1) (xs ++ vs.toList) → Fr wr w' [v.ownBlock] → (v.ownBlock = some g ∨ wr.heap.size ≤ g) → g < w'.heap.size → wpList P ops Q rest (a.put o.dst (.slice (some ⟨g, 0, none⟩) (n + 1) cap)) w') : wpList P ops Q (o :: rest) a (wr.alloc (.cells vs T)) := by
 subst hbx
 obtain ⟨i0, hi, hz0, hz1, hz2⟩ := info_parts El.info
 have hn : n + 1 ≤ maxLen := by
  have := Nat.mul_le_mul_left (n + 1) El.bpos
  unfold maxLen
  omega
 refine wpList_append_lies _ hgd s x t ho base e i0 z size bytes El.und hi hz0 hz1 hz2 El.zs El.pos v n xs hs (hown.alloc _) ⟨wr.heap.size, 0, none⟩ 1 1 vs.toList hx (by simpa using hl) (news_at _ _ _) (fun u hu => List.all_eq_true.1 h1 u hu) (by omega) hn hbytes (by simp; omega) (wr.heap.size + 1) (by simp) ?_
 intro g cap w' h2 h3 h4 h5
 refine h g cap w' h2 (((Fr.refl wr [v.ownBlock]).alloc _).trans (Fr.ofGrown h3) (fun o ho => .inl ho)) ?_ h5
 rcases h4 with h4 | h4
 ·exact .inl h4
 ·exact .inr (by omega)
theorem Later.made {W0 W : World} (a : Addr) (u : Value) (ha : W0.heap.size ≤ a.block) (h : Later W0 W) : Later W0 (W.setCell a u) := ⟨h.bel.setCell ha u⟩
theorem Later.new {W0 W : World} (o : Obj) (h : Later W0 W) : Later W0 (W.alloc o) := h.alloc o
theorem Later.below {W0 W : World} (h : Later W0 W) : Below W0.heap.size W0 W := h.bel
end Go.Proofs.YtendohnkhbgfbaaDoor
