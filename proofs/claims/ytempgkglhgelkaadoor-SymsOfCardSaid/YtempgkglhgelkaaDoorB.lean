/-
  Small laws that all walks use: what a call leaves of old memory; rows that the call owns; slices that are read.
-/
import Derived.Test.YtempgkglhgelkaaDoorRows
import Derived.WalkKit
import Derived.WalkSpells
import Derived.WalkLawsBesides
import Derived.Deep.QuietTactic
import Derived.BigQuiet
import Derived.Lib.Hide
import Derived.Laws.StructEq
import Derived.KernelRfl
namespace Go.Proofs.YtempgkglhgelkaaDoor
open Go.RowKit

/-- What a call leaves of a block that was laid right ahead of it. -/
theorem laid_kept {w w' : World} {vs : Array Value} {T : TypeId} (hb : Below (w.alloc (Obj.cells vs T)).heap.size (w.alloc (Obj.cells vs T)) w') (i : Nat) (v : Value) (h : vs[i]? = some v) :
    w'.cell? ⟨w.heap.size, i, none⟩ = some v ∧ w'.frozen? ⟨w.heap.size, i, none⟩ = false :=
  ⟨(hb.cell (p := ⟨w.heap.size, i, none⟩) (by simp)).trans (by simp [h]), (hb.frozen (p := ⟨w.heap.size, i, none⟩) (by simp)).trans (by simp)⟩
theorem kept_cell {w w' : World} (hb : Below w.heap.size w w') {a : Addr} {v : Value} (h : w.cell? a = some v) : w'.cell? a = some v := (hb.cell (World.block_lt_of_cell? w a h)).trans h
theorem kept_new {w : World} {a : Addr} {v : Value} (h : w.cell? a = some v) (o : Obj) : (w.alloc o).cell? a = some v := kept_cell ((Below.refl _ _).alloc (Nat.le_refl _) _) h
theorem kept_new2 {w : World} {a : Addr} {v : Value} (h : w.cell? a = some v) (o o' : Obj) : ((w.alloc o).alloc o').cell? a = some v := kept_new (kept_new h o) o'
theorem below_seq {B : Nat} {w w1 w2 : World} (h : Below B w w1) (hB : B ≤ w.heap.size) (k : Below w1.heap.size w1 w2) : Below B w w2 := h.trans (k.mono (Nat.le_trans hB h.size))
theorem below_new {B : Nat} {w w1 : World} (h : Below B w w1) (hB : B ≤ w.heap.size) (o : Obj) : Below B w (w1.alloc o) := h.alloc (Nat.le_trans hB h.size) o

/-! ### rows that the call owns -/
theorem own_below {w w1 : World} {base : Nat} {e : TypeId} {size n : Nat} {v : Value} {xs : List Value} (h : w.ownsRow base e size v n xs) (hb : Below w.heap.size w w1) : w1.ownsRow base e size v n xs :=
  h.kept ⟨hb.os, hb.tape, hb.output, hb.size, fun i hi _ => hb.block i hi⟩ (row := none) (by cases v.ownBlock <;> simp)
theorem own_slice {w : World} {base n : Nat} {e : TypeId} {size : Nat} {v : Value} {xs : List Value} (h : w.ownsRow base e size v n xs) : ∃ A c, v = .slice A n c := by
  rcases h.2 with ⟨rfl, rfl⟩ | ⟨g, cap, cur, rfl, _⟩
  · exact ⟨none, 0, rfl⟩
  · exact ⟨_, cap, rfl⟩
/-- An owned row that isn't empty begins at the head of a block of the call's own. -/
theorem own_form {w : World} {base n : Nat} {e : TypeId} {size : Nat} {v : Value} {xs : List Value} (h : w.ownsRow base e size v n xs) (hn : 0 < n) :
    ∃ g c, v = .slice (some ⟨g, 0, none⟩) n c ∧ base ≤ g ∧ g < w.heap.size ∧ n ≤ c ∧ (∀ j u, xs[j]? = some u → w.cell? ⟨g, j, none⟩ = some u) ∧ ∀ j, w.frozen? ⟨g, j, none⟩ = false := by
  rcases h.2 with ⟨rfl, rfl⟩ | ⟨g, cap, cur, rfl, hb, hh, hc, _⟩
  · omega
  · refine ⟨g, cap, rfl, hb, (Array.getElem?_eq_some_iff.1 hh).1, hc, fun j u hj => ?_, fun j => h.frozenAt j⟩
    have hl : j < xs.length := (List.getElem?_eq_some_iff.1 hj).1
    rw [h.cellAt j (by rw [h.1] at hl; exact hl)]
    exact hj
theorem own_mono {w : World} {base base' n : Nat} {e : TypeId} {size : Nat} {v : Value} {xs : List Value} (h : w.ownsRow base e size v n xs) (hb : base' ≤ base) : w.ownsRow base' e size v n xs := by
  refine ⟨h.1, ?_⟩
  rcases h.2 with h2 | ⟨g, cap, cur, hv, hg, r⟩
  · exact .inl h2
  · exact .inr ⟨g, cap, cur, hv, Nat.le_trans hb hg, r⟩
/-- Behind an append to a row of the call's own. -/
theorem below_app {B : Nat} {w w1 w2 : World} {base : Nat} {e : TypeId} {size n : Nat} {v : Value} {xs : List Value} (h : Below B w w1) (hB : B ≤ w.heap.size) (ho : w1.ownsRow base e size v n xs) (hbase : B ≤ base) (hg : w1.grownBy w2 v.ownBlock) : Below B w w2 :=
  h.grown hg (Nat.le_trans hB h.size) (fun k hk => Nat.le_trans hbase (ho.lt k hk).1)
/-- The one new element that 'append(out, x)' lays ahead of it. -/
theorem news_at (w : World) (vs : Array Value) (T : TypeId) : ∀ j u, vs.toList[j]? = some u → (w.alloc (Obj.cells vs T)).cell? ((⟨w.heap.size, 0, none⟩ : Addr).add j) = some u := by
  intro j u hu
  have : (⟨w.heap.size, 0, none⟩ : Addr).add j = ⟨w.heap.size, j, none⟩ := by unfold Addr.add; split <;> simp_all
  rw [this]
  simpa using hu
/-! ### append of one element that is built right ahead of it -/
structure ElT (P : Program) (t e : TypeId) (z : Value) (size bytes : Nat) : Prop where
  und : P.underlying t = some (.slice e)
  info : (P.info? e).map (fun i => (i.zero, i.size, i.bytes)) = some (some z, size, bytes)
  zs : z.cells.size = size
  pos : 0 < size
  bpos : 0 < bytes
theorem wpList_app1 {P : Program} {wr : World} {ops : Array Oper} {rest : List Oper} {o : Oper} {a : Act} {Q : Exit → Act → World → Prop} (hgd : o.guard = none) (s x : Operand) {t : TypeId}
    (ho : o.op = .call { callee := .builtin .append, args := #[s, x], argTypes := #[t, t] })
    {base : Nat} {e : TypeId} {z : Value} {size bytes : Nat} (El : ElT P t e z size bytes) {v : Value} {n : Nat} {xs : List Value} (hown : wr.ownsRow base e size v n xs)
    (hs : a.eval s = v) {vs : Array Value} {T : TypeId} (hx : a.eval x = .slice (some ⟨wr.heap.size, 0, none⟩) 1 1) (hl : vs.size = size) (h1 : vs.toList.all (fun u => u.oneCell') = true)
    (hbytes : (n + 1) * bytes ≤ 140737488355328) (hbase : base ≤ wr.heap.size)
    (h : ∀ v' w', w'.ownsRow base e size v' (n + 1) (xs ++ vs.toList) → Below base wr w' → (wr.alloc (.cells vs T)).grownBy w' v.ownBlock → wpList P ops Q rest (a.put o.dst v') w') : wpList P ops Q (o :: rest) a (wr.alloc (.cells vs T)) := by
  obtain ⟨i0, hi, hz0, hz1, hz2⟩ := info_parts El.info
  have hn : n + 1 ≤ maxLen := by
    have := Nat.mul_le_mul_left (n + 1) El.bpos
    unfold maxLen
    omega
  refine wpList_append_own _ hgd s x t ho base e i0 z size bytes El.und hi hz0 hz1 hz2 El.zs El.pos v n xs hs (hown.alloc _) ⟨wr.heap.size, 0, none⟩ 1 1 vs.toList hx (by simpa using hl) (news_at _ _ _) (fun u hu => List.all_eq_true.1 h1 u hu) hn hbytes (by simp; omega) ?_
  intro v' w' h2 h3 _
  refine h v' w' h2 ?_ h3
  refine ((Below.refl base wr).alloc hbase _).grown h3 (by simp; omega) (fun k hk => (hown.lt k hk).1)
/-- Another row of the call's own lives on. -/
theorem own_other {w w' : World} {base : Nat} {e : TypeId} {size n : Nat} {v : Value} {xs : List Value} {o : Obj} {row : Option Nat} (h : w.ownsRow base e size v n xs) (hg : (w.alloc o).grownBy w' row) (hne : v.ownBlock = none ∨ v.ownBlock ≠ row) : w'.ownsRow base e size v n xs :=
  (h.alloc o).kept hg hne
/-- A later world: all that was there in W0 is there as it was. A fact in this form is a rule for the walk in whatever later world. -/
structure Later (W0 W : World) : Prop where
  bel : Below W0.heap.size W0 W
theorem Later.refl (W0 : World) : Later W0 W0 := ⟨Below.refl _ _⟩
theorem Later.drew {W0 W : World} (h : Later W0 W) : Later W0 W.drew := ⟨h.bel.drew⟩
theorem Later.step {W0 W W' : World} (h : Later W0 W) (k : Below W.heap.size W W') : Later W0 W' := ⟨below_seq h.bel (Nat.le_refl _) k⟩
theorem Later.alloc {W0 W : World} (h : Later W0 W) (o : Obj) : Later W0 (W.alloc o) := ⟨below_new h.bel (Nat.le_refl _) o⟩
theorem Later.cell {W0 : World} {a : Addr} {v : Value} (h : W0.cell? a = some v) : ∀ W, Later W0 W → W.cell? a = some v := fun _ k => kept_cell k.bel h
/-! ### '==' of structs, field by field -/
theorem eqFields_cons {P : Program} {d : Nat} {xs ys : Array Value} {f : Field} {fs : List Field} {a b : Value} {r s : Bool} {w : World} (hn : (f.name == "_") = false)
    (ha : (part f.type xs f.offset).run P w = .ok a w) (hb : (part f.type ys f.offset).run P w = .ok b w) (he : (Op.equalIn d f.type a b).run P w = .ok r w)
    (hr : (Op.eqFields d xs ys fs).run P w = .ok s w) : (Op.eqFields d xs ys (f :: fs)).run P w = .ok (r && s) w := by
  have hn' : f.name ≠ "_" := by simpa using hn
  rw [Op.eqFields]
  simp only [if_pos hn', Sem.run_bind, ha, hb, he, Result.andThen_ok]
  cases r
  · simp
  · simpa using hr
theorem eqFields_nil {P : Program} {d : Nat} {xs ys : Array Value} {w : World} : (Op.eqFields d xs ys []).run P w = .ok true w := by simp [Op.eqFields]
theorem eqStruct_of {P : Program} {d : Nat} {xs ys : Array Value} {t : TypeId} {fs : Array Field} {r : Bool} {w : World} (hu : P.underlying t = some (.struct fs)) (hp : P.stoodInHeld t = false) (h : (Op.eqFields d xs ys fs.toList).run P w = .ok r w) : (Op.equalIn (d + 1) t (.agg xs) (.agg ys)).run P w = .ok r w := by
  have hf : P.fieldsOf t = fs := by simp [Program.fieldsOf, hu]
  rw [run_equalIn_struct (P := P) w d t xs ys (by rw [hf]; exact hu) hp, hf]
  exact h
theorem eqInt_of {P : Program} {d : Nat} {t : TypeId} {k : IntKind} {w : World} (hu : P.underlying t = some (.int k)) (a b : Int) : (Op.equalIn (d + 1) t (.int k a) (.int k b)).run P w = .ok (a == b) w := by
  simp [Op.equalIn, run_underlying hu]
theorem binEql_of {P : Program} {t : TypeId} {xs ys : Array Value} {r : Bool} {w : World} (h : (Op.equalIn (9998 + 2) t (.agg xs) (.agg ys)).run P w = .ok r w) : (binOp .eql t (.agg xs) (.agg ys)).run P w = .ok (.bool r) w := by
  simp only [binOp]
  simp only [Op.equal, Op.maxDepth, Sem.run_bind]
  have h' : Sem.run P (Op.equalIn 10000 t (.agg xs) (.agg ys)) w = .ok r w := h
  rw [h']
  rfl
end Go.Proofs.YtempgkglhgelkaaDoor
