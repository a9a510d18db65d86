/-
  Texts joined into one file: TlenP, RdA, HeadW, Aw20.
-/
import Derived.Test.YtdbkbeojedndbaaJAw201
import Derived.Test.YtdbkbeojedndbaaJHeadG1
import Derived.Test.YtdbkbeojedndbaaJHeadG5
import Derived.Test.YtdbkbeojedndbaaJHeadG7
import Derived.Test.YtdbkbeojedndbaaJHeadG6
import Derived.Test.YtdbkbeojedndbaaJHeadG3
import Derived.Deep.RegionHeld3
import Derived.Deep.WholeRow
import Derived.Deep.Cut
/-
  How long a table is (no program).
-/
namespace Go.Proofs.Ytdbkbeojedndbaa
open Go.RowKit

theorem names_few {M : List OpV} (h : M.length ≤ 80) (hF : ∀ x ∈ M, FewAt x) (hP : ∀ x ∈ M, x.preds.length = x.pn) : (namesL M).length ≤ 42 * 80 := by
  have : ∀ l : List OpV, (∀ x ∈ l, FewAt x ∧ x.preds.length = x.pn) → (namesL l).length ≤ 42 * l.length := by
    intro l
    induction l with
    | nil => intro _; simp [namesL]
    | cons a l ih =>
      intro hl
      have h1 := ih (fun x hx => hl x (List.mem_cons_of_mem _ hx))
      have h2 := hl a (List.mem_cons_self ..)
      have h3 := namesOf_le a
      have h4 := h2.1.p
      rw [h2.2] at h3
      have e : namesL (a :: l) = namesOf a ++ namesL l := rfl
      rw [e, List.length_append, List.length_cons]
      omega
  have h9 := this M (fun x hx => ⟨hF x hx, hP x hx⟩)
  omega
theorem table_len {au : ByteArray} {N : List Nm} {T : List ByteArray} (h : IsTable au N T) (hN : N.length ≤ 42 * 80) : T.length ≤ 3361 := by
  obtain ⟨t, rfl, h1, h2⟩ := h.is
  have h3 : t.Nodup := h1.imp (fun h e => by subst e; exact ltB_irrefl _ h)
  have h4 := nodup_le (N := N) (P := fun _ => True) h3 (fun s hs => ⟨trivial, ((h2 s).1 hs).2⟩)
  simp only [List.length_cons]
  omega
theorem table_small {au : ByteArray} {N : List Nm} {T : List ByteArray} (h : IsTable au N T) (hN : N.length ≤ 42 * 80) : T.length ≤ 100000 := by
  obtain ⟨t, rfl, h1, h2⟩ := h.is
  have h3 : t.Nodup := h1.imp (fun h e => by subst e; exact ltB_irrefl _ h)
  have h4 := nodup_le (N := N) (P := fun _ => True) h3 (fun s hs => ⟨trivial, ((h2 s).1 hs).2⟩)
  simp only [List.length_cons]
  omega
theorem opv_few {L : List OpV} {n : Nat} (hl : L.length = n) (h : ∀ i, i < n → FewAt (opv L i)) : ∀ x ∈ L, FewAt x := by
  intro x hx
  obtain ⟨i, hi, rfl⟩ := List.getElem_of_mem hx
  have := h i (by omega)
  unfold opv at this
  rwa [List.getD_eq_getElem?_getD, List.getElem?_eq_getElem hi] at this
end Go.Proofs.Ytdbkbeojedndbaa
/-
  Small facts: what is read in two lists joined; rows that lie nowhere (no program).
-/
namespace Go.Proofs.Ytdbkbeojedndbaa
open Go.RowKit

theorem rd_appL {a b : List Int} {i : Nat} (h : i < a.length) : rd (a ++ b) i = rd a i := by
  unfold rd
  rw [List.getD_eq_getElem?_getD, List.getD_eq_getElem?_getD, List.getElem?_append_left h]
theorem rd_appR {a b : List Int} (i : Nat) : rd (a ++ b) (a.length + i) = rd b i := by
  unfold rd
  rw [List.getD_eq_getElem?_getD, List.getD_eq_getElem?_getD, List.getElem?_append_right (Nat.le_add_right _ _), Nat.add_sub_cancel_left]
theorem own_none {w : World} {base n c : Nat} {e : TypeId} {size : Nat} {A : Option Addr} {xs : List Value} (h : w.ownsRow base e size (.slice A n c) n xs) : A = none → n = 0 ∧ c = 0 := by
  intro hA
  subst hA
  rcases h.2 with ⟨h1, h2⟩ | ⟨g, cap, cur, h1, _⟩
  · simp at h1
    exact ⟨h2, h1.2⟩
  · cases h1
/-- What was there first lies apart from a younger block. -/
theorem Rd.apart {w0 w w1 : World} {k : IntKind} {A : Option Addr} {n : Nat} {xs : List Int} (h0 : Rd w0 k A n xs) (h : Rd w k A n xs) {r : Nat} (hg : w.grownBy w1 (some r)) (hr : w0.heap.size ≤ r) : Rd w1 k A n xs :=
  ⟨h.1, fun hn => by
    obtain ⟨b, o, e, hc⟩ := h.2 hn
    obtain ⟨b', o', e', hc'⟩ := h0.2 hn
    rw [e] at e'
    cases e'
    have hlt := World.block_lt_of_cell? _ _ (hc' 0 hn)
    exact ⟨b, o, e, fun j hj => hg.cell (hc j hj) (by simp at hlt ⊢; omega)⟩⟩
end Go.Proofs.Ytdbkbeojedndbaa
/-
  The walk of head.Put. Printed by gen_headp.py.
-/
namespace Go.Proofs.Ytdbkbeojedndbaa
open Go.RowKit

theorem step_appStr {P : Program} {w : World} {ops : Array Oper} {o : Oper} {a : Act} {K : Act → World → Prop} {Q : Exit → Act → World → Prop} {E : Prop} (hgd : o.guard = none) (sl x : Operand) {t u : TypeId}
    (ho : o.op = .call { callee := .builtin .append, args := #[sl, x], argTypes := #[t, u] })
    {base : Nat} {e : TypeId} (El : ElT P t e (.int .u8 0) 1 1) (hu : P.underlying u = some .string) {v : Value} {n : Nat} {ys : List Int} (hown : w.ownsRow base e 1 v n (ints .u8 ys)) (hs : a.eval sl = v)
    {s : ByteArray} (hx : a.eval x = .string s) (hbytes : n + s.size ≤ 140737488355328) (hbase : base ≤ w.heap.size)
    (h : ∀ v' w', w'.ownsRow base e 1 v' (n + s.size) (ints .u8 (ys ++ nums s)) → w.grownBy w' v.ownBlock → K (a.put o.dst v') w') : if Region.wanted o (yielded ops a.tmps) = true then Oper.wp P o a w K Q else E := by
  have hw : Region.wanted o (yielded ops a.tmps) = true := by simp [Region.wanted, hgd]
  rw [if_pos hw]
  obtain ⟨i0, hi, hz0, hz1, hz2⟩ := info_parts El.info
  obtain ⟨v', w', hr, h2, h3, _⟩ := Lib.run_append_own_string (P := P) w base t u o.type e i0 El.und hu hi hz0 hz1 hz2 v n _ hown s (by unfold maxLen; omega) hbytes hbase
  unfold Oper.wp execOp
  simp only [ho, resolve, invoke, builtin, Sem.run_bind, Sem.run_pure, Result.andThen_ok, List.map_toArray, List.map_cons, List.map_nil, hs, hx, hr]
  exact h v' w' (by rw [ints_append, ← strCells_nums]; exact h2) h3
theorem rd_lit2 (w : World) (k : IntKind) (x y : Int) (T : TypeId) : Rd (w.alloc (.cells #[.int k x, .int k y] T)) k (some ⟨w.heap.size, 0, none⟩) 2 [x, y] :=
  ⟨rfl, fun _ => ⟨w.heap.size, 0, rfl, fun j hj => by
    rw [cell_of_row _ w.heap.size _ _ _ (0, 0) (heap_alloc_new w _)]
    rcases (show j = 0 ∨ j = 1 by omega) with rfl | rfl <;> rfl⟩⟩
theorem putT_le {T : List ByteArray} (h : ∀ s ∈ T, s.size ≤ 1000) (hl : T.length ≤ 3361) : (putT T).length ≤ 4000000 := by
  have h1 : ∀ l : List ByteArray, (∀ s ∈ l, s.size ≤ 1000) → (l.flatMap txtB).length ≤ l.length * 1010 := by
    intro l
    induction l with
    | nil => intro _; simp
    | cons s l ih =>
      intro hs
      have h1 := ih (fun x hx => hs x (List.mem_cons_of_mem _ hx))
      have h2 := txtB_len (hs s List.mem_cons_self)
      rw [List.flatMap_cons, List.length_append, List.length_cons]
      omega
  have h2 := h1 (T.drop 1) (fun s hs => h s (List.mem_of_mem_drop hs))
  have h3 := lebU_10 (n := T.length - 1) (by omega)
  unfold putT
  rw [List.length_append]
  rw [List.length_drop] at h2
  omega
/-- What head.Put holds: the bytes so far, and the change that is put. -/
structure HPut (w W : World) (v : Value) (n : Nat) (L : List Int) (bc : Nat) (cs : Array Value) : Prop where
  own : W.ownsRow w.heap.size 5 1 v n (ints .u8 L)
  bel : Below w.heap.size w W
  row : W.heap[bc]? = some (.cells cs 27 (0, 0))
section
variable {w W W1 : World} {v v' : Value} {n m : Nat} {L M : List Int} {bc : Nat} {cs : Array Value}
theorem HPut.lt (H : HPut w W v n L bc cs) : bc < W.heap.size := (Array.getElem?_eq_some_iff.1 H.row).1
theorem HPut.cell (H : HPut w W v n L bc cs) (j : Nat) : W.cell? ⟨bc, j, none⟩ = cs[j]? := cell_of_row W bc j _ _ (0, 0) H.row
theorem HPut.below (H : HPut w W v n L bc cs) (hb : Below W.heap.size W W1) : HPut w W1 v n L bc cs := ⟨own_below H.own hb, below_seq H.bel (Nat.le_refl _) hb, (hb.block bc H.lt).trans H.row⟩
theorem HPut.drew (H : HPut w W v n L bc cs) : HPut w W.drew v n L bc cs := H.below (Below.refl _ _).drew
theorem HPut.fr (H : HPut w W v n L bc cs) (ho : W1.ownsRow w.heap.size 5 1 v' (n + m) (ints .u8 (L ++ M))) (hf : Fr W W1 [v.ownBlock]) : HPut w W1 v' (n + m) (L ++ M) bc cs :=
  ⟨ho, H.bel.trans (hf.below H.bel.size (fun o hx j e => by simp at hx; subst hx; exact (H.own.lt j e).1)), (hf.block bc H.lt (fun o hx e => by simp at hx; subst hx; exact own_apart H.row (by decide) H.own bc e rfl)).trans H.row⟩
theorem HPut.app (H : HPut w W v n L bc cs) (_hm : M.length = m) (ho : W1.ownsRow w.heap.size 5 1 v' (n + m) (ints .u8 (L ++ M))) (hg : W.grownBy W1 v.ownBlock) : HPut w W1 v' (n + m) (L ++ M) bc cs := H.fr ho (Fr.ofGrown hg)
end
/-- A slice of hashes that is read. -/
structure DepsAt (w : World) (A : Option Addr) (n c : Nat) (D : List (List Int)) : Prop where
  len : D.length = n
  hs : Hashes D
  cap : n ≤ c
  nil : A = none → n = 0 ∧ c = 0
  at' : 0 < n → ∃ b o, A = some ⟨b, o, none⟩ ∧ ∀ i j, i < n → j < 32 → w.cell? ⟨b, o + i * 32 + j, none⟩ = some (.int .u8 (rd (dep D i) j))
theorem DepsAt.below {w w' : World} {A : Option Addr} {n c : Nat} {D : List (List Int)} (h : DepsAt w A n c D) (hb : Below w.heap.size w w') : DepsAt w' A n c D :=
  ⟨h.len, h.hs, h.cap, h.nil, fun hn => by obtain ⟨b, o, e, hc⟩ := h.at' hn; exact ⟨b, o, e, fun i j hi hj => kept_cell hb (hc i j hi hj)⟩⟩
theorem flat_next2 {D : List (List Int)} {k : Nat} (h : k < D.length) : (D.take (k + 1)).flatten = (D.take k).flatten ++ dep D k := by
  rw [List.take_succ_eq_append_getElem h, List.flatten_append, List.flatten_singleton]
  unfold dep
  rw [List.getD_eq_getElem?_getD, List.getElem?_eq_getElem h]
  rfl
theorem dep_mem {D : List (List Int)} {k : Nat} (h : k < D.length) : dep D k ∈ D := by
  unfold dep
  rw [List.getD_eq_getElem?_getD, List.getElem?_eq_getElem h]
  exact List.getElem_mem h
theorem small_of2 {n : Nat} {L : List OpV} {w : World} {A : Option Addr} (hO : OpsAt w A n L) (hF : ∀ i, i < n → FewAt (opv L i)) : ∀ y ∈ namesL L, y.2.size ≤ 100 :=
  namesL_small hO.1 (fun i hi => by
    have hf := hF i hi
    refine ⟨hf.o, hf.e, fun y hy => ?_⟩
    obtain ⟨q, hq, rfl⟩ := List.getElem_of_mem hy
    have hx := (hO.2.1 _ (opv_mem (L := L) (j := i) (by rw [hO.1]; exact hi))).2.1
    have := hf.y q (by rw [← hx]; exact hq)
    unfold nm at this
    rwa [List.getD_eq_getElem?_getD, List.getElem?_eq_getElem hq] at this)
abbrev chgC2 (a : ByteArray) (sq st tm : Int) (ms : ByteArray) (dv ov : Value) : Array Value := #[.string a, .int .i64 sq, .int .i64 st, .int .i64 tm, .string ms, dv, ov]
set_option maxHeartbeats 4000000 in
set_option maxRecDepth 100000 in
theorem hPut_calls (a : ByteArray) (sq st : Nat) (tm : Int) (ms : ByteArray) (A : Option Addr) (n c : Nat) (D : List (List Int)) (O : Option Addr) (on oc : Nat) (L : List OpV) (w : World) (ha : a.size ≤ 1000) (hms : ms.size ≤ 5000) (hsq : sq ≤ 9007199254740991) (hst : st ≤ 9007199254740991) (htm : I64 tm)
    (hD : DepsAt w A n c D) (hn : n ≤ 1000) (hO : OpsAt w O on L) (hon : on ≤ 2000) (hF : ∀ i, i < on → FewAt (opv L i)) (hTl : ∀ T, IsTable a (namesL L) T → T.length ≤ 3361) :
    Calls Try.prog 17 #[.agg (chgC2 a sq st tm ms (.slice A n c) (.slice O on oc))] w fun e w' => ∃ (v : Value) (T : List ByteArray), e = .returned v ∧ IsTable a (namesL L) T ∧ w'.ownsRow w.heap.size 5 1 v (headB ⟨a, sq, st, tm, ms, D⟩ T).length (ints .u8 (headB ⟨a, sq, st, tm, ms, D⟩ T)) ∧ Below w.heap.size w w' := by
  have HD := Lib.hid hD
  have HO := Lib.hid hO
  have HF := Lib.hid hF
  have Htm := Lib.hid htm
  have HTl := Lib.hid hTl
  clear hD hO hF hTl
  obtain ⟨tm0, tm1⟩ := htm
  go_enter Try.func17, Try.ntmps17
  obtain ⟨bc, hbc⟩ : ∃ g, g = w.heap.size := ⟨_, rfl⟩
  go_upto_region 1 with fail
  obtain ⟨W, hW⟩ : ∃ X, X = w.alloc (.cells #[.string a, .int .i64 sq, .int .i64 st, .int .i64 tm, .string ms, .slice A n c, .slice O on oc] 27) := ⟨_, rfl⟩
  rw [← hW, ← hbc]
  have hb0 : Below w.heap.size w W := by rw [hW]; exact (Below.refl _ _).alloc (Nat.le_refl _) _
  have hrow : W.heap[bc]? = some (.cells (chgC2 a sq st tm ms (.slice A n c) (.slice O on oc)) 27 (0, 0)) := by rw [hW, hbc]; exact heap_alloc_new w _
  have HB0 := Lib.hid hb0
  have HRow := Lib.hid hrow
  have hs0 := hb0.size
  clear hW hbc hb0 hrow
  have c5 : W.cell? ⟨bc, 5, none⟩ = some (.slice A n c) := cell_of_row W bc 5 _ _ (0, 0) HRow.out
  go_wp2_with fail
  refine (U_calls n _ (by omega)).mono ?_
  rintro e1 w1 ⟨v1, rfl, ho1, hb1⟩
  have HP1 : Hid (HPut w w1 v1 (lebU n).length (lebU n) bc (chgC2 a sq st tm ms (.slice A n c) (.slice O on oc))) := Lib.hid ⟨own_mono ho1 hs0, below_seq HB0.out (Nat.le_refl _) hb1, (hb1.block bc (Array.getElem?_eq_some_iff.1 HRow.out).1).trans HRow.out⟩
  obtain ⟨k1, hk1⟩ : ∃ k, k = (lebU n).length := ⟨_, rfl⟩
  have hk19 : k1 ≤ 10 := by rw [hk1]; exact (lebU_10 (by omega)).2
  rw [← hk1] at HP1
  have Hk1 := Lib.hid hk1
  clear ho1 hb1 hk1 c5
  have c5 : w1.cell? ⟨bc, 5, none⟩ = some (.slice A n c) := HP1.out.cell 5
  obtain ⟨W1, hW1⟩ : ∃ X, X = w1 := ⟨_, rfl⟩
  subst hW1
  go_wp2_with fail
  go_loopw [3, 14] (fun v i wr => ∃ k : Nat, k ≤ n ∧ i = .int .i64 k ∧ Hid (HPut w wr v (k1 + k * 32) (lebU n ++ (D.take k).flatten) bc (chgC2 a sq st tm ms (.slice A n c) (.slice O on oc)))) (fun _ i _ => n - (intOf i).toNat)
  case atStart => exact ⟨0, by omega, rfl, Lib.hid (by have := HP1.out; simpa using this)⟩
  case round =>
    obtain ⟨k, hk, rfl, HP⟩ := hrel
    obtain ⟨Wk, hWk⟩ : ∃ W, W = wr := ⟨_, rfl⟩
    subst hWk
    by_cases hlt : k < n
    · obtain ⟨b, o, eA, hcell⟩ := (HD.out.below HP.out.bel).at' (by omega)
      subst eA
      have Hc := Lib.hid (fun j hj => hcell k j hlt hj)
      have hdl : (dep D k).length = 32 := (HD.out.hs _ (dep_mem (by rw [HD.out.len]; exact hlt))).1
      have Hdl := Lib.hid hdl
      have Hnx := Lib.hid (flat_next2 (D := D) (k := k) (by rw [HD.out.len]; exact hlt))
      obtain ⟨l, hl⟩ : ∃ l, l = dep D k := ⟨_, rfl⟩
      rw [← hl] at Hc Hdl Hnx
      clear hcell hdl hl
      have hsk := HP.out.bel.size
      obtain ⟨Av, cv, hv⟩ := own_slice HP.out.own
      subst hv
      obtain ⟨m, hm⟩ : ∃ m, m = k1 + k * 32 := ⟨_, rfl⟩
      rw [← hm] at HP ⊢
      have hm9 : m ≤ 40000 := by omega
      have Hm := Lib.hid hm
      clear hm
      go_upto_region 5 with (first
        | (refine wpList_loadHash rfl _ rfl rfl Hdl.out Hc.out ?_)
        | (refine wpList_store_row rfl 67 _ _ rfl Wk.heap.size _ rfl rfl 67 _ (heap_alloc_new Wk _) (by rw [size32, Hdl.out]; kernel_rfl) (by rw [size32, Hdl.out]; rfl) (ints_one _ _) ?_))
      rw [World.setRow_alloc_new]
      obtain ⟨h, hh⟩ : ∃ h, h = Wk.heap.size := ⟨_, rfl⟩
      obtain ⟨W5, hW5⟩ : ∃ X, X = Wk.alloc (.cells (ints .u8 l).toArray 67) := ⟨_, rfl⟩
      have HP5 := Lib.hid (show HPut w W5 (.slice Av m cv) m (lebU n ++ (D.take k).flatten) bc _ by rw [hW5]; exact HP.out.below ((Below.refl _ _).alloc (Nat.le_refl _) _))
      have HR5 : Hid (Rd W5 .u8 (some ⟨h, 0, none⟩) 32 l) := Lib.hid (by
        have hB : Blk W5 h 67 .u8 l := by rw [hW5, hh]; exact heap_alloc_new Wk _
        exact hB.rd Hdl.out)
      rw [← hW5, ← hh]
      clear hW5 hh
      have hs5 := HP5.out.bel.size
      go_wp2_with (at_builtin; refine wpList_appRd rfl _ _ rfl elU8b HP5.out.own rfl rfl HR5.out (fun e => by cases e) (by omega) hs5 ?_; intro v4 w4 hown4 hg4; have HP4 := Lib.hid (HP5.out.app Hdl.out hown4 hg4); clear hown4 hg4)
      go_roundw
      case rel =>
        refine ⟨k + 1, by omega, by go_num, Lib.hid ?_⟩
        have h4 := HP4.out
        rw [List.append_assoc, ← Hnx.out, Hm.out, Nat.add_assoc, show k * 32 + 32 = (k + 1) * 32 by omega] at h4
        exact h4
      case measure => simp [intOf]; omega
    · obtain rfl : k = n := by omega
      have HP9 := Lib.hid (show HPut w Wk u3 (k1 + k * 32) (lebU k ++ D.flatten) bc _ by have := HP.out; rw [List.take_of_length_le (by rw [HD.out.len]; omega)] at this; exact this)
      obtain ⟨Av, cv, hv⟩ := own_slice HP9.out.own
      subst hv
      obtain ⟨m0, hm0⟩ : ∃ m, m = k1 + k * 32 := ⟨_, rfl⟩
      obtain ⟨L0, hL0⟩ : ∃ m, m = lebU k ++ D.flatten := ⟨_, rfl⟩
      rw [← hm0, ← hL0] at HP9
      rw [← hm0]
      have hm9 : m0 ≤ 40000 := by omega
      have HL0 := Lib.hid hL0
      have hnl : Hid (m0 = L0.length) := Lib.hid (by have := HP9.out.own.1; rw [ints_length] at this; omega)
      have hHsz : w.heap.size ≤ Wk.heap.size := HP9.out.bel.size
      clear hm0 hL0 HP hlt hk
      go_upto_region 7 with fail
      have cs1 : Wk.drew.cell? ⟨bc, 0, none⟩ = some (.string a) := HP9.out.cell 0
      obtain ⟨qu1, hqu1⟩ : ∃ q, q = (lebU a.size).length := ⟨_, rfl⟩
      have h101 := lebU_10 (n := a.size) (by omega)
      rw [← hqu1] at h101
      have Hqu1 := Lib.hid hqu1
      clear hqu1
      have hwr1 : IntKind.u64.wrap (a.size : Int) = (a.size : Int) := wraps64 _ (by omega) (by omega)
      refine wp_region_noPanic ?_
      refine wp_region_held_drew (S := fun W' => W'.cell? ⟨bc, 0, none⟩ = some (.string a)) (by kernel_rfl) (cs1) (fun hHeld => ?_)
      refine' wpAnyH_take (i := 0) (oi := ⟨_, _, _, _, _, _⟩) (v := _) rfl (by kernel_rfl) (by kernel_rfl) (by kernel_rfl) (fun _ _ _ h => h) (Or.inl ⟨by rfl, ?hyp10⟩) (by assumption) ?restp10
      case hyp10 => (intro w hSw; (try dsimp only at hSw); go_simp; try with_reducible rfl)
      try simp only [Act.put, List.setIfInBounds_toArray, List.set_cons_zero, List.set_cons_succ]
      refine' wpAnyH_take (i := 1) (oi := ⟨_, _, _, _, _, _⟩) (v := _) rfl (by kernel_rfl) (by kernel_rfl) (by kernel_rfl) (fun _ _ _ h => h) (Or.inl ⟨by rfl, ?hyp11⟩) (by assumption) ?restp11
      case hyp11 => (intro w hSw; (try dsimp only at hSw); go_simp; try with_reducible rfl)
      try simp only [Act.put, List.setIfInBounds_toArray, List.set_cons_zero, List.set_cons_succ]
      refine' wpAnyH_take (i := 2) (oi := ⟨_, _, _, _, _, _⟩) (v := _) rfl (by kernel_rfl) (by kernel_rfl) (by kernel_rfl) (fun _ _ _ h => h) (Or.inl ⟨by rfl, ?hyp12⟩) (by assumption) ?restp12
      case hyp12 => (intro w hSw; (try dsimp only at hSw); go_simp; try with_reducible rfl)
      try simp only [Act.put, List.setIfInBounds_toArray, List.set_cons_zero, List.set_cons_succ]
      refine' wpAnyH_take (i := 3) (oi := ⟨_, _, _, _, _, _⟩) (v := _) rfl (by kernel_rfl) (by kernel_rfl) (by kernel_rfl) (fun _ _ _ h => h) (Or.inl ⟨by rfl, ?hyp13⟩) (by assumption) ?restp13
      case hyp13 => (intro w hSw; (try dsimp only at hSw); go_simp; try with_reducible rfl)
      try simp only [Act.put, List.setIfInBounds_toArray, List.set_cons_zero, List.set_cons_succ]
      refine' wpAnyH_take (i := 4) (oi := ⟨_, _, _, _, _, _⟩) (v := _) rfl (by kernel_rfl) (by kernel_rfl) (by kernel_rfl) (fun _ _ _ h => h) (Or.inl ⟨by rfl, ?hyp14⟩) (by assumption) ?restp14
      case hyp14 => (intro w hSw; (try dsimp only at hSw); go_simp; try with_reducible rfl)
      try simp only [Act.put, List.setIfInBounds_toArray, List.set_cons_zero, List.set_cons_succ]
      refine' wpAnyH_take (i := 7) (oi := ⟨_, _, _, _, _, _⟩) (v := _) rfl (by kernel_rfl) (by kernel_rfl) (by kernel_rfl) (fun _ _ _ h => h) (Or.inl ⟨by rfl, ?hyp17⟩) (by assumption) ?restp17
      case hyp17 => (intro w hSw; (try dsimp only at hSw); go_simp; try with_reducible rfl)
      try simp only [Act.put, List.setIfInBounds_toArray, List.set_cons_zero, List.set_cons_succ]
      refine' wpAnyH_take (i := 8) (oi := ⟨_, _, _, _, _, _⟩) (v := _) rfl (by kernel_rfl) (by kernel_rfl) (by kernel_rfl) (fun _ _ _ h => h) (Or.inl ⟨by rfl, ?hyp18⟩) (by assumption) ?restp18
      case hyp18 => (intro w hSw; (try dsimp only at hSw); go_simp; try with_reducible rfl)
      try simp only [Act.put, List.setIfInBounds_toArray, List.set_cons_zero, List.set_cons_succ]
      refine wpAnyH_ready (rs := [5]) (by kernel_rfl) (by simp) ?_
      refine AllReadyH.cons (o := ⟨_, _, _, _, _, _⟩) rfl (fun K hK => ?_) AllReadyH.nil
      go_simp
      go_at_call 43
      refine (U_calls a.size _ (by omega)).mono ?_
      rintro eu1 wu1 ⟨vu1, rfl, hou1, hbu1⟩
      rw [← Hqu1.out] at hou1
      obtain ⟨Au1, cu1, rfl, _, hru1⟩ := own_rd hou1
      have hnu1 := own_none hou1
      have HP1a := Lib.hid (HP9.out.drew.below hbu1)
      have cu1b : wu1.cell? ⟨bc, 0, none⟩ = some (.string a) := HP1a.out.cell 0
      have hsu1 := HP1a.out.bel.size
      clear hou1
      refine hK.out _ _ (cu1b) (fun hHeldN => ?_)
      clear hK K hHeld
      have hHeld := hHeldN
      clear hHeldN
      try simp only [Act.put, List.setIfInBounds_toArray, List.set_cons_zero, List.set_cons_succ]
      refine wpAnyH_ready (rs := [6]) (by kernel_rfl) (by simp) ?_
      refine AllReadyH.cons (o := ⟨_, _, _, _, _, _⟩) rfl (fun K hK => ?_) AllReadyH.nil
      refine step_appRd rfl _ _ rfl elU8b HP1a.out.own rfl rfl hru1 hnu1 (by omega) hsu1 ?_
      intro vv1 ww1 ho1w hf1w
      have HP1b := Lib.hid (HP1a.out.app (M := lebU a.size) Hqu1.out.symm ho1w hf1w)
      have cw1b : ww1.cell? ⟨bc, 0, none⟩ = some (.string a) := HP1b.out.cell 0
      have hsw1 := HP1b.out.bel.size
      clear ho1w hf1w
      refine hK.out _ _ (cw1b) (fun hHeldN => ?_)
      clear hK K hHeld
      have hHeld := hHeldN
      clear hHeldN
      try simp only [Act.put, List.setIfInBounds_toArray, List.set_cons_zero, List.set_cons_succ]
      refine wpAnyH_ready (rs := [9]) (by kernel_rfl) (by simp) ?_
      refine AllReadyH.cons (o := ⟨_, _, _, _, _, _⟩) rfl (fun K hK => ?_) AllReadyH.nil
      refine step_appStr rfl _ _ rfl elU8b Try.underlying9 HP1b.out.own rfl rfl (by omega) hsw1 ?_
      intro vx1 wx1 ho1x hf1x
      have HP1c := Lib.hid (HP1b.out.app (M := nums a) (nums_length _) ho1x hf1x)
      have cx1b : wx1.cell? ⟨bc, 0, none⟩ = some (.string a) := HP1c.out.cell 0
      clear ho1x hf1x
      refine hK.out _ _ (cx1b) (fun hHeldN => ?_)
      clear hK K hHeld
      have hHeld := hHeldN
      clear hHeldN
      try simp only [Act.put, List.setIfInBounds_toArray, List.set_cons_zero, List.set_cons_succ]
      refine' wpAnyH_take (i := 10) (oi := ⟨_, _, _, _, _, _⟩) (v := _) rfl (by kernel_rfl) (by kernel_rfl) (by kernel_rfl) (fun _ _ _ h => h) (Or.inl ⟨by rfl, ?hyq110⟩) (by assumption) ?restq110
      case hyq110 => (intro w hSw; (try dsimp only at hSw); go_simp; try with_reducible rfl)
      try simp only [Act.put, List.setIfInBounds_toArray, List.set_cons_zero, List.set_cons_succ]
      refine wpAnyH_done (by kernel_rfl) ?_ _
      refine NoPanic.normal ?_
      clear hHeld cs1 cu1b cw1b cx1b hru1 hnu1
      obtain ⟨A1, v1c, hv1⟩ := own_slice HP1c.out.own
      subst hv1
      obtain ⟨W8, hW8⟩ : ∃ X, X = wx1 := ⟨_, rfl⟩
      rw [← hW8]
      rw [← hW8] at HP1c
      clear hW8
      obtain ⟨m1, hm1⟩ : ∃ m, m = m0 + qu1 + a.size := ⟨_, rfl⟩
      obtain ⟨L1, hL1⟩ : ∃ m, m = L0 ++ lebU a.size ++ nums a := ⟨_, rfl⟩
      rw [← hm1, ← hL1] at HP1c
      rw [← hm1]
      have hm19 : m1 ≤ 50000 := by omega
      have HL1 := Lib.hid hL1
      clear hm1 hL1 hm9 hwr1 h101
      have c1 : W8.cell? ⟨bc, 1, none⟩ = some (.int .i64 sq) := HP1c.out.cell 1
      have c2 : W8.cell? ⟨bc, 2, none⟩ = some (.int .i64 st) := HP1c.out.cell 2
      have hwq : IntKind.u64.wrap (sq : Int) = (sq : Int) := wraps64 _ (by omega) (by omega)
      have hwt : IntKind.u64.wrap (st : Int) = (st : Int) := wraps64 _ (by omega) (by omega)
      have HR8 := Lib.hid (rd_lit2 W8 .u64 sq st 45)
      have HP8 := Lib.hid (show HPut w (W8.alloc (.cells #[.int .u64 sq, .int .u64 st] 45)) (.slice A1 m1 v1c) m1 L1 bc _ from HP1c.out.below ((Below.refl _ _).alloc (Nat.le_refl _) _))
      have hE8 : Hid (([(sq : Int), (st : Int)]).flatMap (fun x => lebU x.toNat) = lebU sq ++ lebU st) := Lib.hid (by simp)
      have h10a := lebU_10 (n := sq) (by omega)
      have h10b := lebU_10 (n := st) (by omega)
      obtain ⟨q8, hq8⟩ : ∃ q, q = (lebU sq ++ lebU st).length := ⟨_, rfl⟩
      have hq89 : q8 ≤ 20 := by rw [hq8, List.length_append]; omega
      have Hq8 := Lib.hid hq8
      clear hq8 h10a h10b
      have HL8 : Hid (∀ x ∈ [(sq : Int), (st : Int)], 0 ≤ x ∧ x < 18446744073709551616) := Lib.hid (fun x hx => by simp at hx; omega)
      go_wp2_with fail
      refine (All_calls _ 2 2 [(sq : Int), (st : Int)] _ HR8.out HL8.out (by decide)).mono ?_
      rintro e8 w8 ⟨v8, rfl, ho8, hb8⟩
      rw [hE8.out, ← Hq8.out] at ho8
      obtain ⟨A8, k8, rfl, _, hr8⟩ := own_rd ho8
      have Hr8 := Lib.hid hr8
      have Hn8 := Lib.hid (own_none ho8)
      have HP8b := Lib.hid (HP8.out.below hb8)
      have hs8 := HP8b.out.bel.size
      clear ho8 hr8 hb8 c1 c2
      go_wp2_with (at_builtin; refine wpList_appRd rfl _ _ rfl elU8b HP8b.out.own rfl rfl Hr8.out Hn8.out (by omega) hs8 ?_; intro v9 w9 hown9 hg9; have HP9a := Lib.hid (HP8b.out.app Hq8.out.symm hown9 hg9); obtain ⟨A9, k9, rfl⟩ := own_slice hown9; have c3 : w9.cell? ⟨bc, 3, none⟩ = some (.int .i64 tm) := HP9a.out.cell 3; clear hown9 hg9)
      refine (S_calls tm _ Htm.out).mono ?_
      rintro e10 w10 ⟨v10, rfl, ho10, hb10⟩
      have h10c := lebS_10 Htm.out
      obtain ⟨q10, hq10⟩ : ∃ q, q = (lebS tm).length := ⟨_, rfl⟩
      rw [← hq10] at ho10 h10c
      have Hq10 := Lib.hid hq10
      obtain ⟨A10, k10, rfl, _, hr10⟩ := own_rd ho10
      have Hr10 := Lib.hid hr10
      have Hn10 := Lib.hid (own_none ho10)
      have HP10 := Lib.hid (HP9a.out.below hb10)
      have hs10 := HP10.out.bel.size
      clear ho10 hr10 hb10 c3 hq10
      go_upto_region 10 with (at_builtin; refine wpList_appRd rfl _ _ rfl elU8b HP10.out.own rfl rfl Hr10.out Hn10.out (by omega) hs10 ?_; intro v11 w11 hown11 hg11; have HP11 := Lib.hid (HP10.out.app Hq10.out.symm hown11 hg11); obtain ⟨A11, k11, rfl⟩ := own_slice hown11; clear hown11 hg11)
      obtain ⟨W11, hW11⟩ : ∃ X, X = w11 := ⟨_, rfl⟩
      subst hW11
      obtain ⟨m2, hm2⟩ : ∃ m, m = m1 + q8 + q10 := ⟨_, rfl⟩
      obtain ⟨L2, hL2⟩ : ∃ m, m = L1 ++ (lebU sq ++ lebU st) ++ lebS tm := ⟨_, rfl⟩
      rw [← hm2, ← hL2] at HP11
      rw [← hm2]
      have hm29 : m2 ≤ 50100 := by omega
      have HL2 := Lib.hid hL2
      clear hm2 hL2 hwq hwt
      have cs2 : W11.drew.cell? ⟨bc, 4, none⟩ = some (.string ms) := HP11.out.cell 4
      obtain ⟨qu2, hqu2⟩ : ∃ q, q = (lebU ms.size).length := ⟨_, rfl⟩
      have h102 := lebU_10 (n := ms.size) (by omega)
      rw [← hqu2] at h102
      have Hqu2 := Lib.hid hqu2
      clear hqu2
      have hwr2 : IntKind.u64.wrap (ms.size : Int) = (ms.size : Int) := wraps64 _ (by omega) (by omega)
      refine wp_region_noPanic ?_
      refine wp_region_held_drew (S := fun W' => W'.cell? ⟨bc, 4, none⟩ = some (.string ms)) (by kernel_rfl) (cs2) (fun hHeld => ?_)
      refine' wpAnyH_take (i := 0) (oi := ⟨_, _, _, _, _, _⟩) (v := _) rfl (by kernel_rfl) (by kernel_rfl) (by kernel_rfl) (fun _ _ _ h => h) (Or.inl ⟨by rfl, ?hyp20⟩) (by assumption) ?restp20
      case hyp20 => (intro w hSw; (try dsimp only at hSw); go_simp; try with_reducible rfl)
      try simp only [Act.put, List.setIfInBounds_toArray, List.set_cons_zero, List.set_cons_succ]
      refine' wpAnyH_take (i := 1) (oi := ⟨_, _, _, _, _, _⟩) (v := _) rfl (by kernel_rfl) (by kernel_rfl) (by kernel_rfl) (fun _ _ _ h => h) (Or.inl ⟨by rfl, ?hyp21⟩) (by assumption) ?restp21
      case hyp21 => (intro w hSw; (try dsimp only at hSw); go_simp; try with_reducible rfl)
      try simp only [Act.put, List.setIfInBounds_toArray, List.set_cons_zero, List.set_cons_succ]
      refine' wpAnyH_take (i := 2) (oi := ⟨_, _, _, _, _, _⟩) (v := _) rfl (by kernel_rfl) (by kernel_rfl) (by kernel_rfl) (fun _ _ _ h => h) (Or.inl ⟨by rfl, ?hyp22⟩) (by assumption) ?restp22
      case hyp22 => (intro w hSw; (try dsimp only at hSw); go_simp; try with_reducible rfl)
      try simp only [Act.put, List.setIfInBounds_toArray, List.set_cons_zero, List.set_cons_succ]
      refine' wpAnyH_take (i := 3) (oi := ⟨_, _, _, _, _, _⟩) (v := _) rfl (by kernel_rfl) (by kernel_rfl) (by kernel_rfl) (fun _ _ _ h => h) (Or.inl ⟨by rfl, ?hyp23⟩) (by assumption) ?restp23
      case hyp23 => (intro w hSw; (try dsimp only at hSw); go_simp; try with_reducible rfl)
      try simp only [Act.put, List.setIfInBounds_toArray, List.set_cons_zero, List.set_cons_succ]
      refine' wpAnyH_take (i := 4) (oi := ⟨_, _, _, _, _, _⟩) (v := _) rfl (by kernel_rfl) (by kernel_rfl) (by kernel_rfl) (fun _ _ _ h => h) (Or.inl ⟨by rfl, ?hyp24⟩) (by assumption) ?restp24
      case hyp24 => (intro w hSw; (try dsimp only at hSw); go_simp; try with_reducible rfl)
      try simp only [Act.put, List.setIfInBounds_toArray, List.set_cons_zero, List.set_cons_succ]
      refine' wpAnyH_take (i := 7) (oi := ⟨_, _, _, _, _, _⟩) (v := _) rfl (by kernel_rfl) (by kernel_rfl) (by kernel_rfl) (fun _ _ _ h => h) (Or.inl ⟨by rfl, ?hyp27⟩) (by assumption) ?restp27
      case hyp27 => (intro w hSw; (try dsimp only at hSw); go_simp; try with_reducible rfl)
      try simp only [Act.put, List.setIfInBounds_toArray, List.set_cons_zero, List.set_cons_succ]
      refine' wpAnyH_take (i := 8) (oi := ⟨_, _, _, _, _, _⟩) (v := _) rfl (by kernel_rfl) (by kernel_rfl) (by kernel_rfl) (fun _ _ _ h => h) (Or.inl ⟨by rfl, ?hyp28⟩) (by assumption) ?restp28
      case hyp28 => (intro w hSw; (try dsimp only at hSw); go_simp; try with_reducible rfl)
      try simp only [Act.put, List.setIfInBounds_toArray, List.set_cons_zero, List.set_cons_succ]
      refine wpAnyH_ready (rs := [5]) (by kernel_rfl) (by simp) ?_
      refine AllReadyH.cons (o := ⟨_, _, _, _, _, _⟩) rfl (fun K hK => ?_) AllReadyH.nil
      go_simp
      go_at_call 43
      refine (U_calls ms.size _ (by omega)).mono ?_
      rintro eu2 wu2 ⟨vu2, rfl, hou2, hbu2⟩
      rw [← Hqu2.out] at hou2
      obtain ⟨Au2, cu2, rfl, _, hru2⟩ := own_rd hou2
      have hnu2 := own_none hou2
      have HP2a := Lib.hid (HP11.out.drew.below hbu2)
      have cu2b : wu2.cell? ⟨bc, 4, none⟩ = some (.string ms) := HP2a.out.cell 4
      have hsu2 := HP2a.out.bel.size
      clear hou2
      refine hK.out _ _ (cu2b) (fun hHeldN => ?_)
      clear hK K hHeld
      have hHeld := hHeldN
      clear hHeldN
      try simp only [Act.put, List.setIfInBounds_toArray, List.set_cons_zero, List.set_cons_succ]
      refine wpAnyH_ready (rs := [6]) (by kernel_rfl) (by simp) ?_
      refine AllReadyH.cons (o := ⟨_, _, _, _, _, _⟩) rfl (fun K hK => ?_) AllReadyH.nil
      refine step_appRd rfl _ _ rfl elU8b HP2a.out.own rfl rfl hru2 hnu2 (by omega) hsu2 ?_
      intro vv2 ww2 ho2w hf2w
      have HP2b := Lib.hid (HP2a.out.app (M := lebU ms.size) Hqu2.out.symm ho2w hf2w)
      have cw2b : ww2.cell? ⟨bc, 4, none⟩ = some (.string ms) := HP2b.out.cell 4
      have hsw2 := HP2b.out.bel.size
      clear ho2w hf2w
      refine hK.out _ _ (cw2b) (fun hHeldN => ?_)
      clear hK K hHeld
      have hHeld := hHeldN
      clear hHeldN
      try simp only [Act.put, List.setIfInBounds_toArray, List.set_cons_zero, List.set_cons_succ]
      refine wpAnyH_ready (rs := [9]) (by kernel_rfl) (by simp) ?_
      refine AllReadyH.cons (o := ⟨_, _, _, _, _, _⟩) rfl (fun K hK => ?_) AllReadyH.nil
      refine step_appStr rfl _ _ rfl elU8b Try.underlying9 HP2b.out.own rfl rfl (by omega) hsw2 ?_
      intro vx2 wx2 ho2x hf2x
      have HP2c := Lib.hid (HP2b.out.app (M := nums ms) (nums_length _) ho2x hf2x)
      have cx2b : wx2.cell? ⟨bc, 4, none⟩ = some (.string ms) := HP2c.out.cell 4
      clear ho2x hf2x
      refine hK.out _ _ (cx2b) (fun hHeldN => ?_)
      clear hK K hHeld
      have hHeld := hHeldN
      clear hHeldN
      try simp only [Act.put, List.setIfInBounds_toArray, List.set_cons_zero, List.set_cons_succ]
      refine' wpAnyH_take (i := 10) (oi := ⟨_, _, _, _, _, _⟩) (v := _) rfl (by kernel_rfl) (by kernel_rfl) (by kernel_rfl) (fun _ _ _ h => h) (Or.inl ⟨by rfl, ?hyq210⟩) (by assumption) ?restq210
      case hyq210 => (intro w hSw; (try dsimp only at hSw); go_simp; try with_reducible rfl)
      try simp only [Act.put, List.setIfInBounds_toArray, List.set_cons_zero, List.set_cons_succ]
      refine wpAnyH_done (by kernel_rfl) ?_ _
      refine NoPanic.normal ?_
      clear hHeld cs2 cu2b cw2b cx2b hru2 hnu2
      obtain ⟨A12, k12, hv12⟩ := own_slice HP2c.out.own
      subst hv12
      obtain ⟨W12, hW12⟩ : ∃ X, X = wx2 := ⟨_, rfl⟩
      rw [← hW12]
      rw [← hW12] at HP2c
      clear hW12
      obtain ⟨m3, hm3⟩ : ∃ m, m = m2 + qu2 + ms.size := ⟨_, rfl⟩
      obtain ⟨L3, hL3⟩ : ∃ m, m = L2 ++ lebU ms.size ++ nums ms := ⟨_, rfl⟩
      rw [← hm3, ← hL3] at HP2c
      rw [← hm3]
      have hm39 : m3 ≤ 60000 := by omega
      have HL3 := Lib.hid hL3
      clear hm3 hL3 hwr2 h102
      have c0 : W12.cell? ⟨bc, 0, none⟩ = some (.string a) := HP2c.out.cell 0
      have c6 : W12.cell? ⟨bc, 6, none⟩ = some (.slice O on oc) := HP2c.out.cell 6
      go_wp2_with fail
      refine (Table_calls a O on oc L _ ha (HO.out.below HP2c.out.bel) (by omega) HF.out).mono ?_
      rintro e13 w13 ⟨v13, T, rfl, hT, ho13, hb13⟩
      have htl : T.length ≤ 3361 := HTl.out T hT
      have HszT : Hid (∀ s ∈ T, s.size ≤ 1000) := by
        refine Lib.hid (fun s hs => ?_)
        obtain ⟨t, hTt, hup, hmem⟩ := hT.is
        rw [hTt] at hs
        rcases List.mem_cons.1 hs with e | e
        · rw [e]; exact ha
        · obtain ⟨_, y, hy, e2⟩ := (hmem s).1 e
          have := small_of2 HO.out HF.out y hy
          rw [e2] at this
          omega
      have HT := Lib.hid hT
      obtain ⟨tn, htn⟩ : ∃ q, q = T.length := ⟨_, rfl⟩
      rw [← htn] at ho13
      have htn9 : tn ≤ 3361 := by omega
      obtain ⟨A13, k13, rfl, hc13, hr13, hn13⟩ := own_rdS ho13
      have Hr13 := Lib.hid hr13
      have Hn13 := Lib.hid hn13
      have HP13 := Lib.hid (HP2c.out.below hb13)
      clear hT ho13 hr13 hn13 hb13 c0 c6 htn htl
      go_wp2_with fail
      refine (Put_calls _ tn k13 T _ Hr13.out Hn13.out hc13 (by omega) HszT.out).mono ?_
      rintro e14 w14 ⟨v14, rfl, ho14, hb14⟩
      have HP14 := Lib.hid (HP13.out.below hb14)
      have hs14 := HP14.out.bel.size
      have hpl := putT_le HszT.out (by have := Hr13.out.1; omega)
      obtain ⟨q14, hq14⟩ : ∃ q, q = (putT T).length := ⟨_, rfl⟩
      rw [← hq14] at ho14 hpl
      have Hq14 := Lib.hid hq14
      obtain ⟨A14, k14, rfl, _, hr14⟩ := own_rd ho14
      have Hr14 := Lib.hid hr14
      have Hn14 := Lib.hid (own_none ho14)
      clear ho14 hr14 hb14 hq14
      go_wp2_with (at_builtin; refine wpList_appRd rfl _ _ rfl elU8b HP14.out.own rfl rfl Hr14.out Hn14.out (by omega) hs14 ?_; intro v15 w15 hown15 hg15; have HP15 := Lib.hid (HP14.out.app Hq14.out.symm hown15 hg15); clear hown15 hg15)
      go_ret
      have hE : L3 ++ putT T = headB ⟨a, sq, st, tm, ms, D⟩ T := by
        rw [HL3.out, HL2.out, HL1.out, HL0.out]
        simp only [headB, txtB, List.append_assoc, HD.out.len]
      have h15 := HP15.out.own
      have hl15 : m3 + q14 = (headB ⟨a, sq, st, tm, ms, D⟩ T).length := by rw [← hE]; have := h15.1; rw [ints_length] at this; omega
      rw [hE, hl15] at h15
      exact ⟨_, T, rfl, HT.out, h15, HP15.out.bel⟩
end Go.Proofs.Ytdbkbeojedndbaa
/-
  The document's example of ch. 20; what a table of nobody is.
-/
namespace Go.Proofs.Ytdbkbeojedndbaa
open Go.RowKit

theorem table_nil {au : ByteArray} {T : List ByteArray} (h : IsTable au (namesL []) T) : T = [au] := by
  obtain ⟨t, rfl, _, hm⟩ := h.is
  cases t with
  | nil => rfl
  | cons s t =>
    obtain ⟨_, y, hy, _⟩ := (hm s).1 List.mem_cons_self
    cases hy
theorem deps_nil (w : World) : DepsAt w none 0 0 [] := ⟨rfl, (fun h hh => by cases hh), Nat.le_refl _, fun _ => ⟨rfl, rfl⟩, fun h => by cases h⟩
theorem ops_nil (w : World) : OpsAt w none 0 [] := ⟨rfl, (fun x hx => by cases hx), fun h => by cases h⟩
theorem headB_byte {x : HdV} {T : List ByteArray} (h : ∀ d ∈ x.deps, ∀ y ∈ d, 0 ≤ y ∧ y ≤ 255) : ∀ y ∈ headB x T, 0 ≤ y ∧ y ≤ 255 := by
  have ht : ∀ s : ByteArray, ∀ y ∈ txtB s, 0 ≤ y ∧ y ≤ 255 := fun s y hy => (List.mem_append.1 hy).elim (lebU_byte _ y) (nums_byte s y)
  intro y hy
  unfold headB at hy
  rcases List.mem_append.1 hy with h1 | hy
  · exact lebU_byte _ y h1
  rcases List.mem_append.1 hy with h1 | hy
  · obtain ⟨d, hd, h2⟩ := List.mem_flatten.1 h1
    exact h d hd y h2
  rcases List.mem_append.1 hy with h1 | hy
  · exact ht _ y h1
  rcases List.mem_append.1 hy with h1 | hy
  · exact lebU_byte _ y h1
  rcases List.mem_append.1 hy with h1 | hy
  · exact lebU_byte _ y h1
  rcases List.mem_append.1 hy with h1 | hy
  · exact lebS_byte _ y h1
  rcases List.mem_append.1 hy with h1 | hy
  · exact ht _ y h1
  · exact putT_byte T y hy
theorem headB_len {x : HdV} {T : List ByteArray} (h1 : x.actor.size ≤ 1000) (h2 : x.seq ≤ 9007199254740991) (h3 : x.start ≤ 9007199254740991) (h4 : I64 x.time) (h5 : x.msg.size ≤ 2000) (h6 : x.deps.length ≤ 40) (h7 : Hashes x.deps) : 1 ≤ (headB x T).length ∧ (headB x T).length ≤ 4400 + (putT T).length := by
  have a0 := lebU_10 (n := x.deps.length) (by omega)
  have a1 := lebU_10 (n := x.actor.size) (by omega)
  have a2 := lebU_10 (n := x.seq) (by omega)
  have a3 := lebU_10 (n := x.start) (by omega)
  have a4 := lebS_10 h4
  have a5 := lebU_10 (n := x.msg.size) (by omega)
  have a6 := flat_len h7
  simp only [headB, txtB, List.length_append, nums_length]
  omega
theorem head_a : headB ⟨⟨#[97]⟩, 1, 1, 0, ⟨#[]⟩, []⟩ [⟨#[97]⟩] = [0, 1, 97, 1, 1, 0, 0, 0] := by
  have e0 : lebU 0 = [0] := lebU_last (by decide)
  have e1 : lebU 1 = [1] := lebU_last (by decide)
  have s0 : lebS 0 = [0] := lebS_last (by decide)
  have p0 : putT [⟨#[97]⟩] = lebU 0 ++ [] := rfl
  have t1 : txtB ⟨#[97]⟩ = lebU 1 ++ [97] := rfl
  have t0 : txtB ⟨#[]⟩ = lebU 0 ++ [] := rfl
  unfold headB
  simp only [p0, t1, t0, s0, e0, e1, List.length_nil, List.flatten_nil]
  rfl
set_option maxHeartbeats 1000000 in
set_option maxRecDepth 100000 in
theorem awake20_calls (w : World) : Calls Try.prog 9 #[] w fun e w' => e = .returned (.bool true) ∧ Below w.heap.size w w' := by
  go_enter Try.func9, Try.ntmps9
  go_wp2_with fail
  refine (hPut_calls ⟨#[97]⟩ 1 1 0 ⟨#[]⟩ none 0 0 [] none 0 0 [] w (by decide) (by decide) (by decide) (by decide) ⟨by decide, by decide⟩ (deps_nil w) (by decide) (ops_nil w) (by decide) (fun i hi => by omega) (fun T hT => by rw [table_nil hT]; decide)).mono ?_
  rintro e w1 ⟨v, T, rfl, hT, ho, hb⟩
  obtain rfl := table_nil hT
  have hE := head_a
  rw [hE] at ho
  obtain ⟨A2, c2, rfl, _, hr2⟩ := own_rd ho
  have HB := Lib.hid hb
  have cv := conv_all (n := 8) (c := c2) hr2
  have hs : strOfNums [0, 1, 97, 1, 1, 0, 0, 0] = ⟨#[0, 1, 97, 1, 1, 0, 0, 0]⟩ := rfl
  rw [hs] at cv
  clear hE ho hb hr2 hs hT
  go_wp2_with fail
  go_ret
  exact ⟨rfl, HB.out⟩
end Go.Proofs.Ytdbkbeojedndbaa
