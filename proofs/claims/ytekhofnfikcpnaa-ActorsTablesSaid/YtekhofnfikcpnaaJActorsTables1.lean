/-
  Texts joined into one file: ActorsTurned, ActorsTables.
-/
import Derived.Test.YtekhofnfikcpnaaJAw183
import Derived.Deep.Cut
import Derived.Deep.CutRange
import Derived.Deep.CutBlock
import Derived.Deep.RegionLaw
import Derived.Deep.AppendLies
import Derived.Deep.RegionHeld3
/-
  The walk of the law ActorsTurned.
-/
namespace Go.Proofs.Ytekhofnfikcpnaa
open Go.RowKit

def opCells (x : OpV) : List Value := [.int .i64 x.obj.1, .string x.obj.2, .string x.key, .bool x.keyed, .int .i64 x.elem.1, .string x.elem.2, .bool x.ins, .int .i64 x.act, .int .i64 x.kind, .int .u64 x.u, .int .i64 x.n, .string x.s, .slice x.pA x.pn x.pc]
def opRow (L : List OpV) : List Value := L.flatMap opCells
theorem opRow_length (L : List OpV) : (opRow L).length = L.length * 13 := by
  induction L with
  | nil => rfl
  | cons x L ih => simp [opRow, opCells] at ih ⊢; omega
theorem opRow_get : ∀ {L : List OpV} {j k : Nat} {u : Value}, j < L.length → (opCells (opv L j))[k]? = some u → (opRow L)[j * 13 + k]? = some u := by
  intro L
  induction L with
  | nil => intro j k u h; simp at h
  | cons x L ih =>
    intro j k u h hk
    have hk13 : k < 13 := (List.getElem?_eq_some_iff.1 hk).1
    have e : opRow (x :: L) = opCells x ++ opRow L := rfl
    cases j with
    | zero =>
      rw [e, Nat.zero_mul, Nat.zero_add, List.getElem?_append_left hk13]
      exact hk
    | succ j =>
      rw [e, show (j + 1) * 13 + k = 13 + (j * 13 + k) by omega, List.getElem?_append_right (by show 13 ≤ _; omega), show 13 + (j * 13 + k) - (opCells x).length = j * 13 + k by show 13 + _ - 13 = _; omega]
      exact ih (by simpa using h) hk
theorem elOp : ElT Try.prog 22 32 (.agg #[.int .i64 0, .string ByteArray.empty, .string ByteArray.empty, .bool false, .int .i64 0, .string ByteArray.empty, .bool false, .int .i64 0, .int .i64 0, .int .u64 0, .int .i64 0, .string ByteArray.empty, .slice none 0 0]) 13 152 := ⟨Try.underlying22, by kernel_rfl, rfl, by decide, by decide⟩
theorem OpsAt.of {w : World} {A : Option Addr} {n : Nat} {L : List OpV} (h : RdV w A n 13 (opRow L)) (hx : ∀ x ∈ L, OpWf x ∧ NmsAt w x.pA x.pn x.preds) : OpsAt w A n L := by
  have hl := h.1
  rw [opRow_length] at hl
  have hl' : L.length = n := by omega
  refine ⟨hl', hx, fun hn => ?_⟩
  obtain ⟨b, o, e, hc⟩ := h.2 hn
  refine ⟨b, o, e, fun j hj => ?_⟩
  have g : ∀ k u, (opCells (opv L j))[k]? = some u → w.cell? ⟨b, o + j * 13 + k, none⟩ = some u := fun k u hu => by
    have := hc _ u (opRow_get (L := L) (j := j) (k := k) (by omega) hu)
    rwa [← Nat.add_assoc] at this
  exact ⟨g 0 _ rfl, g 1 _ rfl, g 2 _ rfl, g 3 _ rfl, g 4 _ rfl, g 5 _ rfl, g 6 _ rfl, g 7 _ rfl, g 8 _ rfl, g 9 _ rfl, g 10 _ rfl, g 11 _ rfl, g 12 _ rfl⟩
/-- Each op twice, the last first. -/
def turned (L : List OpV) (k : Nat) : List OpV := (L.reverse.take k).flatMap fun x => [x, x]
theorem turned_len (L : List OpV) {k : Nat} (h : k ≤ L.length) : (turned L k).length = 2 * k := by
  unfold turned
  have : ∀ l : List OpV, (l.flatMap fun x => [x, x]).length = 2 * l.length := by
    intro l
    induction l with
    | nil => rfl
    | cons a l ih => simp [ih]; omega
  rw [this, List.length_take, List.length_reverse]
  omega
theorem turned_next {L : List OpV} {k : Nat} (h : k < L.length) : turned L (k + 1) = turned L k ++ [opv L (L.length - 1 - k), opv L (L.length - 1 - k)] := by
  unfold turned
  rw [List.take_succ_eq_append_getElem (by rw [List.length_reverse]; exact h), List.flatMap_append]
  congr 1
  rw [List.getElem_reverse]
  unfold opv
  rw [List.getD_eq_getElem?_getD, List.getElem?_eq_getElem (by omega)]
  rfl
theorem turned_mem {L : List OpV} {x : OpV} : x ∈ turned L L.length ↔ x ∈ L := by
  unfold turned
  rw [List.take_of_length_le (by rw [List.length_reverse]; exact Nat.le_refl _), List.mem_flatMap]
  constructor
  · rintro ⟨y, hy, hx⟩
    obtain rfl : x = y := by simpa using hx
    exact List.mem_reverse.1 hy
  · intro hx
    exact ⟨x, List.mem_reverse.2 hx, by simp⟩
theorem names_mem {L M : List OpV} (h : ∀ x, x ∈ L ↔ x ∈ M) (s : ByteArray) : (∃ y ∈ namesL L, y.2 = s) ↔ ∃ y ∈ namesL M, y.2 = s := by
  constructor
  · rintro ⟨y, hy, e⟩
    obtain ⟨x, hx, hy⟩ := List.mem_flatMap.1 hy
    exact ⟨y, List.mem_flatMap.2 ⟨x, (h x).1 hx, hy⟩, e⟩
  · rintro ⟨y, hy, e⟩
    obtain ⟨x, hx, hy⟩ := List.mem_flatMap.1 hy
    exact ⟨y, List.mem_flatMap.2 ⟨x, (h x).2 hx, hy⟩, e⟩
/-- 'append' of two elements that are built right ahead of it. -/
theorem wpList_appTwo {P : Program} {wr : World} {ops : Array Oper} {rest : List Oper} {o : Oper} {a : Act} {Q : Exit → Act → World → Prop} (hgd : o.guard = none) (s x : Operand) {t : TypeId}
    (ho : o.op = .call { callee := .builtin .append, args := #[s, x], argTypes := #[t, t] })
    {base : Nat} {e : TypeId} {z : Value} {size bytes : Nat} (El : ElT P t e z size bytes) {v : Value} {n : Nat} {xs : List Value} (hown : wr.ownsRow base e size v n xs)
    (hs : a.eval s = v) {vs : Array Value} {T : TypeId} (hx : a.eval x = .slice (some ⟨wr.heap.size, 0, none⟩) 2 2) (hl : vs.size = 2 * size) (h1 : vs.toList.all (fun u => u.oneCell') = true)
    (hbytes : (n + 2) * bytes ≤ 140737488355328) (hbase : base ≤ wr.heap.size)
    (h : ∀ v' w', w'.ownsRow base e size v' (n + 2) (xs ++ vs.toList) → Fr wr w' [v.ownBlock] → wpList P ops Q rest (a.put o.dst v') w') : wpList P ops Q (o :: rest) a (wr.alloc (.cells vs T)) := by
  refine wpList_appV hgd s x ho El (own_below hown ((Below.refl _ _).alloc (Nat.le_refl _) _)) hs hx ⟨by rw [Array.length_toList, hl], fun _ => ⟨wr.heap.size, 0, rfl, fun j u hu => ?_⟩⟩ (fun e => by cases e) h1 hbytes (by simp; omega) ?_
  · have := news_at wr vs T j u hu
    rw [addr_add] at this
    exact this
  · intro v' w' h2 h3 _
    exact h v' w' h2 (((Fr.refl wr [v.ownBlock]).alloc _).trans h3 (fun o ho => .inl ho))
theorem names_few {M : List OpV} (h : M.length ≤ 80) (hF : ∀ x ∈ M, FewAt x) (hP : ∀ x ∈ M, x.preds.length = x.pn) : (namesL M).length ≤ 42 * 80 := by
  have : ∀ l : List OpV, (∀ x ∈ l, FewAt x ∧ x.preds.length = x.pn) → (namesL l).length ≤ 42 * l.length := by
    intro l
    induction l with
    | nil => intro _; simp [namesL]
    | cons a l ih =>
      intro hl
      have h1 := ih (fun x hx => hl x (List.mem_cons_of_mem _ hx))
      have h2 := hl a (List.mem_cons_self ..)
      have h3 := namesOf_le a
      have h4 := h2.1.p
      rw [h2.2] at h3
      have e : namesL (a :: l) = namesOf a ++ namesL l := rfl
      rw [e, List.length_append, List.length_cons]
      omega
  have h9 := this M (fun x hx => ⟨hF x hx, hP x hx⟩)
  omega
theorem table_len {au : ByteArray} {N : List Nm} {T : List ByteArray} (h : IsTable au N T) (hN : N.length ≤ 42 * 80) : T.length ≤ 3361 := by
  obtain ⟨t, rfl, h1, h2⟩ := h.is
  have h3 : t.Nodup := h1.imp (fun h e => by subst e; exact ltB_irrefl _ h)
  have h4 := nodup_le (N := N) (P := fun _ => True) h3 (fun s hs => ⟨trivial, ((h2 s).1 hs).2⟩)
  simp only [List.length_cons]
  omega
theorem table_small {au : ByteArray} {N : List Nm} {T : List ByteArray} (h : IsTable au N T) (hN : N.length ≤ 42 * 80) : T.length ≤ 100000 := by
  obtain ⟨t, rfl, h1, h2⟩ := h.is
  have h3 : t.Nodup := h1.imp (fun h e => by subst e; exact ltB_irrefl _ h)
  have h4 := nodup_le (N := N) (P := fun _ => True) h3 (fun s hs => ⟨trivial, ((h2 s).1 hs).2⟩)
  simp only [List.length_cons]
  omega
theorem opv_few {L : List OpV} {n : Nat} (hl : L.length = n) (h : ∀ i, i < n → FewAt (opv L i)) : ∀ x ∈ L, FewAt x := by
  intro x hx
  obtain ⟨i, hi, rfl⟩ := List.getElem_of_mem hx
  have := h i (by omega)
  unfold opv at this
  rwa [List.getD_eq_getElem?_getD, List.getElem?_eq_getElem hi] at this
set_option maxHeartbeats 1000000 in
set_option maxRecDepth 100000 in
theorem ActorsTurned_calls (au : ByteArray) (A : Option Addr) (n cap : Nat) (L : List OpV) (w : World) (hau : au.size ≤ 140737488351232) (hO : OpsAt w A n L) (hn : n ≤ maxLen) :
    Calls Try.prog 3 #[.string au, .slice A n cap] w fun e w' => e = .returned (.bool true) ∧ Below w.heap.size w w' := by
  have HO := Lib.hid hO
  have Hn := Lib.hid hn
  clear hO hn
  go_enter Try.func3, Try.ntmps3
  go_wp2_with fail
  refine (awake18_calls w).mono ?_
  rintro e w1 ⟨rfl, hb1⟩
  have HB1 := Lib.hid hb1
  have hs1 := hb1.size
  clear hb1
  by_cases ha : au.size ≤ 1000
  · go_wp2_with fail
    refine (Few_calls A n cap L 40 w1 (HO.out.below HB1.out) Hn.out (by decide)).mono ?_
    rintro e w2 ⟨⟨he, rfl⟩⟩
    rcases he with rfl | ⟨rfl, hn40, hF⟩
    · go_wp2_with fail
      refine (awake18_calls _).mono ?_
      rintro e w3 ⟨rfl, hb3⟩
      have H3 := Lib.hid (below_seq HB1.out (Nat.le_refl _) hb3)
      clear hb3
      go_wp2
      go_ret
      exact ⟨rfl, H3.out⟩
    · have hn4 : n ≤ 40 := by omega
      have HF := Lib.hid hF
      clear hF hn40
      go_wp2_with fail
      go_loopw [5, 6] (fun v i wr => ∃ k : Nat, k ≤ n ∧ i = .int .i64 ((n : Int) - 1 - k) ∧ Hid (wr.ownsRow w2.heap.size 32 13 v (2 * k) (opRow (turned L k))) ∧ Hid (Below w2.heap.size w2 wr)) (fun _ i _ => (intOf i + 1).toNat)
      case atStart => exact ⟨0, by omega, by simp, World.ownsRow_nil _ _ _ _, Below.refl _ _⟩
      case round =>
        obtain ⟨k, hk, rfl, HT, HBr⟩ := hrel
        obtain ⟨W, hW⟩ : ∃ W, W = wr := ⟨_, rfl⟩
        subst hW
        have HB := Lib.hid (below_seq HB1.out (Nat.le_refl _) HBr.out)
        by_cases hlt : k < n
        · obtain ⟨j, hj⟩ : ∃ j, j = n - 1 - k := ⟨_, rfl⟩
          have hji : (n : Int) - 1 - k = (j : Int) := by omega
          rw [hji]
          have hjn : j < n := by omega
          obtain ⟨b, o, hA, hc⟩ := HO.out.2.2 (by omega)
          subst hA
          obtain ⟨x, hxe⟩ : ∃ x, x = opv L j := ⟨_, rfl⟩
          have hcj := (hc j hjn).below HB.out
          rw [← hxe] at hcj
          obtain ⟨c0, c1, c2, c3, c4, c5, c6, c7, c8, c9, c10, c11, c12⟩ := hcj
          have HXE := Lib.hid hxe
          have Hj := Lib.hid hj
          obtain ⟨Au, pu, hvu⟩ := own_slice HT.out
          subst hvu
          have hsz := HBr.out.size
          clear hc hxe hji hj
          obtain ⟨i0, hi0, hz0, hz1, hz2⟩ := info_parts elOp.info
          obtain ⟨nk, hnk⟩ : ∃ nk, nk = 2 * k := ⟨_, rfl⟩
          rw [← hnk] at HT ⊢
          have hnk80 : nk ≤ 80 := by omega
          have Hnk := Lib.hid hnk
          clear hnk
          go_upto_region 7 with fail
          go_region_law
            ((refine step_append_lies _ (by rfl) _ _ _ (by rfl) w2.heap.size 32 i0 _ 13 152 elOp.und hi0 hz0 hz1 hz2 rfl (by omega) (.slice Au nk pu) nk _ (by rfl) (HT.out.alloc _) ⟨W.heap.size, 0, none⟩ 2 2 (opCells x ++ opCells x) (by rfl) rfl (news_at _ (opCells x ++ opCells x).toArray _) (by simp [Value.oneCell', opCells]) (by omega) (by unfold maxLen; omega) (by omega) (by simp; omega) (W.heap.size + 1) (by simp) ?_; intro g cg w4 hown4 hgrow4 hat4 hlt4; have Hown4 := Lib.hid hown4; have Hg4 := Lib.hid hgrow4; clear hown4 hgrow4 hat4))
          all_goals
            have hrow : opRow (turned L (k + 1)) = opRow (turned L k) ++ (opCells x ++ opCells x) := by
              have hj9 := Hj.out
              rw [turned_next (by rw [HO.out.1]; exact hlt), HO.out.1, ← hj9, ← HXE.out]
              simp [opRow]
            have h4 := Hown4.out
            rw [← hrow, show nk + 2 = 2 * (k + 1) by have := Hnk.out; omega] at h4
            have H4 := Lib.hid h4
            have HB4 : Hid (Below w2.heap.size w2 w4) := Lib.hid ((HBr.out.alloc hsz _).drew.grown Hg4.out (by simp <;> omega) (fun i e => (HT.out.lt i e).1))
            have hji := Hj.out
            clear hrow h4 Hown4 Hg4
            rw [show nk + 2 = 2 * (k + 1) by have := Hnk.out; omega]
            go_wp2_with fail
            go_roundw
          all_goals first
            | exact ⟨k + 1, by omega, by congr 1; omega, H4.out, HB4.out⟩
            | (simp [intOf]; omega)
        · obtain rfl : k = n := by omega
          have hl := HO.out.1
          have hnm : turned L k = turned L L.length := by rw [hl]
          rw [hnm] at HT
          obtain ⟨Au, cu, hvu, _, hrv, _⟩ := own_rdV HT.out
          subst hvu
          obtain ⟨M, hM⟩ : ∃ M, M = turned L L.length := ⟨_, rfl⟩
          rw [← hM] at hrv HT
          have hMm : ∀ x, x ∈ L ↔ x ∈ M := fun x => by rw [hM]; exact turned_mem.symm
          have hMo : OpsAt W Au (2 * k) M := OpsAt.of hrv (fun x hx => by
            have := HO.out.2.1 x ((hMm x).2 hx)
            exact ⟨this.1, this.2.below HB.out⟩)
          have hFL := opv_few hl HF.out
          have hFM : ∀ i, i < 2 * k → FewAt (opv M i) := fun i hi => hFL _ ((hMm _).2 (opv_mem (by rw [hMo.1]; exact hi)))
          obtain ⟨n2, hn2⟩ : ∃ n2, n2 = 2 * k := ⟨_, rfl⟩
          rw [← hn2] at hMo hFM ⊢
          have hn280 : n2 ≤ 80 := by omega
          have HMo := Lib.hid hMo
          have HFM := Lib.hid hFM
          have HMm := Lib.hid hMm
          clear hM hrv hMm hMo hFL hFM hl hnm hn2 HT
          go_wp2_with fail
          refine (Table_calls au A k cap L W ha (HO.out.below HB.out) (by omega) HF.out).mono ?_
          rintro e w5 ⟨v5, T5, rfl, hT5, ho5, hb5⟩
          have HB5 := Lib.hid (below_seq HB.out (Nat.le_refl _) hb5)
          have HM5 := Lib.hid (HMo.out.below hb5)
          have HT5 := Lib.hid hT5
          obtain ⟨A5, c5, rfl, _, hr5, _⟩ := own_rdS ho5
          have Hr5 := Lib.hid hr5
          clear hT5 ho5 hb5 hr5
          go_wp2_with fail
          refine (Table_calls au Au n2 cu M w5 ha HM5.out (by omega) HFM.out).mono ?_
          rintro e w6 ⟨v6, T6, rfl, hT6, ho6, hb6⟩
          have HB6 := Lib.hid (below_seq HB5.out (Nat.le_refl _) hb6)
          obtain rfl : T6 = T5 := hT6.same HT5.out (fun s => (names_mem HMm.out s).symm)
          have Hr56 := Lib.hid (Hr5.out.below hb6)
          obtain ⟨A6, c6, rfl, _, hr6, _⟩ := own_rdS ho6
          have Hr6 := Lib.hid hr6
          have htl : T6.length ≤ 100000 := table_small hT6 (names_few (by rw [HM5.out.1]; exact hn280) (fun x hx => by
            have h1 := HFM.out
            exact opv_few HMo.out.1 h1 x hx) (fun x hx => (HMo.out.2.1 x hx).2.1))
          obtain ⟨tl, htl2⟩ : ∃ tl, tl = T6.length := ⟨_, rfl⟩
          rw [← htl2] at htl Hr56 Hr6 ⊢
          clear hT6 ho6 hb6 hr6 htl2
          go_wp2_with fail
          refine (Same_calls A5 A6 tl c5 c6 T6 w6 Hr56.out Hr6.out (by omega)).mono ?_
          rintro e w7 ⟨rfl, hb7⟩
          have HB7 := Lib.hid (below_seq HB6.out (Nat.le_refl _) hb7)
          clear hb7
          go_wp2
          go_ret
          exact ⟨rfl, HB7.out⟩
  · go_wp2_with fail
    refine (awake18_calls _).mono ?_
    rintro e w2 ⟨rfl, hb2⟩
    have H2 := Lib.hid (below_seq HB1.out (Nat.le_refl _) hb2)
    clear hb2
    go_wp2
    go_ret
    exact ⟨rfl, H2.out⟩
theorem ActorsTurned_walk (au : ByteArray) (A : Option Addr) (n cap : Nat) (L : List OpV) (w : World) (hau : au.size ≤ 140737488351232) (hO : OpsAt w A n L) (hn : n ≤ maxLen) (_hc : n ≤ cap) (_hA : A = none → n = 0 ∧ cap = 0) :
    Calls Try.prog 3 #[.string au, .slice A n cap] w fun e w' => e = .returned (.bool true) ∧ Below w.heap.size w w' := ActorsTurned_calls au A n cap L w hau hO hn
end Go.Proofs.Ytekhofnfikcpnaa
/-
  The walk of the law ActorsTables. Printed by gen_at.py.
-/
namespace Go.Proofs.Ytekhofnfikcpnaa
open Go.RowKit

theorem put_none : putT [] = [0] := by
  unfold putT
  simp only [List.length_nil, List.drop_nil, List.flatMap_nil, List.append_nil]
  rw [lebU_last (by decide)]
  rfl
set_option maxHeartbeats 1000000 in
set_option maxRecDepth 100000 in
theorem ActorsTables_calls (au : ByteArray) (A : Option Addr) (n cap : Nat) (L : List OpV) (who : ByteArray) (w : World) (hau : au.size ≤ 140737488351232) (hO : OpsAt w A n L) (hn : n ≤ maxLen) (hwh : who.size ≤ 140737488351232) :
    Calls Try.prog 4 #[.string au, .slice A n cap, .string who] w fun e w' => e = .returned (.bool true) ∧ Below w.heap.size w w' := by
  have HO := Lib.hid hO
  have Hn := Lib.hid hn
  clear hO hn
  go_enter Try.func4, Try.ntmps4
  go_wp2_with fail
  refine (awake18_calls w).mono ?_
  rintro e w1 ⟨rfl, hb1⟩
  have HB1 := Lib.hid hb1
  have hs1 := hb1.size
  clear hb1
  by_cases ha : au.size ≤ 1000 ∧ who.size ≤ 1000
  · obtain ⟨ha, hw⟩ := ha
    go_wp2_with fail
    refine (Few_calls A n cap L 40 w1 (HO.out.below HB1.out) Hn.out (by decide)).mono ?_
    rintro e w2 ⟨⟨he, rfl⟩⟩
    rcases he with rfl | ⟨rfl, hn40, hF⟩
    · go_wp2_with fail
      refine (awake18_calls _).mono ?_
      rintro e w3 ⟨rfl, hb3⟩
      have H3 := Lib.hid (below_seq HB1.out (Nat.le_refl _) hb3)
      clear hb3
      go_wp2
      go_ret
      exact ⟨rfl, H3.out⟩
    · have hn4 : n ≤ 40 := by omega
      have HF := Lib.hid hF
      clear hF hn40
      go_wp2_with fail
      refine (Table_calls au A n cap L w2 ha (HO.out.below HB1.out) (by omega) HF.out).mono ?_
      rintro e w5 ⟨v5, T5, rfl, hT5, ho5, hb5⟩
      have HB5 := Lib.hid (below_seq HB1.out (Nat.le_refl _) hb5)
      have HT5 := Lib.hid hT5
      obtain ⟨A5, c5, rfl, hc5, hr5, hn5⟩ := own_rdS ho5
      have Hr5 := Lib.hid hr5
      have HnT0 := Lib.hid hn5
      have Hc5 := Lib.hid hc5
      clear hT5 ho5 hb5 hr5 hn5 hc5
      go_wp2_with fail
      refine (rTable_calls au A n cap L w5 (HO.out.below HB5.out) (by omega) HF.out).mono ?_
      rintro e w6 ⟨v6, T6, rfl, hT6, ho6, hb6⟩
      have HB6 := Lib.hid (below_seq HB5.out (Nat.le_refl _) hb6)
      obtain rfl : T6 = T5 := hT6.same HT5.out (fun s => Iff.rfl)
      have HrT := Lib.hid (Hr5.out.below hb6)
      obtain ⟨A6, c6, rfl, _, hr6, _⟩ := own_rdS ho6
      have HrR := Lib.hid hr6
      have htl : T6.length ≤ 3361 := table_len hT6 (names_few (by rw [HO.out.1]; omega) (opv_few HO.out.1 HF.out) (fun x hx => (HO.out.2.1 x hx).2.1))
      have hsT : ∀ s ∈ T6, s.size ≤ 1000 := by
        obtain ⟨t, ht, _, hm⟩ := hT6.is
        intro s hs
        rw [ht] at hs
        rcases List.mem_cons.1 hs with e | e
        · rw [e]; exact ha
        · obtain ⟨_, y, hy, e2⟩ := (hm s).1 e
          have := small_of HO.out HF.out y hy
          rw [e2] at this
          omega
      have HsT := Lib.hid hsT
      have htl0 := hT6.length
      obtain ⟨tl, htl2⟩ : ∃ tl, tl = T6.length := ⟨_, rfl⟩
      have hc5 := Hc5.out
      have HnT := HnT0
      rw [← htl2] at htl htl0 HrT HrR hc5 HnT ⊢
      obtain ⟨np, hnp⟩ : ∃ np, np = (putT T6).length := ⟨_, rfl⟩
      have Hnp := Lib.hid hnp
      obtain ⟨sp, hsp⟩ : ∃ sp, sp = strOfNums (putT T6) := ⟨_, rfl⟩
      have Hsp := Lib.hid hsp
      have L0 : Later w6 w6.drew := (Later.refl w6).drew
      clear hT6 ho6 hb6 hr6 htl2 hsT hnp hsp Hr5 HnT0 Hc5 HT5
      go_upto_region 5 with fail
      refine wp_region_noPanic ?_
      refine wp_region_held_drew (S := fun W => Later w6 W) (by kernel_rfl) (L0) (fun hHeld => ?_)
      refine' wpAnyH_take (i := 0) (oi := ⟨_, _, _, _, _, _⟩) (v := _) rfl (by kernel_rfl) (by kernel_rfl) (by kernel_rfl) (fun _ _ _ h => h) (Or.inl ⟨by rfl, ?hya0⟩) (by assumption) ?resta0
      case hya0 => (intro w hSw; (try dsimp only at hSw); go_simp; try with_reducible rfl)
      try simp only [Act.put, List.setIfInBounds_toArray, List.set_cons_zero, List.set_cons_succ]
      refine' wpAnyH_take (i := 1) (oi := ⟨_, _, _, _, _, _⟩) (v := _) rfl (by kernel_rfl) (by kernel_rfl) (by kernel_rfl) (fun _ _ _ h => h) (Or.inl ⟨by rfl, ?hya1⟩) (by assumption) ?resta1
      case hya1 => (intro w hSw; (try dsimp only at hSw); go_simp; try with_reducible rfl)
      try simp only [Act.put, List.setIfInBounds_toArray, List.set_cons_zero, List.set_cons_succ]
      refine wpAnyH_ready (rs := [2]) (by kernel_rfl) (by simp) ?_
      refine AllReadyH.cons (o := ⟨_, _, _, _, _, _⟩) rfl (fun K hK => ?_) AllReadyH.nil
      go_simp
      go_at_call 12
      refine (Same_calls A5 A6 tl c5 c6 T6 _ (HrT.out.below (Later.bel L0)) (HrR.out.below (Later.bel L0)) (by omega)).mono ?_
      rintro e wS ⟨rfl, hbS⟩
      have LS : Later w6 wS := Later.step L0 hbS
      clear hbS
      refine hK.out _ _ (LS) (fun hHeldN => ?_)
      clear hK K hHeld
      have hHeld := hHeldN
      clear hHeldN
      try simp only [Act.put, List.setIfInBounds_toArray, List.set_cons_zero, List.set_cons_succ]
      refine' wpAnyH_take (i := 3) (oi := ⟨_, _, _, _, _, _⟩) (v := _) rfl (by kernel_rfl) (by kernel_rfl) (by kernel_rfl) (fun _ _ _ h => h) (Or.inl ⟨by rfl, ?hyb3⟩) (by assumption) ?restb3
      case hyb3 => (intro w hSw; (try dsimp only at hSw); go_simp; try with_reducible rfl)
      try simp only [Act.put, List.setIfInBounds_toArray, List.set_cons_zero, List.set_cons_succ]
      refine' wpAnyH_take (i := 4) (oi := ⟨_, _, _, _, _, _⟩) (v := _) rfl (by kernel_rfl) (by kernel_rfl) (by kernel_rfl) (fun _ _ _ h => h) (Or.inl ⟨by rfl, ?hyb4⟩) (by assumption) ?restb4
      case hyb4 => (intro w hSw; (try dsimp only at hSw); go_simp; try with_reducible rfl)
      try simp only [Act.put, List.setIfInBounds_toArray, List.set_cons_zero, List.set_cons_succ]
      refine' wpAnyH_take (i := 5) (oi := ⟨_, _, _, _, _, _⟩) (v := _) rfl (by kernel_rfl) (by kernel_rfl) (by kernel_rfl) (fun _ _ _ h => h) (Or.inl ⟨by rfl, ?hyb5⟩) (by assumption) ?restb5
      case hyb5 => (intro w hSw; (try dsimp only at hSw); go_simp; try with_reducible rfl)
      try simp only [Act.put, List.setIfInBounds_toArray, List.set_cons_zero, List.set_cons_succ]
      refine' wpAnyH_take (i := 7) (oi := ⟨_, _, _, _, _, _⟩) (v := _) rfl (by kernel_rfl) (by kernel_rfl) (by kernel_rfl) (fun _ _ _ h => h) (Or.inl ⟨by rfl, ?hyb7⟩) (by assumption) ?restb7
      case hyb7 => (intro w hSw; (try dsimp only at hSw); go_simp; try with_reducible rfl)
      try simp only [Act.put, List.setIfInBounds_toArray, List.set_cons_zero, List.set_cons_succ]
      refine' wpAnyH_take (i := 8) (oi := ⟨_, _, _, _, _, _⟩) (v := _) rfl (by kernel_rfl) (by kernel_rfl) (by kernel_rfl) (fun _ _ _ h => h) (Or.inl ⟨by rfl, ?hyb8⟩) (by assumption) ?restb8
      case hyb8 => (intro w hSw; (try dsimp only at hSw); go_simp; try with_reducible rfl)
      try simp only [Act.put, List.setIfInBounds_toArray, List.set_cons_zero, List.set_cons_succ]
      refine wpAnyH_ready (rs := [6]) (by kernel_rfl) (by simp) ?_
      refine AllReadyH.cons (o := ⟨_, _, _, _, _, _⟩) rfl (fun K hK => ?_) AllReadyH.nil
      go_simp
      go_at_call 15
      refine (Index_calls A5 tl c5 T6 who _ (HrT.out.below (Later.bel LS)) (by omega)).mono ?_
      rintro e wI ⟨ri, rfl, hri, hwI⟩
      have LI : Later w6 wI := by rw [hwI]; exact LS
      clear hwI
      refine hK.out _ _ (LI) (fun hHeldN => ?_)
      clear hK K hHeld
      have hHeld := hHeldN
      clear hHeldN
      try simp only [Act.put, List.setIfInBounds_toArray, List.set_cons_zero, List.set_cons_succ]
      refine wpAnyH_ready (rs := [9]) (by kernel_rfl) (by simp) ?_
      refine AllReadyH.cons (o := ⟨_, _, _, _, _, _⟩) rfl (fun K hK => ?_) AllReadyH.nil
      go_simp
      go_at_call 16
      refine (rIndex_calls A6 tl c6 T6 who _ (HrR.out.below (Later.bel LI)) (by omega)).mono ?_
      rintro e wJ ⟨rj, rfl, hrj, hwJ⟩
      have LJ : Later w6 wJ := by rw [hwJ]; exact LI
      obtain rfl : rj = ri := hrj.out.same hri.out
      clear hwJ hri hrj
      refine hK.out _ _ (LJ) (fun hHeldN => ?_)
      clear hK K hHeld
      have hHeld := hHeldN
      clear hHeldN
      try simp only [Act.put, List.setIfInBounds_toArray, List.set_cons_zero, List.set_cons_succ]
      refine' wpAnyH_take (i := 10) (oi := ⟨_, _, _, _, _, _⟩) (v := _) rfl (by kernel_rfl) (by kernel_rfl) (by kernel_rfl) (fun _ _ _ h => h) (Or.inl ⟨by rfl, ?hyc10⟩) (by assumption) ?restc10
      case hyc10 => (intro w hSw; (try dsimp only at hSw); go_simp; try with_reducible rfl)
      try simp only [Act.put, List.setIfInBounds_toArray, List.set_cons_zero, List.set_cons_succ]
      refine' wpAnyH_take (i := 11) (oi := ⟨_, _, _, _, _, _⟩) (v := _) rfl (by kernel_rfl) (by kernel_rfl) (by kernel_rfl) (fun _ _ _ h => h) (Or.inl ⟨by rfl, ?hyc11⟩) (by assumption) ?restc11
      case hyc11 => (intro w hSw; (try dsimp only at hSw); go_simp; try with_reducible rfl)
      try simp only [Act.put, List.setIfInBounds_toArray, List.set_cons_zero, List.set_cons_succ]
      refine' wpAnyH_take (i := 12) (oi := ⟨_, _, _, _, _, _⟩) (v := _) rfl (by kernel_rfl) (by kernel_rfl) (by kernel_rfl) (fun _ _ _ h => h) (Or.inl ⟨by rfl, ?hyc12⟩) (by assumption) ?restc12
      case hyc12 => (intro w hSw; (try dsimp only at hSw); go_simp; try with_reducible rfl)
      try simp only [Act.put, List.setIfInBounds_toArray, List.set_cons_zero, List.set_cons_succ]
      refine' wpAnyH_take (i := 13) (oi := ⟨_, _, _, _, _, _⟩) (v := _) rfl (by kernel_rfl) (by kernel_rfl) (by kernel_rfl) (fun _ _ _ h => h) (Or.inl ⟨by rfl, ?hyc13⟩) (by assumption) ?restc13
      case hyc13 => (intro w hSw; (try dsimp only at hSw); go_simp; try with_reducible rfl)
      try simp only [Act.put, List.setIfInBounds_toArray, List.set_cons_zero, List.set_cons_succ]
      refine' wpAnyH_take (i := 16) (oi := ⟨_, _, _, _, _, _⟩) (v := _) rfl (by kernel_rfl) (by kernel_rfl) (by kernel_rfl) (fun _ _ _ h => h) (Or.inl ⟨by rfl, ?hyc16⟩) (by assumption) ?restc16
      case hyc16 => (intro w hSw; (try dsimp only at hSw); go_simp; try with_reducible rfl)
      try simp only [Act.put, List.setIfInBounds_toArray, List.set_cons_zero, List.set_cons_succ]
      refine wpAnyH_ready (rs := [14]) (by kernel_rfl) (by simp) ?_
      refine AllReadyH.cons (o := ⟨_, _, _, _, _, _⟩) rfl (fun K hK => ?_) AllReadyH.nil
      go_simp
      go_at_call 17
      refine (Put_calls A5 tl c5 T6 _ (HrT.out.below (Later.bel LJ)) HnT.out hc5 (by omega) HsT.out).mono ?_
      rintro e wA ⟨vA, rfl, hoA, hbA⟩
      have LA : Later w6 wA := Later.step LJ hbA
      rw [← Hnp.out] at hoA
      obtain ⟨aA, cA, rfl, _, hrA⟩ := own_rd hoA
      have HrA := Lib.hid hrA
      clear hrA hoA hbA
      refine hK.out _ _ (LA) (fun hHeldN => ?_)
      clear hK K hHeld
      have hHeld := hHeldN
      clear hHeldN
      try simp only [Act.put, List.setIfInBounds_toArray, List.set_cons_zero, List.set_cons_succ]
      refine wpAnyH_ready (rs := [15, 17]) (by kernel_rfl) (by simp) ?_
      refine AllReadyH.cons (o := ⟨_, _, _, _, _, _⟩) rfl (fun K hK => ?_) (AllReadyH.cons (o := ⟨_, _, _, _, _, _⟩) rfl (fun K hK => ?_) AllReadyH.nil)
      · have cv := conv_all (c := cA) HrA.out
        rw [← Hsp.out] at cv
        go_simp
        clear cv
        refine hK.out _ _ (LA) (fun hHeldN => ?_)
        clear hK K hHeld
        have hHeld := hHeldN
        clear hHeldN
        try simp only [Act.put, List.setIfInBounds_toArray, List.set_cons_zero, List.set_cons_succ]
        refine wpAnyH_ready (rs := [17]) (by kernel_rfl) (by simp) ?_
        refine AllReadyH.cons (o := ⟨_, _, _, _, _, _⟩) rfl (fun K hK => ?_) AllReadyH.nil
        go_simp
        go_at_call 18
        refine (rPut_calls A6 tl c6 T6 _ (HrR.out.below (Later.bel LA)) htl0 (by omega) HsT.out).mono ?_
        rintro e wB ⟨vB, rfl, hoB, hbB⟩
        have LB : Later w6 wB := Later.step LA hbB
        rw [← Hnp.out] at hoB
        obtain ⟨aB, cB, rfl, _, hrB⟩ := own_rd hoB
        have HrB := Lib.hid hrB
        have HrA' := Lib.hid (HrA.out.below hbB)
        clear hrB hoB hbB
        refine hK.out _ _ (LB) (fun hHeldN => ?_)
        clear hK K hHeld
        have hHeld := hHeldN
        clear hHeldN
        try simp only [Act.put, List.setIfInBounds_toArray, List.set_cons_zero, List.set_cons_succ]
        refine wpAnyH_ready (rs := [18]) (by kernel_rfl) (by simp) ?_
        refine AllReadyH.cons (o := ⟨_, _, _, _, _, _⟩) rfl (fun K hK => ?_) AllReadyH.nil
        have cv := conv_all (c := cB) HrB.out
        rw [← Hsp.out] at cv
        go_simp
        clear cv
        refine hK.out _ _ (LB) (fun hHeldN => ?_)
        clear hK K hHeld
        have hHeld := hHeldN
        clear hHeldN
        try simp only [Act.put, List.setIfInBounds_toArray, List.set_cons_zero, List.set_cons_succ]
        refine' wpAnyH_take (i := 19) (oi := ⟨_, _, _, _, _, _⟩) (v := _) rfl (by kernel_rfl) (by kernel_rfl) (by kernel_rfl) (fun _ _ _ h => h) (Or.inl ⟨by rfl, ?hyz1_19⟩) (by assumption) ?restz1_19
        case hyz1_19 => (intro w hSw; (try dsimp only at hSw); go_simp; try with_reducible rfl)
        try simp only [Act.put, List.setIfInBounds_toArray, List.set_cons_zero, List.set_cons_succ]
        refine' wpAnyH_take (i := 20) (oi := ⟨_, _, _, _, _, _⟩) (v := _) rfl (by kernel_rfl) (by kernel_rfl) (by kernel_rfl) (fun _ _ _ h => h) (Or.inl ⟨by rfl, ?hyz1_20⟩) (by assumption) ?restz1_20
        case hyz1_20 => (intro w hSw; (try dsimp only at hSw); go_simp; try with_reducible rfl)
        try simp only [Act.put, List.setIfInBounds_toArray, List.set_cons_zero, List.set_cons_succ]
        refine' wpAnyH_take (i := 21) (oi := ⟨_, _, _, _, _, _⟩) (v := _) rfl (by kernel_rfl) (by kernel_rfl) (by kernel_rfl) (fun _ _ _ h => h) (Or.inl ⟨by rfl, ?hyz1_21⟩) (by assumption) ?restz1_21
        case hyz1_21 => (intro w hSw; (try dsimp only at hSw); go_simp; try with_reducible rfl)
        try simp only [Act.put, List.setIfInBounds_toArray, List.set_cons_zero, List.set_cons_succ]
        refine wpAnyH_ready (rs := [22]) (by kernel_rfl) (by simp) ?_
        refine AllReadyH.cons (o := ⟨_, _, _, _, _, _⟩) rfl (fun K hK => ?_) AllReadyH.nil
        go_simp
        go_at_call 17
        refine (Put_calls none 0 0 [] _ ⟨rfl, fun h => by omega⟩ (fun _ => ⟨rfl, rfl⟩) (Nat.le_refl _) (by decide) (fun s hs => by cases hs)).mono ?_
        rintro e wC ⟨vC, rfl, hoC, hbC⟩
        have LC : Later w6 wC := Later.step LB hbC
        rw [put_none] at hoC
        obtain ⟨aC, cC, rfl, _, hrC⟩ := own_rd hoC
        have cvC := conv_all (n := 1) (c := cC) hrC
        have hs0 : strOfNums [0] = ⟨#[0]⟩ := rfl
        rw [hs0] at cvC
        clear hoC hbC hrC hs0
        refine hK.out _ _ (LC) (fun hHeldN => ?_)
        clear hK K hHeld
        have hHeld := hHeldN
        clear hHeldN
        try simp only [Act.put, List.setIfInBounds_toArray, List.set_cons_zero, List.set_cons_succ]
        refine wpAnyH_ready (rs := [23]) (by kernel_rfl) (by simp) ?_
        refine AllReadyH.cons (o := ⟨_, _, _, _, _, _⟩) rfl (fun K hK => ?_) AllReadyH.nil
        go_simp
        clear cvC
        refine hK.out _ _ (LC) (fun hHeldN => ?_)
        clear hK K hHeld
        have hHeld := hHeldN
        clear hHeldN
        try simp only [Act.put, List.setIfInBounds_toArray, List.set_cons_zero, List.set_cons_succ]
        refine' wpAnyH_take (i := 24) (oi := ⟨_, _, _, _, _, _⟩) (v := _) rfl (by kernel_rfl) (by kernel_rfl) (by kernel_rfl) (fun _ _ _ h => h) (Or.inl ⟨by rfl, ?hyz1_24⟩) (by assumption) ?restz1_24
        case hyz1_24 => (intro w hSw; (try dsimp only at hSw); go_simp; try with_reducible rfl)
        try simp only [Act.put, List.setIfInBounds_toArray, List.set_cons_zero, List.set_cons_succ]
        refine' wpAnyH_take (i := 25) (oi := ⟨_, _, _, _, _, _⟩) (v := _) rfl (by kernel_rfl) (by kernel_rfl) (by kernel_rfl) (fun _ _ _ h => h) (Or.inl ⟨by rfl, ?hyz1_25⟩) (by assumption) ?restz1_25
        case hyz1_25 => (intro w hSw; (try dsimp only at hSw); go_simp; try with_reducible rfl)
        try simp only [Act.put, List.setIfInBounds_toArray, List.set_cons_zero, List.set_cons_succ]
        refine' wpAnyH_take (i := 26) (oi := ⟨_, _, _, _, _, _⟩) (v := _) rfl (by kernel_rfl) (by kernel_rfl) (by kernel_rfl) (fun _ _ _ h => h) (Or.inl ⟨by rfl, ?hyz1_26⟩) (by assumption) ?restz1_26
        case hyz1_26 => (intro w hSw; (try dsimp only at hSw); go_simp; try with_reducible rfl)
        try simp only [Act.put, List.setIfInBounds_toArray, List.set_cons_zero, List.set_cons_succ]
        refine wpAnyH_done (by kernel_rfl) ?_ _
        refine NoPanic.normal ?_
        go_wp2
        go_ret
        exact ⟨rfl, HB6.out.trans ((Later.bel LC).mono HB6.out.size)⟩
      · go_simp
        go_at_call 18
        refine (rPut_calls A6 tl c6 T6 _ (HrR.out.below (Later.bel LA)) htl0 (by omega) HsT.out).mono ?_
        rintro e wB ⟨vB, rfl, hoB, hbB⟩
        have LB : Later w6 wB := Later.step LA hbB
        rw [← Hnp.out] at hoB
        obtain ⟨aB, cB, rfl, _, hrB⟩ := own_rd hoB
        have HrB := Lib.hid hrB
        have HrA' := Lib.hid (HrA.out.below hbB)
        clear hrB hoB hbB
        refine hK.out _ _ (LB) (fun hHeldN => ?_)
        clear hK K hHeld
        have hHeld := hHeldN
        clear hHeldN
        try simp only [Act.put, List.setIfInBounds_toArray, List.set_cons_zero, List.set_cons_succ]
        refine wpAnyH_ready (rs := [15, 18]) (by kernel_rfl) (by simp) ?_
        refine AllReadyH.cons (o := ⟨_, _, _, _, _, _⟩) rfl (fun K hK => ?_) (AllReadyH.cons (o := ⟨_, _, _, _, _, _⟩) rfl (fun K hK => ?_) AllReadyH.nil)
        · have cv := conv_all (c := cA) HrA'.out
          rw [← Hsp.out] at cv
          go_simp
          clear cv
          refine hK.out _ _ (LB) (fun hHeldN => ?_)
          clear hK K hHeld
          have hHeld := hHeldN
          clear hHeldN
          try simp only [Act.put, List.setIfInBounds_toArray, List.set_cons_zero, List.set_cons_succ]
          refine wpAnyH_ready (rs := [18]) (by kernel_rfl) (by simp) ?_
          refine AllReadyH.cons (o := ⟨_, _, _, _, _, _⟩) rfl (fun K hK => ?_) AllReadyH.nil
          have cv := conv_all (c := cB) HrB.out
          rw [← Hsp.out] at cv
          go_simp
          clear cv
          refine hK.out _ _ (LB) (fun hHeldN => ?_)
          clear hK K hHeld
          have hHeld := hHeldN
          clear hHeldN
          try simp only [Act.put, List.setIfInBounds_toArray, List.set_cons_zero, List.set_cons_succ]
          refine' wpAnyH_take (i := 19) (oi := ⟨_, _, _, _, _, _⟩) (v := _) rfl (by kernel_rfl) (by kernel_rfl) (by kernel_rfl) (fun _ _ _ h => h) (Or.inl ⟨by rfl, ?hyz2_19⟩) (by assumption) ?restz2_19
          case hyz2_19 => (intro w hSw; (try dsimp only at hSw); go_simp; try with_reducible rfl)
          try simp only [Act.put, List.setIfInBounds_toArray, List.set_cons_zero, List.set_cons_succ]
          refine' wpAnyH_take (i := 20) (oi := ⟨_, _, _, _, _, _⟩) (v := _) rfl (by kernel_rfl) (by kernel_rfl) (by kernel_rfl) (fun _ _ _ h => h) (Or.inl ⟨by rfl, ?hyz2_20⟩) (by assumption) ?restz2_20
          case hyz2_20 => (intro w hSw; (try dsimp only at hSw); go_simp; try with_reducible rfl)
          try simp only [Act.put, List.setIfInBounds_toArray, List.set_cons_zero, List.set_cons_succ]
          refine' wpAnyH_take (i := 21) (oi := ⟨_, _, _, _, _, _⟩) (v := _) rfl (by kernel_rfl) (by kernel_rfl) (by kernel_rfl) (fun _ _ _ h => h) (Or.inl ⟨by rfl, ?hyz2_21⟩) (by assumption) ?restz2_21
          case hyz2_21 => (intro w hSw; (try dsimp only at hSw); go_simp; try with_reducible rfl)
          try simp only [Act.put, List.setIfInBounds_toArray, List.set_cons_zero, List.set_cons_succ]
          refine wpAnyH_ready (rs := [22]) (by kernel_rfl) (by simp) ?_
          refine AllReadyH.cons (o := ⟨_, _, _, _, _, _⟩) rfl (fun K hK => ?_) AllReadyH.nil
          go_simp
          go_at_call 17
          refine (Put_calls none 0 0 [] _ ⟨rfl, fun h => by omega⟩ (fun _ => ⟨rfl, rfl⟩) (Nat.le_refl _) (by decide) (fun s hs => by cases hs)).mono ?_
          rintro e wC ⟨vC, rfl, hoC, hbC⟩
          have LC : Later w6 wC := Later.step LB hbC
          rw [put_none] at hoC
          obtain ⟨aC, cC, rfl, _, hrC⟩ := own_rd hoC
          have cvC := conv_all (n := 1) (c := cC) hrC
          have hs0 : strOfNums [0] = ⟨#[0]⟩ := rfl
          rw [hs0] at cvC
          clear hoC hbC hrC hs0
          refine hK.out _ _ (LC) (fun hHeldN => ?_)
          clear hK K hHeld
          have hHeld := hHeldN
          clear hHeldN
          try simp only [Act.put, List.setIfInBounds_toArray, List.set_cons_zero, List.set_cons_succ]
          refine wpAnyH_ready (rs := [23]) (by kernel_rfl) (by simp) ?_
          refine AllReadyH.cons (o := ⟨_, _, _, _, _, _⟩) rfl (fun K hK => ?_) AllReadyH.nil
          go_simp
          clear cvC
          refine hK.out _ _ (LC) (fun hHeldN => ?_)
          clear hK K hHeld
          have hHeld := hHeldN
          clear hHeldN
          try simp only [Act.put, List.setIfInBounds_toArray, List.set_cons_zero, List.set_cons_succ]
          refine' wpAnyH_take (i := 24) (oi := ⟨_, _, _, _, _, _⟩) (v := _) rfl (by kernel_rfl) (by kernel_rfl) (by kernel_rfl) (fun _ _ _ h => h) (Or.inl ⟨by rfl, ?hyz2_24⟩) (by assumption) ?restz2_24
          case hyz2_24 => (intro w hSw; (try dsimp only at hSw); go_simp; try with_reducible rfl)
          try simp only [Act.put, List.setIfInBounds_toArray, List.set_cons_zero, List.set_cons_succ]
          refine' wpAnyH_take (i := 25) (oi := ⟨_, _, _, _, _, _⟩) (v := _) rfl (by kernel_rfl) (by kernel_rfl) (by kernel_rfl) (fun _ _ _ h => h) (Or.inl ⟨by rfl, ?hyz2_25⟩) (by assumption) ?restz2_25
          case hyz2_25 => (intro w hSw; (try dsimp only at hSw); go_simp; try with_reducible rfl)
          try simp only [Act.put, List.setIfInBounds_toArray, List.set_cons_zero, List.set_cons_succ]
          refine' wpAnyH_take (i := 26) (oi := ⟨_, _, _, _, _, _⟩) (v := _) rfl (by kernel_rfl) (by kernel_rfl) (by kernel_rfl) (fun _ _ _ h => h) (Or.inl ⟨by rfl, ?hyz2_26⟩) (by assumption) ?restz2_26
          case hyz2_26 => (intro w hSw; (try dsimp only at hSw); go_simp; try with_reducible rfl)
          try simp only [Act.put, List.setIfInBounds_toArray, List.set_cons_zero, List.set_cons_succ]
          refine wpAnyH_done (by kernel_rfl) ?_ _
          refine NoPanic.normal ?_
          go_wp2
          go_ret
          exact ⟨rfl, HB6.out.trans ((Later.bel LC).mono HB6.out.size)⟩
        · have cv := conv_all (c := cB) HrB.out
          rw [← Hsp.out] at cv
          go_simp
          clear cv
          refine hK.out _ _ (LB) (fun hHeldN => ?_)
          clear hK K hHeld
          have hHeld := hHeldN
          clear hHeldN
          try simp only [Act.put, List.setIfInBounds_toArray, List.set_cons_zero, List.set_cons_succ]
          refine wpAnyH_ready (rs := [15]) (by kernel_rfl) (by simp) ?_
          refine AllReadyH.cons (o := ⟨_, _, _, _, _, _⟩) rfl (fun K hK => ?_) AllReadyH.nil
          have cv := conv_all (c := cA) HrA'.out
          rw [← Hsp.out] at cv
          go_simp
          clear cv
          refine hK.out _ _ (LB) (fun hHeldN => ?_)
          clear hK K hHeld
          have hHeld := hHeldN
          clear hHeldN
          try simp only [Act.put, List.setIfInBounds_toArray, List.set_cons_zero, List.set_cons_succ]
          refine' wpAnyH_take (i := 19) (oi := ⟨_, _, _, _, _, _⟩) (v := _) rfl (by kernel_rfl) (by kernel_rfl) (by kernel_rfl) (fun _ _ _ h => h) (Or.inl ⟨by rfl, ?hyz3_19⟩) (by assumption) ?restz3_19
          case hyz3_19 => (intro w hSw; (try dsimp only at hSw); go_simp; try with_reducible rfl)
          try simp only [Act.put, List.setIfInBounds_toArray, List.set_cons_zero, List.set_cons_succ]
          refine' wpAnyH_take (i := 20) (oi := ⟨_, _, _, _, _, _⟩) (v := _) rfl (by kernel_rfl) (by kernel_rfl) (by kernel_rfl) (fun _ _ _ h => h) (Or.inl ⟨by rfl, ?hyz3_20⟩) (by assumption) ?restz3_20
          case hyz3_20 => (intro w hSw; (try dsimp only at hSw); go_simp; try with_reducible rfl)
          try simp only [Act.put, List.setIfInBounds_toArray, List.set_cons_zero, List.set_cons_succ]
          refine' wpAnyH_take (i := 21) (oi := ⟨_, _, _, _, _, _⟩) (v := _) rfl (by kernel_rfl) (by kernel_rfl) (by kernel_rfl) (fun _ _ _ h => h) (Or.inl ⟨by rfl, ?hyz3_21⟩) (by assumption) ?restz3_21
          case hyz3_21 => (intro w hSw; (try dsimp only at hSw); go_simp; try with_reducible rfl)
          try simp only [Act.put, List.setIfInBounds_toArray, List.set_cons_zero, List.set_cons_succ]
          refine wpAnyH_ready (rs := [22]) (by kernel_rfl) (by simp) ?_
          refine AllReadyH.cons (o := ⟨_, _, _, _, _, _⟩) rfl (fun K hK => ?_) AllReadyH.nil
          go_simp
          go_at_call 17
          refine (Put_calls none 0 0 [] _ ⟨rfl, fun h => by omega⟩ (fun _ => ⟨rfl, rfl⟩) (Nat.le_refl _) (by decide) (fun s hs => by cases hs)).mono ?_
          rintro e wC ⟨vC, rfl, hoC, hbC⟩
          have LC : Later w6 wC := Later.step LB hbC
          rw [put_none] at hoC
          obtain ⟨aC, cC, rfl, _, hrC⟩ := own_rd hoC
          have cvC := conv_all (n := 1) (c := cC) hrC
          have hs0 : strOfNums [0] = ⟨#[0]⟩ := rfl
          rw [hs0] at cvC
          clear hoC hbC hrC hs0
          refine hK.out _ _ (LC) (fun hHeldN => ?_)
          clear hK K hHeld
          have hHeld := hHeldN
          clear hHeldN
          try simp only [Act.put, List.setIfInBounds_toArray, List.set_cons_zero, List.set_cons_succ]
          refine wpAnyH_ready (rs := [23]) (by kernel_rfl) (by simp) ?_
          refine AllReadyH.cons (o := ⟨_, _, _, _, _, _⟩) rfl (fun K hK => ?_) AllReadyH.nil
          go_simp
          clear cvC
          refine hK.out _ _ (LC) (fun hHeldN => ?_)
          clear hK K hHeld
          have hHeld := hHeldN
          clear hHeldN
          try simp only [Act.put, List.setIfInBounds_toArray, List.set_cons_zero, List.set_cons_succ]
          refine' wpAnyH_take (i := 24) (oi := ⟨_, _, _, _, _, _⟩) (v := _) rfl (by kernel_rfl) (by kernel_rfl) (by kernel_rfl) (fun _ _ _ h => h) (Or.inl ⟨by rfl, ?hyz3_24⟩) (by assumption) ?restz3_24
          case hyz3_24 => (intro w hSw; (try dsimp only at hSw); go_simp; try with_reducible rfl)
          try simp only [Act.put, List.setIfInBounds_toArray, List.set_cons_zero, List.set_cons_succ]
          refine' wpAnyH_take (i := 25) (oi := ⟨_, _, _, _, _, _⟩) (v := _) rfl (by kernel_rfl) (by kernel_rfl) (by kernel_rfl) (fun _ _ _ h => h) (Or.inl ⟨by rfl, ?hyz3_25⟩) (by assumption) ?restz3_25
          case hyz3_25 => (intro w hSw; (try dsimp only at hSw); go_simp; try with_reducible rfl)
          try simp only [Act.put, List.setIfInBounds_toArray, List.set_cons_zero, List.set_cons_succ]
          refine' wpAnyH_take (i := 26) (oi := ⟨_, _, _, _, _, _⟩) (v := _) rfl (by kernel_rfl) (by kernel_rfl) (by kernel_rfl) (fun _ _ _ h => h) (Or.inl ⟨by rfl, ?hyz3_26⟩) (by assumption) ?restz3_26
          case hyz3_26 => (intro w hSw; (try dsimp only at hSw); go_simp; try with_reducible rfl)
          try simp only [Act.put, List.setIfInBounds_toArray, List.set_cons_zero, List.set_cons_succ]
          refine wpAnyH_done (by kernel_rfl) ?_ _
          refine NoPanic.normal ?_
          go_wp2
          go_ret
          exact ⟨rfl, HB6.out.trans ((Later.bel LC).mono HB6.out.size)⟩
  · have hor : 1000 < au.size ∨ 1000 < who.size := by omega
    by_cases ha1 : au.size ≤ 1000
    · have hw1 : ¬ who.size ≤ 1000 := fun h => ha ⟨ha1, h⟩
      clear ha hor
      go_wp2_with fail
      refine (awake18_calls _).mono ?_
      rintro e w2 ⟨rfl, hb2⟩
      have H2 := Lib.hid (below_seq HB1.out (Nat.le_refl _) hb2)
      clear hb2
      go_wp2
      go_ret
      exact ⟨rfl, H2.out⟩
    · clear ha hor
      go_wp2_with fail
      refine (awake18_calls _).mono ?_
      rintro e w2 ⟨rfl, hb2⟩
      have H2 := Lib.hid (below_seq HB1.out (Nat.le_refl _) hb2)
      clear hb2
      go_wp2
      go_ret
      exact ⟨rfl, H2.out⟩
theorem ActorsTables_walk (au : ByteArray) (A : Option Addr) (n cap : Nat) (L : List OpV) (who : ByteArray) (w : World) (hau : au.size ≤ 140737488351232) (hO : OpsAt w A n L) (hn : n ≤ maxLen) (_hc : n ≤ cap) (_hA : A = none → n = 0 ∧ cap = 0) (hwh : who.size ≤ 140737488351232) :
    Calls Try.prog 4 #[.string au, .slice A n cap, .string who] w fun e w' => e = .returned (.bool true) ∧ Below w.heap.size w w' := ActorsTables_calls au A n cap L who w hau hO hn hwh
end Go.Proofs.Ytekhofnfikcpnaa
