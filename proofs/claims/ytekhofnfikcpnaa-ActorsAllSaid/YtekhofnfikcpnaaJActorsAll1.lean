/-
  Texts joined into one file: ActorsTurned, ActorsAll.
-/
import Derived.Test.YtekhofnfikcpnaaJAw183
import Derived.Deep.Cut
import Derived.Deep.CutRange
import Derived.Deep.CutBlock
import Derived.Deep.RegionLaw
import Derived.Deep.AppendLies
import Derived.Sort.Walk0
import Derived.Deep.QuietTactic
import Derived.BigQuiet
/-
  The walk of the law ActorsTurned.
-/
namespace Go.Proofs.Ytekhofnfikcpnaa
open Go.RowKit

def opCells (x : OpV) : List Value := [.int .i64 x.obj.1, .string x.obj.2, .string x.key, .bool x.keyed, .int .i64 x.elem.1, .string x.elem.2, .bool x.ins, .int .i64 x.act, .int .i64 x.kind, .int .u64 x.u, .int .i64 x.n, .string x.s, .slice x.pA x.pn x.pc]
def opRow (L : List OpV) : List Value := L.flatMap opCells
theorem opRow_length (L : List OpV) : (opRow L).length = L.length * 13 := by
  induction L with
  | nil => rfl
  | cons x L ih => simp [opRow, opCells] at ih ⊢; omega
theorem opRow_get : ∀ {L : List OpV} {j k : Nat} {u : Value}, j < L.length → (opCells (opv L j))[k]? = some u → (opRow L)[j * 13 + k]? = some u := by
  intro L
  induction L with
  | nil => intro j k u h; simp at h
  | cons x L ih =>
    intro j k u h hk
    have hk13 : k < 13 := (List.getElem?_eq_some_iff.1 hk).1
    have e : opRow (x :: L) = opCells x ++ opRow L := rfl
    cases j with
    | zero =>
      rw [e, Nat.zero_mul, Nat.zero_add, List.getElem?_append_left hk13]
      exact hk
    | succ j =>
      rw [e, show (j + 1) * 13 + k = 13 + (j * 13 + k) by omega, List.getElem?_append_right (by show 13 ≤ _; omega), show 13 + (j * 13 + k) - (opCells x).length = j * 13 + k by show 13 + _ - 13 = _; omega]
      exact ih (by simpa using h) hk
theorem elOp : ElT Try.prog 22 32 (.agg #[.int .i64 0, .string ByteArray.empty, .string ByteArray.empty, .bool false, .int .i64 0, .string ByteArray.empty, .bool false, .int .i64 0, .int .i64 0, .int .u64 0, .int .i64 0, .string ByteArray.empty, .slice none 0 0]) 13 152 := ⟨Try.underlying22, by kernel_rfl, rfl, by decide, by decide⟩
theorem OpsAt.of {w : World} {A : Option Addr} {n : Nat} {L : List OpV} (h : RdV w A n 13 (opRow L)) (hx : ∀ x ∈ L, OpWf x ∧ NmsAt w x.pA x.pn x.preds) : OpsAt w A n L := by
  have hl := h.1
  rw [opRow_length] at hl
  have hl' : L.length = n := by omega
  refine ⟨hl', hx, fun hn => ?_⟩
  obtain ⟨b, o, e, hc⟩ := h.2 hn
  refine ⟨b, o, e, fun j hj => ?_⟩
  have g : ∀ k u, (opCells (opv L j))[k]? = some u → w.cell? ⟨b, o + j * 13 + k, none⟩ = some u := fun k u hu => by
    have := hc _ u (opRow_get (L := L) (j := j) (k := k) (by omega) hu)
    rwa [← Nat.add_assoc] at this
  exact ⟨g 0 _ rfl, g 1 _ rfl, g 2 _ rfl, g 3 _ rfl, g 4 _ rfl, g 5 _ rfl, g 6 _ rfl, g 7 _ rfl, g 8 _ rfl, g 9 _ rfl, g 10 _ rfl, g 11 _ rfl, g 12 _ rfl⟩
/-- Each op twice, the last first. -/
def turned (L : List OpV) (k : Nat) : List OpV := (L.reverse.take k).flatMap fun x => [x, x]
theorem turned_len (L : List OpV) {k : Nat} (h : k ≤ L.length) : (turned L k).length = 2 * k := by
  unfold turned
  have : ∀ l : List OpV, (l.flatMap fun x => [x, x]).length = 2 * l.length := by
    intro l
    induction l with
    | nil => rfl
    | cons a l ih => simp [ih]; omega
  rw [this, List.length_take, List.length_reverse]
  omega
theorem turned_next {L : List OpV} {k : Nat} (h : k < L.length) : turned L (k + 1) = turned L k ++ [opv L (L.length - 1 - k), opv L (L.length - 1 - k)] := by
  unfold turned
  rw [List.take_succ_eq_append_getElem (by rw [List.length_reverse]; exact h), List.flatMap_append]
  congr 1
  rw [List.getElem_reverse]
  unfold opv
  rw [List.getD_eq_getElem?_getD, List.getElem?_eq_getElem (by omega)]
  rfl
theorem turned_mem {L : List OpV} {x : OpV} : x ∈ turned L L.length ↔ x ∈ L := by
  unfold turned
  rw [List.take_of_length_le (by rw [List.length_reverse]; exact Nat.le_refl _), List.mem_flatMap]
  constructor
  · rintro ⟨y, hy, hx⟩
    obtain rfl : x = y := by simpa using hx
    exact List.mem_reverse.1 hy
  · intro hx
    exact ⟨x, List.mem_reverse.2 hx, by simp⟩
theorem names_mem {L M : List OpV} (h : ∀ x, x ∈ L ↔ x ∈ M) (s : ByteArray) : (∃ y ∈ namesL L, y.2 = s) ↔ ∃ y ∈ namesL M, y.2 = s := by
  constructor
  · rintro ⟨y, hy, e⟩
    obtain ⟨x, hx, hy⟩ := List.mem_flatMap.1 hy
    exact ⟨y, List.mem_flatMap.2 ⟨x, (h x).1 hx, hy⟩, e⟩
  · rintro ⟨y, hy, e⟩
    obtain ⟨x, hx, hy⟩ := List.mem_flatMap.1 hy
    exact ⟨y, List.mem_flatMap.2 ⟨x, (h x).2 hx, hy⟩, e⟩
/-- 'append' of two elements that are built right ahead of it. -/
theorem wpList_appTwo {P : Program} {wr : World} {ops : Array Oper} {rest : List Oper} {o : Oper} {a : Act} {Q : Exit → Act → World → Prop} (hgd : o.guard = none) (s x : Operand) {t : TypeId}
    (ho : o.op = .call { callee := .builtin .append, args := #[s, x], argTypes := #[t, t] })
    {base : Nat} {e : TypeId} {z : Value} {size bytes : Nat} (El : ElT P t e z size bytes) {v : Value} {n : Nat} {xs : List Value} (hown : wr.ownsRow base e size v n xs)
    (hs : a.eval s = v) {vs : Array Value} {T : TypeId} (hx : a.eval x = .slice (some ⟨wr.heap.size, 0, none⟩) 2 2) (hl : vs.size = 2 * size) (h1 : vs.toList.all (fun u => u.oneCell') = true)
    (hbytes : (n + 2) * bytes ≤ 140737488355328) (hbase : base ≤ wr.heap.size)
    (h : ∀ v' w', w'.ownsRow base e size v' (n + 2) (xs ++ vs.toList) → Fr wr w' [v.ownBlock] → wpList P ops Q rest (a.put o.dst v') w') : wpList P ops Q (o :: rest) a (wr.alloc (.cells vs T)) := by
  refine wpList_appV hgd s x ho El (own_below hown ((Below.refl _ _).alloc (Nat.le_refl _) _)) hs hx ⟨by rw [Array.length_toList, hl], fun _ => ⟨wr.heap.size, 0, rfl, fun j u hu => ?_⟩⟩ (fun e => by cases e) h1 hbytes (by simp; omega) ?_
  · have := news_at wr vs T j u hu
    rw [addr_add] at this
    exact this
  · intro v' w' h2 h3 _
    exact h v' w' h2 (((Fr.refl wr [v.ownBlock]).alloc _).trans h3 (fun o ho => .inl ho))
theorem names_few {M : List OpV} (h : M.length ≤ 80) (hF : ∀ x ∈ M, FewAt x) (hP : ∀ x ∈ M, x.preds.length = x.pn) : (namesL M).length ≤ 42 * 80 := by
  have : ∀ l : List OpV, (∀ x ∈ l, FewAt x ∧ x.preds.length = x.pn) → (namesL l).length ≤ 42 * l.length := by
    intro l
    induction l with
    | nil => intro _; simp [namesL]
    | cons a l ih =>
      intro hl
      have h1 := ih (fun x hx => hl x (List.mem_cons_of_mem _ hx))
      have h2 := hl a (List.mem_cons_self ..)
      have h3 := namesOf_le a
      have h4 := h2.1.p
      rw [h2.2] at h3
      have e : namesL (a :: l) = namesOf a ++ namesL l := rfl
      rw [e, List.length_append, List.length_cons]
      omega
  have h9 := this M (fun x hx => ⟨hF x hx, hP x hx⟩)
  omega
theorem table_small {au : ByteArray} {N : List Nm} {T : List ByteArray} (h : IsTable au N T) (hN : N.length ≤ 42 * 80) : T.length ≤ 100000 := by
  obtain ⟨t, rfl, h1, h2⟩ := h.is
  have h3 : t.Nodup := h1.imp (fun h e => by subst e; exact ltB_irrefl _ h)
  have h4 := nodup_le (N := N) (P := fun _ => True) h3 (fun s hs => ⟨trivial, ((h2 s).1 hs).2⟩)
  simp only [List.length_cons]
  omega
theorem opv_few {L : List OpV} {n : Nat} (hl : L.length = n) (h : ∀ i, i < n → FewAt (opv L i)) : ∀ x ∈ L, FewAt x := by
  intro x hx
  obtain ⟨i, hi, rfl⟩ := List.getElem_of_mem hx
  have := h i (by omega)
  unfold opv at this
  rwa [List.getD_eq_getElem?_getD, List.getElem?_eq_getElem hi] at this
set_option maxHeartbeats 1000000 in
set_option maxRecDepth 100000 in
theorem ActorsTurned_calls (au : ByteArray) (A : Option Addr) (n cap : Nat) (L : List OpV) (w : World) (hau : au.size ≤ 140737488351232) (hO : OpsAt w A n L) (hn : n ≤ maxLen) :
    Calls Try.prog 3 #[.string au, .slice A n cap] w fun e w' => e = .returned (.bool true) ∧ Below w.heap.size w w' := by
  have HO := Lib.hid hO
  have Hn := Lib.hid hn
  clear hO hn
  go_enter Try.func3, Try.ntmps3
  go_wp2_with fail
  refine (awake18_calls w).mono ?_
  rintro e w1 ⟨rfl, hb1⟩
  have HB1 := Lib.hid hb1
  have hs1 := hb1.size
  clear hb1
  by_cases ha : au.size ≤ 1000
  · go_wp2_with fail
    refine (Few_calls A n cap L 40 w1 (HO.out.below HB1.out) Hn.out (by decide)).mono ?_
    rintro e w2 ⟨⟨he, rfl⟩⟩
    rcases he with rfl | ⟨rfl, hn40, hF⟩
    · go_wp2_with fail
      refine (awake18_calls _).mono ?_
      rintro e w3 ⟨rfl, hb3⟩
      have H3 := Lib.hid (below_seq HB1.out (Nat.le_refl _) hb3)
      clear hb3
      go_wp2
      go_ret
      exact ⟨rfl, H3.out⟩
    · have hn4 : n ≤ 40 := by omega
      have HF := Lib.hid hF
      clear hF hn40
      go_wp2_with fail
      go_loopw [5, 6] (fun v i wr => ∃ k : Nat, k ≤ n ∧ i = .int .i64 ((n : Int) - 1 - k) ∧ Hid (wr.ownsRow w2.heap.size 32 13 v (2 * k) (opRow (turned L k))) ∧ Hid (Below w2.heap.size w2 wr)) (fun _ i _ => (intOf i + 1).toNat)
      case atStart => exact ⟨0, by omega, by simp, World.ownsRow_nil _ _ _ _, Below.refl _ _⟩
      case round =>
        obtain ⟨k, hk, rfl, HT, HBr⟩ := hrel
        obtain ⟨W, hW⟩ : ∃ W, W = wr := ⟨_, rfl⟩
        subst hW
        have HB := Lib.hid (below_seq HB1.out (Nat.le_refl _) HBr.out)
        by_cases hlt : k < n
        · obtain ⟨j, hj⟩ : ∃ j, j = n - 1 - k := ⟨_, rfl⟩
          have hji : (n : Int) - 1 - k = (j : Int) := by omega
          rw [hji]
          have hjn : j < n := by omega
          obtain ⟨b, o, hA, hc⟩ := HO.out.2.2 (by omega)
          subst hA
          obtain ⟨x, hxe⟩ : ∃ x, x = opv L j := ⟨_, rfl⟩
          have hcj := (hc j hjn).below HB.out
          rw [← hxe] at hcj
          obtain ⟨c0, c1, c2, c3, c4, c5, c6, c7, c8, c9, c10, c11, c12⟩ := hcj
          have HXE := Lib.hid hxe
          have Hj := Lib.hid hj
          obtain ⟨Au, pu, hvu⟩ := own_slice HT.out
          subst hvu
          have hsz := HBr.out.size
          clear hc hxe hji hj
          obtain ⟨i0, hi0, hz0, hz1, hz2⟩ := info_parts elOp.info
          obtain ⟨nk, hnk⟩ : ∃ nk, nk = 2 * k := ⟨_, rfl⟩
          rw [← hnk] at HT ⊢
          have hnk80 : nk ≤ 80 := by omega
          have Hnk := Lib.hid hnk
          clear hnk
          go_upto_region 7 with fail
          go_region_law
            ((refine step_append_lies _ (by rfl) _ _ _ (by rfl) w2.heap.size 32 i0 _ 13 152 elOp.und hi0 hz0 hz1 hz2 rfl (by omega) (.slice Au nk pu) nk _ (by rfl) (HT.out.alloc _) ⟨W.heap.size, 0, none⟩ 2 2 (opCells x ++ opCells x) (by rfl) rfl (news_at _ (opCells x ++ opCells x).toArray _) (by simp [Value.oneCell', opCells]) (by omega) (by unfold maxLen; omega) (by omega) (by simp; omega) (W.heap.size + 1) (by simp) ?_; intro g cg w4 hown4 hgrow4 hat4 hlt4; have Hown4 := Lib.hid hown4; have Hg4 := Lib.hid hgrow4; clear hown4 hgrow4 hat4))
          all_goals
            have hrow : opRow (turned L (k + 1)) = opRow (turned L k) ++ (opCells x ++ opCells x) := by
              have hj9 := Hj.out
              rw [turned_next (by rw [HO.out.1]; exact hlt), HO.out.1, ← hj9, ← HXE.out]
              simp [opRow]
            have h4 := Hown4.out
            rw [← hrow, show nk + 2 = 2 * (k + 1) by have := Hnk.out; omega] at h4
            have H4 := Lib.hid h4
            have HB4 : Hid (Below w2.heap.size w2 w4) := Lib.hid ((HBr.out.alloc hsz _).drew.grown Hg4.out (by simp <;> omega) (fun i e => (HT.out.lt i e).1))
            have hji := Hj.out
            clear hrow h4 Hown4 Hg4
            rw [show nk + 2 = 2 * (k + 1) by have := Hnk.out; omega]
            go_wp2_with fail
            go_roundw
          all_goals first
            | exact ⟨k + 1, by omega, by congr 1; omega, H4.out, HB4.out⟩
            | (simp [intOf]; omega)
        · obtain rfl : k = n := by omega
          have hl := HO.out.1
          have hnm : turned L k = turned L L.length := by rw [hl]
          rw [hnm] at HT
          obtain ⟨Au, cu, hvu, _, hrv, _⟩ := own_rdV HT.out
          subst hvu
          obtain ⟨M, hM⟩ : ∃ M, M = turned L L.length := ⟨_, rfl⟩
          rw [← hM] at hrv HT
          have hMm : ∀ x, x ∈ L ↔ x ∈ M := fun x => by rw [hM]; exact turned_mem.symm
          have hMo : OpsAt W Au (2 * k) M := OpsAt.of hrv (fun x hx => by
            have := HO.out.2.1 x ((hMm x).2 hx)
            exact ⟨this.1, this.2.below HB.out⟩)
          have hFL := opv_few hl HF.out
          have hFM : ∀ i, i < 2 * k → FewAt (opv M i) := fun i hi => hFL _ ((hMm _).2 (opv_mem (by rw [hMo.1]; exact hi)))
          obtain ⟨n2, hn2⟩ : ∃ n2, n2 = 2 * k := ⟨_, rfl⟩
          rw [← hn2] at hMo hFM ⊢
          have hn280 : n2 ≤ 80 := by omega
          have HMo := Lib.hid hMo
          have HFM := Lib.hid hFM
          have HMm := Lib.hid hMm
          clear hM hrv hMm hMo hFL hFM hl hnm hn2 HT
          go_wp2_with fail
          refine (Table_calls au A k cap L W ha (HO.out.below HB.out) (by omega) HF.out).mono ?_
          rintro e w5 ⟨v5, T5, rfl, hT5, ho5, hb5⟩
          have HB5 := Lib.hid (below_seq HB.out (Nat.le_refl _) hb5)
          have HM5 := Lib.hid (HMo.out.below hb5)
          have HT5 := Lib.hid hT5
          obtain ⟨A5, c5, rfl, _, hr5, _⟩ := own_rdS ho5
          have Hr5 := Lib.hid hr5
          clear hT5 ho5 hb5 hr5
          go_wp2_with fail
          refine (Table_calls au Au n2 cu M w5 ha HM5.out (by omega) HFM.out).mono ?_
          rintro e w6 ⟨v6, T6, rfl, hT6, ho6, hb6⟩
          have HB6 := Lib.hid (below_seq HB5.out (Nat.le_refl _) hb6)
          obtain rfl : T6 = T5 := hT6.same HT5.out (fun s => (names_mem HMm.out s).symm)
          have Hr56 := Lib.hid (Hr5.out.below hb6)
          obtain ⟨A6, c6, rfl, _, hr6, _⟩ := own_rdS ho6
          have Hr6 := Lib.hid hr6
          have htl : T6.length ≤ 100000 := table_small hT6 (names_few (by rw [HM5.out.1]; exact hn280) (fun x hx => by
            have h1 := HFM.out
            exact opv_few HMo.out.1 h1 x hx) (fun x hx => (HMo.out.2.1 x hx).2.1))
          obtain ⟨tl, htl2⟩ : ∃ tl, tl = T6.length := ⟨_, rfl⟩
          rw [← htl2] at htl Hr56 Hr6 ⊢
          clear hT6 ho6 hb6 hr6 htl2
          go_wp2_with fail
          refine (Same_calls A5 A6 tl c5 c6 T6 w6 Hr56.out Hr6.out (by omega)).mono ?_
          rintro e w7 ⟨rfl, hb7⟩
          have HB7 := Lib.hid (below_seq HB6.out (Nat.le_refl _) hb7)
          clear hb7
          go_wp2
          go_ret
          exact ⟨rfl, HB7.out⟩
  · go_wp2_with fail
    refine (awake18_calls _).mono ?_
    rintro e w2 ⟨rfl, hb2⟩
    have H2 := Lib.hid (below_seq HB1.out (Nat.le_refl _) hb2)
    clear hb2
    go_wp2
    go_ret
    exact ⟨rfl, H2.out⟩
theorem ActorsTurned_walk (au : ByteArray) (A : Option Addr) (n cap : Nat) (L : List OpV) (w : World) (hau : au.size ≤ 140737488351232) (hO : OpsAt w A n L) (hn : n ≤ maxLen) (_hc : n ≤ cap) (_hA : A = none → n = 0 ∧ cap = 0) :
    Calls Try.prog 3 #[.string au, .slice A n cap] w fun e w' => e = .returned (.bool true) ∧ Below w.heap.size w w' := ActorsTurned_calls au A n cap L w hau hO hn
end Go.Proofs.Ytekhofnfikcpnaa
/-
  The walk of the law ActorsAll.
-/
namespace Go.Proofs.Ytekhofnfikcpnaa
open Go.RowKit

theorem bl_text (a b : ByteArray) (c : Bool) (hc : c = true ↔ ltB a b) : Op.bytesLess a.toList b.toList = c := by
  rw [bytesLess_eq, Lib.toList_data, Lib.toList_data]
  cases c
  · exact decide_eq_false (fun h => absurd (hc.2 h) (by decide))
  · exact decide_eq_true (hc.1 rfl)
theorem prev_lt {T t : List ByteArray} {au : ByteArray} {i : Nat} (hT : T = au :: t) (hup : t.Pairwise ltB) (h1 : 1 < i) (hi : i < T.length) : ltB (str T (i - 1)) (str T i) := by
  rw [hT] at hi ⊢
  obtain ⟨j, rfl⟩ : ∃ j, i = j + 2 := ⟨i - 2, by omega⟩
  simp at hi
  unfold str
  rw [show j + 2 - 1 = j + 1 by omega, List.getD_cons_succ, List.getD_cons_succ, List.getD_eq_getElem?_getD, List.getD_eq_getElem?_getD, List.getElem?_eq_getElem (by omega), List.getElem?_eq_getElem (by omega)]
  exact List.pairwise_iff_getElem.1 hup j (j + 1) (by omega) (by omega) (by omega)
theorem idx_at {T t : List ByteArray} {au x : ByteArray} {i : Nat} (hT : T = au :: t) (hup : t.Pairwise ltB) (hxa : x ≠ au) (h1 : 1 ≤ i) (hi : i < T.length) (hx : x = str T i) : IsIdx T x i := by
  refine .inr ⟨i, rfl, hi, hx.symm, fun j hj e => ?_⟩
  rw [hT] at hx e hi
  obtain ⟨i', rfl⟩ : ∃ i', i = i' + 1 := ⟨i - 1, by omega⟩
  simp at hi
  unfold str at hx e
  rw [List.getD_cons_succ, List.getD_eq_getElem?_getD, List.getElem?_eq_getElem hi] at hx
  cases j with
  | zero => exact hxa (by rw [← e]; rfl)
  | succ j' =>
    rw [List.getD_cons_succ, List.getD_eq_getElem?_getD, List.getElem?_eq_getElem (by omega)] at e
    have h9 := List.pairwise_iff_getElem.1 hup j' i' (by omega) hi (by omega)
    simp at hx e
    rw [← hx, e] at h9
    exact ltB_irrefl _ h9
set_option maxHeartbeats 1000000 in
set_option maxRecDepth 100000 in
theorem ActorsAll_calls (au : ByteArray) (A : Option Addr) (n cap : Nat) (L : List OpV) (w : World) (hau : au.size ≤ 140737488351232) (hO : OpsAt w A n L) (hn : n ≤ maxLen) :
    Calls Try.prog 5 #[.string au, .slice A n cap] w fun e w' => e = .returned (.bool true) ∧ Below w.heap.size w w' := by
  have HO := Lib.hid hO
  have Hn := Lib.hid hn
  clear hO hn
  go_enter Try.func5, Try.ntmps5
  go_wp2_with fail
  refine (awake18_calls w).mono ?_
  rintro e w1 ⟨rfl, hb1⟩
  have HB1 := Lib.hid hb1
  have hs1 := hb1.size
  clear hb1
  by_cases ha : au.size ≤ 1000
  · go_wp2_with fail
    refine (Few_calls A n cap L 40 w1 (HO.out.below HB1.out) Hn.out (by decide)).mono ?_
    rintro e w2 ⟨⟨he, rfl⟩⟩
    rcases he with rfl | ⟨rfl, hn40, hF⟩
    · go_wp2_with fail
      refine (awake18_calls _).mono ?_
      rintro e w3 ⟨rfl, hb3⟩
      have H3 := Lib.hid (below_seq HB1.out (Nat.le_refl _) hb3)
      clear hb3
      go_wp2
      go_ret
      exact ⟨rfl, H3.out⟩
    · have hn4 : n ≤ 40 := by omega
      have HF := Lib.hid hF
      clear hF hn40
      go_wp2_with fail
      refine (Table_calls au A n cap L w2 ha (HO.out.below HB1.out) (by omega) HF.out).mono ?_
      rintro e w5 ⟨v5, T, rfl, hT, ho5, hb5⟩
      have HB5 := Lib.hid (below_seq HB1.out (Nat.le_refl _) hb5)
      have htl : T.length ≤ 100000 := table_small hT (names_few (by rw [HO.out.1]; omega) (opv_few HO.out.1 HF.out) (fun x hx => (HO.out.2.1 x hx).2.1))
      obtain ⟨t, hTt, hup, hmem⟩ := hT.is
      obtain ⟨A5, c5, rfl, _, hr5, _⟩ := own_rdS ho5
      obtain ⟨m, hm⟩ : ∃ m, m = T.length := ⟨_, rfl⟩
      rw [← hm] at hr5 htl ⊢
      have hm0 : 0 < m := by rw [hm, hTt]; simp
      obtain ⟨b5, o5, e5, hc5⟩ := hr5.2 hm0
      subst e5
      have z0 := hc5 0 hm0
      rw [show str T 0 = au by rw [hTt]; rfl, Nat.add_zero] at z0
      have hm1 : ((m : Int) == 0) = false := by simp; omega
      have Hr5 := Lib.hid hr5
      have Hc5 := Lib.hid hc5
      have HTt := Lib.hid hTt
      have Hup := Lib.hid hup
      have Hmem := Lib.hid hmem
      have Hm := Lib.hid hm
      have hT1 := Lib.hid hT
      clear hT ho5 hb5 hTt hup hmem hr5 hc5 hm
      go_wp2_with fail
      refine (rNames_calls A n cap L w5 (HO.out.below HB5.out) (by omega) HF.out).mono ?_
      rintro e w6 ⟨v6, rfl, ho6, hlen, hb6⟩
      have HB6 := Lib.hid (below_seq HB5.out (Nat.le_refl _) hb6)
      obtain ⟨A6, c6, rfl, _, hnm, hN6⟩ := own_nms ho6
      obtain ⟨N, hN⟩ : ∃ N, N = namesL L := ⟨_, rfl⟩
      obtain ⟨q, hq⟩ : ∃ q, q = N.length := ⟨_, rfl⟩
      rw [← hN] at hnm hlen ho6 Hmem ⊢
      rw [← hq] at hnm hlen ho6 ⊢
      have hq42 : q ≤ 4200 := by omega
      have HR6 := Lib.hid (Hr5.out.below hb6)
      have HC6 : Hid (∀ j, j < m → w6.cell? ⟨b5, o5 + j, none⟩ = some (.string (str T j))) := Lib.hid (fun j hj => kept_cell hb6 (Hc5.out j hj))
      have Hnm := Lib.hid hnm
      have Hq := Lib.hid hq
      clear ho6 hlen hb6 hnm hN6 hN hq z0
      go_wp2_with fail
      go_loopw [7] (fun i wr => ∃ k : Nat, k ≤ q ∧ i = .int .i64 k ∧ wr = w6) (fun i _ => q - (intOf i).toNat)
      case atStart => exact ⟨0, by omega, rfl, rfl⟩
      case round =>
        obtain ⟨k, hk, rfl, hw⟩ := hrel
        obtain ⟨W, hW⟩ : ∃ W, W = wr := ⟨_, rfl⟩
        rw [← hW] at hw ⊢
        subst hw
        clear hW
        by_cases hlt : k < q
        · obtain ⟨b2, o2, e2, hc⟩ := Hnm.out.2 (by omega)
          subst e2
          obtain ⟨d0, d1⟩ := hc k hlt
          obtain ⟨y, hy⟩ : ∃ y, y = nm N k := ⟨_, rfl⟩
          rw [← hy] at d0 d1
          have hyN : y ∈ N := by rw [hy]; exact nm_mem (by rw [← Hq.out]; exact hlt)
          have HyN := Lib.hid hyN
          clear hc hy hyN
          go_wp2_with fail
          refine (Index_calls _ m c5 T y.2 _ HR6.out (by omega)).mono ?_
          rintro e w7 ⟨r, rfl, Hr, rfl⟩
          have hr0 : 0 ≤ r := by
            rcases Hr.out with ⟨_, hno⟩ | ⟨j, rfl, _⟩
            · exfalso
              by_cases hya : y.2 = au
              · exact hno 0 (by rw [HTt.out]; simp) (by rw [HTt.out, hya]; rfl)
              · have hyt : y.2 ∈ t := (Hmem.out y.2).2 ⟨hya, y, HyN.out, rfl⟩
                obtain ⟨i, hi, he⟩ := List.getElem_of_mem hyt
                refine hno (i + 1) (by rw [HTt.out]; simp; omega) ?_
                rw [HTt.out]
                unfold str
                rw [List.getD_cons_succ, List.getD_eq_getElem?_getD, List.getElem?_eq_getElem hi, ← he]
                rfl
            · omega
          have hr1 : ¬ r < 0 := by omega
          clear Hr
          go_wp2_with fail
          go_roundw
          case rel => exact ⟨k + 1, by omega, by go_num, trivial⟩
          case measure => simp [intOf]; omega
        · obtain rfl : k = q := by omega
          go_wp2_with fail
          go_loopw [8] (fun i wr => ∃ k : Nat, 1 ≤ k ∧ k ≤ m ∧ i = .int .i64 k ∧ Hid (Below W.heap.size W wr)) (fun i _ => m - (intOf i).toNat)
          case atStart => exact ⟨1, by omega, by omega, rfl, Below.refl _ _⟩
          case round =>
            obtain ⟨i, hi1, him, rfl, HBi⟩ := hrel
            obtain ⟨W2, hW2⟩ : ∃ W, W = wr := ⟨_, rfl⟩
            subst hW2
            by_cases hlt2 : i < m
            · obtain ⟨x, hx⟩ : ∃ x, x = str T i := ⟨_, rfl⟩
              have hxt : x ∈ t := by
                rw [hx, HTt.out]
                obtain ⟨i', rfl⟩ : ∃ i', i = i' + 1 := ⟨i - 1, by omega⟩
                unfold str
                have hl := Hm.out
                rw [HTt.out] at hl
                simp at hl
                rw [List.getD_cons_succ, List.getD_eq_getElem?_getD, List.getElem?_eq_getElem (by omega)]
                exact List.getElem_mem _
              have hxa := (Hmem.out x).1 hxt
              have hidx := idx_at HTt.out Hup.out hxa.1 hi1 (by rw [← Hm.out]; exact hlt2) hx
              have HBW := Lib.hid (below_seq HB6.out (Nat.le_refl _) HBi.out)
              have HX := Lib.hid hx
              have HXA := Lib.hid hxa
              have Hidx := Lib.hid hidx
              have hR2 := Lib.hid (HR6.out.below HBi.out)
              clear hx hxt hxa hidx
              go_wp2_with fail
              go_loopw [9, 10] (fun f i wr => ∃ (k' : Nat) (g : Bool), k' ≤ k ∧ i = .int .i64 k' ∧ f = .bool g ∧ Hid (g = true ↔ ∃ j, j < k' ∧ (nm N j).2 = x) ∧ Hid (Below W2.heap.size W2 wr)) (fun _ i _ => k - (intOf i).toNat)
              case atStart => exact ⟨0, false, by omega, rfl, rfl, Lib.hid ⟨fun h => (by cases h), fun h => (by obtain ⟨j, h, _⟩ := h; omega)⟩, Below.refl _ _⟩
              case round =>
                obtain ⟨k', g, hk', rfl, rfl, Hg, HBk⟩ := hrel
                obtain ⟨W3, hW3⟩ : ∃ W, W = wr := ⟨_, rfl⟩
                subst hW3
                have HB3 := Lib.hid (below_seq HBi.out (Nat.le_refl _) HBk.out)
                by_cases hlt3 : k' < k
                · obtain ⟨b2, o2, e2, hc⟩ := Hnm.out.2 (by omega)
                  subst e2
                  obtain ⟨d0, d1⟩ := (hc k' hlt3).below HB3.out
                  obtain ⟨y, hy⟩ : ∃ y, y = nm N k' := ⟨_, rfl⟩
                  rw [← hy] at d0 d1
                  have z1 := kept_cell HB3.out (HC6.out i hlt2)
                  rw [← HX.out] at z1
                  have HY := Lib.hid hy
                  clear hc hy
                  cases g
                  · go_wp2_with fail
                    go_quiet (fail)
                    obtain ⟨f, hf⟩ : ∃ f, f = (y.2.toList == x.toList) := ⟨_, rfl⟩
                    rw [← hf]
                    have Hf := Lib.hid hf
                    have HW := Lib.hid (below_drewN HBk.out 1)
                    clear hf
                    go_wp2_with fail
                    go_roundw
                    case rel =>
                      refine ⟨k' + 1, f, by omega, by go_num, rfl, Lib.hid ?_, below_drewN HBk.out _⟩
                      have hf := Hf.out
                      rw [tl_beq] at hf
                      constructor
                      · intro h
                        rw [h] at hf
                        exact ⟨k', by omega, by rw [← HY.out]; exact of_decide_eq_true hf.symm⟩
                      · rintro ⟨j, hj, e⟩
                        rcases Nat.lt_or_ge j k' with g9 | g9
                        · exact absurd (Hg.out.2 ⟨j, g9, e⟩) (by decide)
                        · obtain rfl : j = k' := by omega
                          rw [← HY.out] at e
                          rw [hf]; exact decide_eq_true e
                    case measure => simp [intOf]; omega
                  · go_wp2_with fail
                    go_quiet (fail)
                    go_wp2_with fail
                    go_roundw
                    case rel =>
                      refine ⟨k' + 1, true, by omega, by go_num, rfl, Lib.hid ⟨fun _ => ?_, fun _ => rfl⟩, below_drewN HBk.out _⟩
                      obtain ⟨j, hj, e⟩ := Hg.out.1 (by trivial)
                      exact ⟨j, by omega, e⟩
                    case measure => simp [intOf]; omega
                · obtain hke := Lib.hid (show k' = k by omega)
                  have hg1 : g = true := Hg.out.2 (by
                    obtain ⟨y, hy, e⟩ := HXA.out.2
                    obtain ⟨j, hj, rfl⟩ := List.getElem_of_mem hy
                    refine ⟨j, by rw [hke.out, Hq.out]; exact hj, ?_⟩
                    unfold nm
                    rw [List.getD_eq_getElem?_getD, List.getElem?_eq_getElem hj]
                    exact e)
                  subst hg1
                  have z1 := kept_cell HB3.out (HC6.out i hlt2)
                  rw [← HX.out] at z1
                  have he1 : (x.toList == au.toList) = false := by rw [tl_beq]; exact decide_eq_false HXA.out.1
                  have hR3 := Lib.hid (hR2.out.below HBk.out)
                  have hix : ∀ wx, Below W3.heap.size W3 wx → Calls Try.prog 15 #[.slice (some ⟨b5, o5, none⟩) m c5, .string x] wx fun e w' => e = .returned (.int .i64 i) ∧ w' = wx := fun wx hb =>
                    (Index_calls _ m c5 T x wx (hR3.out.below hb) (by omega)).mono (by
                      rintro e w' ⟨r, rfl, hr, rfl⟩
                      rw [hr.out.same Hidx.out]
                      exact ⟨rfl, rfl⟩)
                  have Hix := Lib.hid hix
                  clear hix
                  by_cases hi2 : 1 < i
                  · have hi3 : decide ((1 : Int) < i) = true := by simp; omega
                    obtain ⟨p, hp⟩ : ∃ p, p = str T (i - 1) := ⟨_, rfl⟩
                    have z2 := kept_cell HB3.out (HC6.out (i - 1) (by omega))
                    rw [← hp] at z2
                    have hpl := prev_lt HTt.out Hup.out hi2 (by rw [← Hm.out]; exact hlt2)
                    rw [← hp, ← HX.out] at hpl
                    have hl1 : Op.bytesLess x.toList p.toList = false := bl_text x p false ⟨fun h => (by cases h), fun h => absurd (ltB_trans h hpl) (ltB_irrefl _)⟩
                    have hl2 : (x.toList == p.toList) = false := by rw [tl_beq]; exact decide_eq_false (fun e => by rw [e] at hpl; exact ltB_irrefl _ hpl)
                    have hl3 : (Op.bytesLess x.toList p.toList || x.toList == p.toList) = false := by rw [hl1, hl2]; rfl
                    clear hp hpl
                    go_wp2_with fail
                    go_quiet ((go_at_call 15; refine Calls.quiet_of_same (Hix.out _ (below_drewN (Below.refl _ _) _))))
                    go_wp2_with fail
                    go_roundw
                    case rel => exact ⟨i + 1, by omega, by omega, by go_num, below_drewN HB3.out _⟩
                    case measure => simp [intOf]; omega
                  · have hi3 : decide ((1 : Int) < i) = false := by simp; omega
                    go_wp2_with fail
                    go_quiet ((go_at_call 15; refine Calls.quiet_of_same (Hix.out _ (below_drewN (Below.refl _ _) _))))
                    go_wp2_with fail
                    go_roundw
                    case rel => exact ⟨i + 1, by omega, by omega, by go_num, below_drewN HB3.out _⟩
                    case measure => simp [intOf]; omega
            · obtain rfl : i = m := by omega
              go_wp2_with fail
              go_ret
              exact ⟨rfl, below_seq HB6.out (Nat.le_refl _) HBi.out⟩
  · go_wp2_with fail
    refine (awake18_calls _).mono ?_
    rintro e w2 ⟨rfl, hb2⟩
    have H2 := Lib.hid (below_seq HB1.out (Nat.le_refl _) hb2)
    clear hb2
    go_wp2
    go_ret
    exact ⟨rfl, H2.out⟩
theorem ActorsAll_walk (au : ByteArray) (A : Option Addr) (n cap : Nat) (L : List OpV) (w : World) (hau : au.size ≤ 140737488351232) (hO : OpsAt w A n L) (hn : n ≤ maxLen) (_hc : n ≤ cap) (_hA : A = none → n = 0 ∧ cap = 0) :
    Calls Try.prog 5 #[.string au, .slice A n cap] w fun e w' => e = .returned (.bool true) ∧ Below w.heap.size w w' := ActorsAll_calls au A n cap L w hau hO hn
end Go.Proofs.Ytekhofnfikcpnaa
