/-
  Texts joined into one file: ActorsTurned, ActorsGets, BackA, RdA, ActorsBack.
-/
import Derived.Test.YtekhofnfikcpnaaJAw183
import Derived.Deep.Cut
import Derived.Deep.CutRange
import Derived.Deep.CutBlock
import Derived.Deep.RegionLaw
import Derived.Deep.AppendLies
import Derived.Test.YtekhofnfikcpnaaJRGetA2
import Derived.Test.YtekhofnfikcpnaaJRGetA1
import Derived.Test.YtekhofnfikcpnaaJPutA2
import Derived.Test.YtekhofnfikcpnaaJPutA1
/-
  The walk of the law ActorsTurned.
-/
namespace Go.Proofs.Ytekhofnfikcpnaa
open Go.RowKit

def opCells (x : OpV) : List Value := [.int .i64 x.obj.1, .string x.obj.2, .string x.key, .bool x.keyed, .int .i64 x.elem.1, .string x.elem.2, .bool x.ins, .int .i64 x.act, .int .i64 x.kind, .int .u64 x.u, .int .i64 x.n, .string x.s, .slice x.pA x.pn x.pc]
def opRow (L : List OpV) : List Value := L.flatMap opCells
theorem opRow_length (L : List OpV) : (opRow L).length = L.length * 13 := by
  induction L with
  | nil => rfl
  | cons x L ih => simp [opRow, opCells] at ih ⊢; omega
theorem opRow_get : ∀ {L : List OpV} {j k : Nat} {u : Value}, j < L.length → (opCells (opv L j))[k]? = some u → (opRow L)[j * 13 + k]? = some u := by
  intro L
  induction L with
  | nil => intro j k u h; simp at h
  | cons x L ih =>
    intro j k u h hk
    have hk13 : k < 13 := (List.getElem?_eq_some_iff.1 hk).1
    have e : opRow (x :: L) = opCells x ++ opRow L := rfl
    cases j with
    | zero =>
      rw [e, Nat.zero_mul, Nat.zero_add, List.getElem?_append_left hk13]
      exact hk
    | succ j =>
      rw [e, show (j + 1) * 13 + k = 13 + (j * 13 + k) by omega, List.getElem?_append_right (by show 13 ≤ _; omega), show 13 + (j * 13 + k) - (opCells x).length = j * 13 + k by show 13 + _ - 13 = _; omega]
      exact ih (by simpa using h) hk
theorem elOp : ElT Try.prog 22 32 (.agg #[.int .i64 0, .string ByteArray.empty, .string ByteArray.empty, .bool false, .int .i64 0, .string ByteArray.empty, .bool false, .int .i64 0, .int .i64 0, .int .u64 0, .int .i64 0, .string ByteArray.empty, .slice none 0 0]) 13 152 := ⟨Try.underlying22, by kernel_rfl, rfl, by decide, by decide⟩
theorem OpsAt.of {w : World} {A : Option Addr} {n : Nat} {L : List OpV} (h : RdV w A n 13 (opRow L)) (hx : ∀ x ∈ L, OpWf x ∧ NmsAt w x.pA x.pn x.preds) : OpsAt w A n L := by
  have hl := h.1
  rw [opRow_length] at hl
  have hl' : L.length = n := by omega
  refine ⟨hl', hx, fun hn => ?_⟩
  obtain ⟨b, o, e, hc⟩ := h.2 hn
  refine ⟨b, o, e, fun j hj => ?_⟩
  have g : ∀ k u, (opCells (opv L j))[k]? = some u → w.cell? ⟨b, o + j * 13 + k, none⟩ = some u := fun k u hu => by
    have := hc _ u (opRow_get (L := L) (j := j) (k := k) (by omega) hu)
    rwa [← Nat.add_assoc] at this
  exact ⟨g 0 _ rfl, g 1 _ rfl, g 2 _ rfl, g 3 _ rfl, g 4 _ rfl, g 5 _ rfl, g 6 _ rfl, g 7 _ rfl, g 8 _ rfl, g 9 _ rfl, g 10 _ rfl, g 11 _ rfl, g 12 _ rfl⟩
/-- Each op twice, the last first. -/
def turned (L : List OpV) (k : Nat) : List OpV := (L.reverse.take k).flatMap fun x => [x, x]
theorem turned_len (L : List OpV) {k : Nat} (h : k ≤ L.length) : (turned L k).length = 2 * k := by
  unfold turned
  have : ∀ l : List OpV, (l.flatMap fun x => [x, x]).length = 2 * l.length := by
    intro l
    induction l with
    | nil => rfl
    | cons a l ih => simp [ih]; omega
  rw [this, List.length_take, List.length_reverse]
  omega
theorem turned_next {L : List OpV} {k : Nat} (h : k < L.length) : turned L (k + 1) = turned L k ++ [opv L (L.length - 1 - k), opv L (L.length - 1 - k)] := by
  unfold turned
  rw [List.take_succ_eq_append_getElem (by rw [List.length_reverse]; exact h), List.flatMap_append]
  congr 1
  rw [List.getElem_reverse]
  unfold opv
  rw [List.getD_eq_getElem?_getD, List.getElem?_eq_getElem (by omega)]
  rfl
theorem turned_mem {L : List OpV} {x : OpV} : x ∈ turned L L.length ↔ x ∈ L := by
  unfold turned
  rw [List.take_of_length_le (by rw [List.length_reverse]; exact Nat.le_refl _), List.mem_flatMap]
  constructor
  · rintro ⟨y, hy, hx⟩
    obtain rfl : x = y := by simpa using hx
    exact List.mem_reverse.1 hy
  · intro hx
    exact ⟨x, List.mem_reverse.2 hx, by simp⟩
theorem names_mem {L M : List OpV} (h : ∀ x, x ∈ L ↔ x ∈ M) (s : ByteArray) : (∃ y ∈ namesL L, y.2 = s) ↔ ∃ y ∈ namesL M, y.2 = s := by
  constructor
  · rintro ⟨y, hy, e⟩
    obtain ⟨x, hx, hy⟩ := List.mem_flatMap.1 hy
    exact ⟨y, List.mem_flatMap.2 ⟨x, (h x).1 hx, hy⟩, e⟩
  · rintro ⟨y, hy, e⟩
    obtain ⟨x, hx, hy⟩ := List.mem_flatMap.1 hy
    exact ⟨y, List.mem_flatMap.2 ⟨x, (h x).2 hx, hy⟩, e⟩
/-- 'append' of two elements that are built right ahead of it. -/
theorem wpList_appTwo {P : Program} {wr : World} {ops : Array Oper} {rest : List Oper} {o : Oper} {a : Act} {Q : Exit → Act → World → Prop} (hgd : o.guard = none) (s x : Operand) {t : TypeId}
    (ho : o.op = .call { callee := .builtin .append, args := #[s, x], argTypes := #[t, t] })
    {base : Nat} {e : TypeId} {z : Value} {size bytes : Nat} (El : ElT P t e z size bytes) {v : Value} {n : Nat} {xs : List Value} (hown : wr.ownsRow base e size v n xs)
    (hs : a.eval s = v) {vs : Array Value} {T : TypeId} (hx : a.eval x = .slice (some ⟨wr.heap.size, 0, none⟩) 2 2) (hl : vs.size = 2 * size) (h1 : vs.toList.all (fun u => u.oneCell') = true)
    (hbytes : (n + 2) * bytes ≤ 140737488355328) (hbase : base ≤ wr.heap.size)
    (h : ∀ v' w', w'.ownsRow base e size v' (n + 2) (xs ++ vs.toList) → Fr wr w' [v.ownBlock] → wpList P ops Q rest (a.put o.dst v') w') : wpList P ops Q (o :: rest) a (wr.alloc (.cells vs T)) := by
  refine wpList_appV hgd s x ho El (own_below hown ((Below.refl _ _).alloc (Nat.le_refl _) _)) hs hx ⟨by rw [Array.length_toList, hl], fun _ => ⟨wr.heap.size, 0, rfl, fun j u hu => ?_⟩⟩ (fun e => by cases e) h1 hbytes (by simp; omega) ?_
  · have := news_at wr vs T j u hu
    rw [addr_add] at this
    exact this
  · intro v' w' h2 h3 _
    exact h v' w' h2 (((Fr.refl wr [v.ownBlock]).alloc _).trans h3 (fun o ho => .inl ho))
theorem names_few {M : List OpV} (h : M.length ≤ 80) (hF : ∀ x ∈ M, FewAt x) (hP : ∀ x ∈ M, x.preds.length = x.pn) : (namesL M).length ≤ 42 * 80 := by
  have : ∀ l : List OpV, (∀ x ∈ l, FewAt x ∧ x.preds.length = x.pn) → (namesL l).length ≤ 42 * l.length := by
    intro l
    induction l with
    | nil => intro _; simp [namesL]
    | cons a l ih =>
      intro hl
      have h1 := ih (fun x hx => hl x (List.mem_cons_of_mem _ hx))
      have h2 := hl a (List.mem_cons_self ..)
      have h3 := namesOf_le a
      have h4 := h2.1.p
      rw [h2.2] at h3
      have e : namesL (a :: l) = namesOf a ++ namesL l := rfl
      rw [e, List.length_append, List.length_cons]
      omega
  have h9 := this M (fun x hx => ⟨hF x hx, hP x hx⟩)
  omega
theorem table_len {au : ByteArray} {N : List Nm} {T : List ByteArray} (h : IsTable au N T) (hN : N.length ≤ 42 * 80) : T.length ≤ 3361 := by
  obtain ⟨t, rfl, h1, h2⟩ := h.is
  have h3 : t.Nodup := h1.imp (fun h e => by subst e; exact ltB_irrefl _ h)
  have h4 := nodup_le (N := N) (P := fun _ => True) h3 (fun s hs => ⟨trivial, ((h2 s).1 hs).2⟩)
  simp only [List.length_cons]
  omega
theorem table_small {au : ByteArray} {N : List Nm} {T : List ByteArray} (h : IsTable au N T) (hN : N.length ≤ 42 * 80) : T.length ≤ 100000 := by
  obtain ⟨t, rfl, h1, h2⟩ := h.is
  have h3 : t.Nodup := h1.imp (fun h e => by subst e; exact ltB_irrefl _ h)
  have h4 := nodup_le (N := N) (P := fun _ => True) h3 (fun s hs => ⟨trivial, ((h2 s).1 hs).2⟩)
  simp only [List.length_cons]
  omega
theorem opv_few {L : List OpV} {n : Nat} (hl : L.length = n) (h : ∀ i, i < n → FewAt (opv L i)) : ∀ x ∈ L, FewAt x := by
  intro x hx
  obtain ⟨i, hi, rfl⟩ := List.getElem_of_mem hx
  have := h i (by omega)
  unfold opv at this
  rwa [List.getD_eq_getElem?_getD, List.getElem?_eq_getElem hi] at this
set_option maxHeartbeats 1000000 in
set_option maxRecDepth 100000 in
theorem ActorsTurned_calls (au : ByteArray) (A : Option Addr) (n cap : Nat) (L : List OpV) (w : World) (hau : au.size ≤ 140737488351232) (hO : OpsAt w A n L) (hn : n ≤ maxLen) :
    Calls Try.prog 3 #[.string au, .slice A n cap] w fun e w' => e = .returned (.bool true) ∧ Below w.heap.size w w' := by
  have HO := Lib.hid hO
  have Hn := Lib.hid hn
  clear hO hn
  go_enter Try.func3, Try.ntmps3
  go_wp2_with fail
  refine (awake18_calls w).mono ?_
  rintro e w1 ⟨rfl, hb1⟩
  have HB1 := Lib.hid hb1
  have hs1 := hb1.size
  clear hb1
  by_cases ha : au.size ≤ 1000
  · go_wp2_with fail
    refine (Few_calls A n cap L 40 w1 (HO.out.below HB1.out) Hn.out (by decide)).mono ?_
    rintro e w2 ⟨⟨he, rfl⟩⟩
    rcases he with rfl | ⟨rfl, hn40, hF⟩
    · go_wp2_with fail
      refine (awake18_calls _).mono ?_
      rintro e w3 ⟨rfl, hb3⟩
      have H3 := Lib.hid (below_seq HB1.out (Nat.le_refl _) hb3)
      clear hb3
      go_wp2
      go_ret
      exact ⟨rfl, H3.out⟩
    · have hn4 : n ≤ 40 := by omega
      have HF := Lib.hid hF
      clear hF hn40
      go_wp2_with fail
      go_loopw [5, 6] (fun v i wr => ∃ k : Nat, k ≤ n ∧ i = .int .i64 ((n : Int) - 1 - k) ∧ Hid (wr.ownsRow w2.heap.size 32 13 v (2 * k) (opRow (turned L k))) ∧ Hid (Below w2.heap.size w2 wr)) (fun _ i _ => (intOf i + 1).toNat)
      case atStart => exact ⟨0, by omega, by simp, World.ownsRow_nil _ _ _ _, Below.refl _ _⟩
      case round =>
        obtain ⟨k, hk, rfl, HT, HBr⟩ := hrel
        obtain ⟨W, hW⟩ : ∃ W, W = wr := ⟨_, rfl⟩
        subst hW
        have HB := Lib.hid (below_seq HB1.out (Nat.le_refl _) HBr.out)
        by_cases hlt : k < n
        · obtain ⟨j, hj⟩ : ∃ j, j = n - 1 - k := ⟨_, rfl⟩
          have hji : (n : Int) - 1 - k = (j : Int) := by omega
          rw [hji]
          have hjn : j < n := by omega
          obtain ⟨b, o, hA, hc⟩ := HO.out.2.2 (by omega)
          subst hA
          obtain ⟨x, hxe⟩ : ∃ x, x = opv L j := ⟨_, rfl⟩
          have hcj := (hc j hjn).below HB.out
          rw [← hxe] at hcj
          obtain ⟨c0, c1, c2, c3, c4, c5, c6, c7, c8, c9, c10, c11, c12⟩ := hcj
          have HXE := Lib.hid hxe
          have Hj := Lib.hid hj
          obtain ⟨Au, pu, hvu⟩ := own_slice HT.out
          subst hvu
          have hsz := HBr.out.size
          clear hc hxe hji hj
          obtain ⟨i0, hi0, hz0, hz1, hz2⟩ := info_parts elOp.info
          obtain ⟨nk, hnk⟩ : ∃ nk, nk = 2 * k := ⟨_, rfl⟩
          rw [← hnk] at HT ⊢
          have hnk80 : nk ≤ 80 := by omega
          have Hnk := Lib.hid hnk
          clear hnk
          go_upto_region 7 with fail
          go_region_law
            ((refine step_append_lies _ (by rfl) _ _ _ (by rfl) w2.heap.size 32 i0 _ 13 152 elOp.und hi0 hz0 hz1 hz2 rfl (by omega) (.slice Au nk pu) nk _ (by rfl) (HT.out.alloc _) ⟨W.heap.size, 0, none⟩ 2 2 (opCells x ++ opCells x) (by rfl) rfl (news_at _ (opCells x ++ opCells x).toArray _) (by simp [Value.oneCell', opCells]) (by omega) (by unfold maxLen; omega) (by omega) (by simp; omega) (W.heap.size + 1) (by simp) ?_; intro g cg w4 hown4 hgrow4 hat4 hlt4; have Hown4 := Lib.hid hown4; have Hg4 := Lib.hid hgrow4; clear hown4 hgrow4 hat4))
          all_goals
            have hrow : opRow (turned L (k + 1)) = opRow (turned L k) ++ (opCells x ++ opCells x) := by
              have hj9 := Hj.out
              rw [turned_next (by rw [HO.out.1]; exact hlt), HO.out.1, ← hj9, ← HXE.out]
              simp [opRow]
            have h4 := Hown4.out
            rw [← hrow, show nk + 2 = 2 * (k + 1) by have := Hnk.out; omega] at h4
            have H4 := Lib.hid h4
            have HB4 : Hid (Below w2.heap.size w2 w4) := Lib.hid ((HBr.out.alloc hsz _).drew.grown Hg4.out (by simp <;> omega) (fun i e => (HT.out.lt i e).1))
            have hji := Hj.out
            clear hrow h4 Hown4 Hg4
            rw [show nk + 2 = 2 * (k + 1) by have := Hnk.out; omega]
            go_wp2_with fail
            go_roundw
          all_goals first
            | exact ⟨k + 1, by omega, by congr 1; omega, H4.out, HB4.out⟩
            | (simp [intOf]; omega)
        · obtain rfl : k = n := by omega
          have hl := HO.out.1
          have hnm : turned L k = turned L L.length := by rw [hl]
          rw [hnm] at HT
          obtain ⟨Au, cu, hvu, _, hrv, _⟩ := own_rdV HT.out
          subst hvu
          obtain ⟨M, hM⟩ : ∃ M, M = turned L L.length := ⟨_, rfl⟩
          rw [← hM] at hrv HT
          have hMm : ∀ x, x ∈ L ↔ x ∈ M := fun x => by rw [hM]; exact turned_mem.symm
          have hMo : OpsAt W Au (2 * k) M := OpsAt.of hrv (fun x hx => by
            have := HO.out.2.1 x ((hMm x).2 hx)
            exact ⟨this.1, this.2.below HB.out⟩)
          have hFL := opv_few hl HF.out
          have hFM : ∀ i, i < 2 * k → FewAt (opv M i) := fun i hi => hFL _ ((hMm _).2 (opv_mem (by rw [hMo.1]; exact hi)))
          obtain ⟨n2, hn2⟩ : ∃ n2, n2 = 2 * k := ⟨_, rfl⟩
          rw [← hn2] at hMo hFM ⊢
          have hn280 : n2 ≤ 80 := by omega
          have HMo := Lib.hid hMo
          have HFM := Lib.hid hFM
          have HMm := Lib.hid hMm
          clear hM hrv hMm hMo hFL hFM hl hnm hn2 HT
          go_wp2_with fail
          refine (Table_calls au A k cap L W ha (HO.out.below HB.out) (by omega) HF.out).mono ?_
          rintro e w5 ⟨v5, T5, rfl, hT5, ho5, hb5⟩
          have HB5 := Lib.hid (below_seq HB.out (Nat.le_refl _) hb5)
          have HM5 := Lib.hid (HMo.out.below hb5)
          have HT5 := Lib.hid hT5
          obtain ⟨A5, c5, rfl, _, hr5, _⟩ := own_rdS ho5
          have Hr5 := Lib.hid hr5
          clear hT5 ho5 hb5 hr5
          go_wp2_with fail
          refine (Table_calls au Au n2 cu M w5 ha HM5.out (by omega) HFM.out).mono ?_
          rintro e w6 ⟨v6, T6, rfl, hT6, ho6, hb6⟩
          have HB6 := Lib.hid (below_seq HB5.out (Nat.le_refl _) hb6)
          obtain rfl : T6 = T5 := hT6.same HT5.out (fun s => (names_mem HMm.out s).symm)
          have Hr56 := Lib.hid (Hr5.out.below hb6)
          obtain ⟨A6, c6, rfl, _, hr6, _⟩ := own_rdS ho6
          have Hr6 := Lib.hid hr6
          have htl : T6.length ≤ 100000 := table_small hT6 (names_few (by rw [HM5.out.1]; exact hn280) (fun x hx => by
            have h1 := HFM.out
            exact opv_few HMo.out.1 h1 x hx) (fun x hx => (HMo.out.2.1 x hx).2.1))
          obtain ⟨tl, htl2⟩ : ∃ tl, tl = T6.length := ⟨_, rfl⟩
          rw [← htl2] at htl Hr56 Hr6 ⊢
          clear hT6 ho6 hb6 hr6 htl2
          go_wp2_with fail
          refine (Same_calls A5 A6 tl c5 c6 T6 w6 Hr56.out Hr6.out (by omega)).mono ?_
          rintro e w7 ⟨rfl, hb7⟩
          have HB7 := Lib.hid (below_seq HB6.out (Nat.le_refl _) hb7)
          clear hb7
          go_wp2
          go_ret
          exact ⟨rfl, HB7.out⟩
  · go_wp2_with fail
    refine (awake18_calls _).mono ?_
    rintro e w2 ⟨rfl, hb2⟩
    have H2 := Lib.hid (below_seq HB1.out (Nat.le_refl _) hb2)
    clear hb2
    go_wp2
    go_ret
    exact ⟨rfl, H2.out⟩
theorem ActorsTurned_walk (au : ByteArray) (A : Option Addr) (n cap : Nat) (L : List OpV) (w : World) (hau : au.size ≤ 140737488351232) (hO : OpsAt w A n L) (hn : n ≤ maxLen) (_hc : n ≤ cap) (_hA : A = none → n = 0 ∧ cap = 0) :
    Calls Try.prog 3 #[.string au, .slice A n cap] w fun e w' => e = .returned (.bool true) ∧ Below w.heap.size w w' := ActorsTurned_calls au A n cap L w hau hO hn
end Go.Proofs.Ytekhofnfikcpnaa
/-
  The walk of the law ActorsGets.
-/
namespace Go.Proofs.Ytekhofnfikcpnaa
open Go.RowKit

theorem isRow_nil {k : IntKind} {w : World} {a : Option Addr} {len cap : Nat} {zs : List Int} (h : IsRow k w a len cap zs) : a = none → len = 0 ∧ cap = 0 := by
  rcases h with ⟨_, h1, h2, _⟩ | ⟨x, rfl, _⟩
  · exact fun _ => ⟨h1, h2⟩
  · intro e; cases e
theorem isRow_le {k : IntKind} {w : World} {a : Option Addr} {len cap : Nat} {zs : List Int} (h : IsRow k w a len cap zs) : len ≤ cap := by
  rcases h with ⟨_, h1, h2, _⟩ | ⟨x, _, h, _⟩
  · omega
  · exact h
theorem isRow_bsl {w : World} {a : Option Addr} {len cap : Nat} {zs : List Int} (h : IsRow .u8 w a len cap zs) : BSl w a len cap (zs.take len) ∧ ∀ x ∈ zs.take len, 0 ≤ x ∧ x ≤ 255 := by
  refine ⟨⟨h.rd, isRow_nil h, isRow_le h⟩, fun x hx => ?_⟩
  obtain ⟨j, hj, rfl⟩ := List.getElem_of_mem hx
  have := h.u8 j (by have := h.rd.1; omega)
  rwa [rd_getElem hj] at this
set_option maxHeartbeats 1000000 in
set_option maxRecDepth 100000 in
theorem ActorsGets_calls (au : ByteArray) (A : Option Addr) (n c : Nat) (b : List Int) (w : World) (_hau : au.size ≤ 140737488351232) (hR : BSl w A n c b) (hb : ∀ x ∈ b, 0 ≤ x ∧ x ≤ 255) (_hn : n ≤ 140737488351232) :
    Calls Try.prog 6 #[.string au, .slice A n c] w fun e w' => e = .returned (.bool true) ∧ Below w.heap.size w w' := by
  have HR := Lib.hid hR
  have Hb := Lib.hid hb
  clear hR hb
  go_enter Try.func6, Try.ntmps6
  go_wp2_with fail
  refine (awake18_calls w).mono ?_
  rintro e w1 ⟨rfl, hb1⟩
  have HB1 := Lib.hid hb1
  have hs1 := hb1.size
  clear hb1
  by_cases ha : au.size ≤ 1000
  · by_cases hn1 : n ≤ 1000
    · go_wp2_with fail
      refine (Get_calls au A n c b w1 (HR.out.below HB1.out) Hb.out (by omega)).mono ?_
      rintro e w2 ⟨hb2, T, p, f, v, hT, hTl, rfl, ho2⟩
      have HB2 := Lib.hid (below_seq HB1.out (Nat.le_refl _) hb2)
      have HT := Lib.hid hT
      obtain ⟨A2, c2, rfl, _, hr2, _⟩ := own_rdS ho2
      have Hr2 := Lib.hid hr2
      clear hb2 hT ho2 hr2
      obtain ⟨tl, htl⟩ : ∃ tl, tl = T.length := ⟨_, rfl⟩
      rw [← htl] at hTl Hr2 ⊢
      have Htl := Lib.hid htl
      clear htl
      go_wp2_with fail
      refine (rGet_calls au A n c b w2 (by omega) (HR.out.below HB2.out) Hb.out (by omega)).mono ?_
      rintro e w3 ⟨hb3, T3, p3, f3, v3, hT3, _, rfl, ho3⟩
      have HB3 := Lib.hid (below_seq HB2.out (Nat.le_refl _) hb3)
      obtain ⟨rfl, rfl, rfl⟩ := hT3.same HT.out
      have Hr23 := Lib.hid (Hr2.out.below hb3)
      obtain ⟨A3, c3, rfl, _, hr3, _⟩ := own_rdS ho3
      rw [← Htl.out] at hr3 ⊢
      have Hr3 := Lib.hid hr3
      clear hb3 hT3 ho3 hr3
      go_wp2_with fail
      refine (Same_calls A2 A3 tl c2 c3 T3 w3 Hr23.out Hr3.out hTl).mono ?_
      rintro e w4 ⟨rfl, hb4⟩
      have HB4 := Lib.hid (below_seq HB3.out (Nat.le_refl _) hb4)
      clear hb4
      go_wp2_with fail
      go_ret
      exact ⟨rfl, HB4.out⟩
    · go_wp2_with fail
      refine (awake18_calls _).mono ?_
      rintro e w2 ⟨rfl, hb2⟩
      have H2 := Lib.hid (below_seq HB1.out (Nat.le_refl _) hb2)
      clear hb2
      go_wp2
      go_ret
      exact ⟨rfl, H2.out⟩
  · go_wp2_with fail
    refine (awake18_calls _).mono ?_
    rintro e w2 ⟨rfl, hb2⟩
    have H2 := Lib.hid (below_seq HB1.out (Nat.le_refl _) hb2)
    clear hb2
    go_wp2
    go_ret
    exact ⟨rfl, H2.out⟩
theorem ActorsGets_walk (au : ByteArray) (A : Option Addr) (n c : Nat) (z : List Int) (w : World) (hau : au.size ≤ 140737488351232) (h : IsRow .u8 w A n c z) (y : n * 1 ≤ 140737488351232) :
    Calls Try.prog 6 #[.string au, .slice A n c] w fun e w' => e = .returned (.bool true) ∧ Below w.heap.size w w' := ActorsGets_calls au A n c (z.take n) w hau (isRow_bsl h).1 (isRow_bsl h).2 (by omega)
end Go.Proofs.Ytekhofnfikcpnaa
/-
  What is put is read as it was (no program).
-/
namespace Go.Proofs.Ytekhofnfikcpnaa
open Go.RowKit

theorem rd_app_l {a b : List Int} {i : Nat} (h : i < a.length) : rd (a ++ b) i = rd a i := by
  unfold rd
  rw [List.getD_eq_getElem?_getD, List.getD_eq_getElem?_getD, List.getElem?_append_left h]
/-- A number at the beginning is read. -/
theorem get_leb {n : Nat} (hn : n < 18446744073709551616) (R : List Int) : IsGet (lebU n ++ R) n (lebU n).length 0 := by
  obtain ⟨h1, h2⟩ := leb_last n
  have h3 := lebU_10 hn
  refine ⟨(lebU n).length, 0, .inl ⟨rfl, h3.1, h3.2, by rw [List.length_append]; omega, fun i hi => ?_, ?_⟩, .inr (.inl ⟨rfl, hn, ?_, rfl, rfl⟩)⟩
  · rw [rd_app_l (by omega)]; exact h2 i hi
  · rw [rd_app_l (by omega)]; exact h1
  · rw [List.take_left]
/-- A front of a number is none. -/
theorem get_front {n : Nat} (hn : n < 18446744073709551616) {k : Nat} (hk : k < (lebU n).length) : IsGet ((lebU n).take k) 0 0 2 := by
  obtain ⟨h1, h2⟩ := leb_last n
  have h3 := lebU_10 hn
  refine ⟨0, 2, .inr (.inr ⟨rfl, rfl, by rw [List.length_take]; omega, fun i hi => ?_⟩), .inl ⟨by decide, rfl, rfl, rfl⟩⟩
  rw [List.length_take] at hi
  have : rd ((lebU n).take k) i = rd (lebU n) i := take_rdl (by omega)
  rw [this]
  exact h2 i (by omega)
/-- Names that may stand behind each other. -/
def Chain (au : ByteArray) : List ByteArray → List ByteArray → Prop
  | _, [] => True
  | out, s :: l => (1 ≤ s.size ∧ s.size ≤ 16 ∧ ¬ BadNm au out s) ∧ Chain au (out ++ [s]) l
theorem textAt_app (P s : List Int) (R : List Int) {a : ByteArray} (hs : s = nums a) : textAt (P ++ (s ++ R)) P.length a.size = a := by
  unfold textAt
  rw [List.drop_left, hs, ← nums_length a, List.take_left, strOf_nums]
theorem reads_put (au : ByteArray) (R : List Int) : ∀ (l out : List ByteArray) (P : List Int), Chain au out l →
    Reads au (P ++ (l.flatMap txtB ++ R)) l.length P.length out (out ++ l) (P.length + (l.flatMap txtB).length) 0 := by
  intro l
  induction l with
  | nil => intro out P _; rw [List.append_nil]; exact .done _ _
  | cons s l ih =>
    intro out P hc
    obtain ⟨⟨h1, h2, h3⟩, h4⟩ := hc
    have e1 : P ++ ((s :: l).flatMap txtB ++ R) = P ++ (lebU s.size ++ (nums s ++ (l.flatMap txtB ++ R))) := by simp [txtB, List.append_assoc]
    have e2 : P ++ ((s :: l).flatMap txtB ++ R) = (P ++ lebU s.size) ++ (nums s ++ (l.flatMap txtB ++ R)) := by rw [e1, List.append_assoc]
    have e3 : P ++ ((s :: l).flatMap txtB ++ R) = (P ++ txtB s) ++ (l.flatMap txtB ++ R) := by simp [List.append_assoc]
    have hg : IsGet ((P ++ ((s :: l).flatMap txtB ++ R)).drop P.length) s.size (lebU s.size).length 0 := by
      rw [e1, List.drop_left]; exact get_leb (by omega) _
    have ht : textAt (P ++ ((s :: l).flatMap txtB ++ R)) (P.length + (lebU s.size).length) s.size = s := by
      rw [e2, ← List.length_append]; exact textAt_app _ _ _ rfl
    have hl : P.length + (lebU s.size).length + s.size = (P ++ txtB s).length := by rw [List.length_append, txtB, List.length_append, nums_length]; omega
    refine .next hg h1 h2 ?_ (by rw [ht]; exact h3) ?_
    · rw [e2]
      simp only [List.length_append, nums_length]
      omega
    · rw [ht, hl]
      have := ih (out ++ [s]) (P ++ txtB s) h4
      rw [← e3] at this
      rw [List.append_assoc] at this
      have e4 : P.length + ((s :: l).flatMap txtB).length = (P ++ txtB s).length + (l.flatMap txtB).length := by simp; omega
      rw [e4]
      exact this
theorem reads_front (au : ByteArray) : ∀ (l out : List ByteArray) (P : List Int) (k : Nat), Chain au out l → P.length ≤ k → k < P.length + (l.flatMap txtB).length →
    Reads au ((P ++ l.flatMap txtB).take k) l.length P.length out [] 0 2 := by
  intro l
  induction l with
  | nil => intro out P k _ h1 h2; simp at h2; omega
  | cons s l ih =>
    intro out P k hc hk1 hk2
    obtain ⟨⟨h1, h2, h3⟩, h4⟩ := hc
    have e1 : P ++ (s :: l).flatMap txtB = P ++ (lebU s.size ++ (nums s ++ l.flatMap txtB)) := by simp [txtB, List.append_assoc]
    have e3 : P ++ (s :: l).flatMap txtB = (P ++ txtB s) ++ l.flatMap txtB := by simp [List.append_assoc]
    obtain ⟨j, rfl⟩ : ∃ j, k = P.length + j := ⟨k - P.length, by omega⟩
    have hd : ((P ++ (s :: l).flatMap txtB).take (P.length + j)).drop P.length = ((lebU s.size ++ (nums s ++ l.flatMap txtB))).take j := by
      rw [e1, List.drop_take, List.drop_left, Nat.add_sub_cancel_left]
    by_cases hj : j < (lebU s.size).length
    · refine .num (v := 0) (k := 0) (f := 2) ?_ (by decide)
      rw [hd, List.take_append_of_le_length (by omega)]
      exact get_front (by omega) hj
    · obtain ⟨j2, rfl⟩ : ∃ j2, j = (lebU s.size).length + j2 := ⟨j - (lebU s.size).length, by omega⟩
      have hg : IsGet (((P ++ (s :: l).flatMap txtB).take (P.length + ((lebU s.size).length + j2))).drop P.length) s.size (lebU s.size).length 0 := by
        rw [hd, List.take_length_add_append]
        exact get_leb (by omega) _
      have hlen : ((P ++ (s :: l).flatMap txtB).take (P.length + ((lebU s.size).length + j2))).length = P.length + ((lebU s.size).length + j2) := by
        rw [List.length_take, List.length_append]; omega
      by_cases hj2 : j2 < s.size
      · refine .short hg h1 h2 ?_
        rw [hlen]; omega
      · have ht : textAt ((P ++ (s :: l).flatMap txtB).take (P.length + ((lebU s.size).length + j2))) (P.length + (lebU s.size).length) s.size = s := by
          unfold textAt
          rw [List.drop_take, List.take_take, e1, ← List.append_assoc, ← List.length_append, List.drop_left, Nat.min_eq_left (by rw [List.length_append]; omega)]
          rw [← nums_length s, List.take_left, strOf_nums]
        have hl : P.length + (lebU s.size).length + s.size = (P ++ txtB s).length := by rw [List.length_append, txtB, List.length_append, nums_length]; omega
        refine .next hg h1 h2 (by rw [hlen]; omega) (by rw [ht]; exact h3) ?_
        rw [ht, hl]
        have := ih (out ++ [s]) (P ++ txtB s) (P.length + ((lebU s.size).length + j2)) h4 (by rw [← hl]; omega) (by rw [← hl]; have e9 : ((s :: l).flatMap txtB).length = (txtB s).length + (l.flatMap txtB).length := (by simp); simp only [txtB, List.length_append, nums_length] at e9; omega)
        rw [← e3] at this
        exact this
end Go.Proofs.Ytekhofnfikcpnaa
/-
  Small facts: what is read in two lists joined; rows that lie nowhere (no program).
-/
namespace Go.Proofs.Ytekhofnfikcpnaa
open Go.RowKit

theorem rd_appL {a b : List Int} {i : Nat} (h : i < a.length) : rd (a ++ b) i = rd a i := by
  unfold rd
  rw [List.getD_eq_getElem?_getD, List.getD_eq_getElem?_getD, List.getElem?_append_left h]
theorem rd_appR {a b : List Int} (i : Nat) : rd (a ++ b) (a.length + i) = rd b i := by
  unfold rd
  rw [List.getD_eq_getElem?_getD, List.getD_eq_getElem?_getD, List.getElem?_append_right (Nat.le_add_right _ _), Nat.add_sub_cancel_left]
theorem own_none {w : World} {base n c : Nat} {e : TypeId} {size : Nat} {A : Option Addr} {xs : List Value} (h : w.ownsRow base e size (.slice A n c) n xs) : A = none → n = 0 ∧ c = 0 := by
  intro hA
  subst hA
  rcases h.2 with ⟨h1, h2⟩ | ⟨g, cap, cur, h1, _⟩
  · simp at h1
    exact ⟨h2, h1.2⟩
  · cases h1
/-- What was there first lies apart from a younger block. -/
theorem Rd.apart {w0 w w1 : World} {k : IntKind} {A : Option Addr} {n : Nat} {xs : List Int} (h0 : Rd w0 k A n xs) (h : Rd w k A n xs) {r : Nat} (hg : w.grownBy w1 (some r)) (hr : w0.heap.size ≤ r) : Rd w1 k A n xs :=
  ⟨h.1, fun hn => by
    obtain ⟨b, o, e, hc⟩ := h.2 hn
    obtain ⟨b', o', e', hc'⟩ := h0.2 hn
    rw [e] at e'
    cases e'
    have hlt := World.block_lt_of_cell? _ _ (hc' 0 hn)
    exact ⟨b, o, e, fun j hj => hg.cell (hc j hj) (by simp at hlt ⊢; omega)⟩⟩
end Go.Proofs.Ytekhofnfikcpnaa
/-
  The walk of the law ActorsBack.
-/
namespace Go.Proofs.Ytekhofnfikcpnaa
open Go.RowKit

theorem tmod_less {cut : Int} (hc : 0 ≤ cut) {n : Nat} (h : 0 < n) : ∃ k : Nat, cut.tmod (n : Int) = k ∧ k < n := by
  obtain ⟨C, rfl⟩ : ∃ C : Nat, cut = C := ⟨cut.toNat, by omega⟩
  exact ⟨C % n, (Int.ofNat_tmod C n).symm, Nat.mod_lt C h⟩
theorem wrap64_small {c : Int} (h : 0 ≤ c ∧ c ≤ 65535) : wrap64 c = c := by unfold wrap64; omega
theorem own_none0 (w : World) (e : TypeId) : (w.alloc (.cells #[] e)).ownsRow w.heap.size e 1 (.slice (some ⟨w.heap.size, 0, none⟩) 0 0) 0 [] :=
  World.ownsRow_lit w #[] 0 (Nat.le_refl _) (by decide) rfl
theorem rd_take0x {w : World} {k : IntKind} {A : Option Addr} {n : Nat} {xs : List Int} (h : Rd w k A n xs) (m : Nat) (hm : m ≤ n) : Rd w k A m (xs.take m) := by
  refine ⟨by rw [List.length_take, h.1]; omega, fun h0 => ?_⟩
  obtain ⟨b, o, e, hc⟩ := h.2 (by omega)
  refine ⟨b, o, e, fun j hj => ?_⟩
  rw [take_rdl hj]
  exact hc j (by omega)
theorem str_mem {T : List ByteArray} {j : Nat} (h : j < T.length) : str T j ∈ T := by
  unfold str
  rw [List.getD_eq_getElem?_getD, List.getElem?_eq_getElem h]
  exact List.getElem_mem h
theorem str_last (l : List ByteArray) (s : ByteArray) : str (l ++ [s]) ((l ++ [s]).length - 1) = s := by
  unfold str
  rw [List.getD_eq_getElem?_getD, List.length_append, List.length_singleton, Nat.add_sub_cancel, List.getElem?_append_right (Nat.le_refl _), Nat.sub_self]
  rfl
theorem chain_more {au : ByteArray} : ∀ (l t : List ByteArray), (t ++ l).Pairwise ltB → (∀ s ∈ l, s ≠ au ∧ 1 ≤ s.size ∧ s.size ≤ 16) → Chain au (au :: t) l := by
  intro l
  induction l with
  | nil => intro t _ _; trivial
  | cons s l ih =>
    intro t hp hs
    obtain ⟨h1, h2, h3⟩ := hs s List.mem_cons_self
    refine ⟨⟨h2, h3, ?_⟩, ?_⟩
    · rintro (h | ⟨h4, h5⟩)
      · exact h1 h
      · refine h5 ?_
        rcases List.eq_nil_or_concat t with rfl | ⟨t', x, rfl⟩
        · simp at h4
        · rw [List.concat_eq_append, ← List.cons_append, str_last]
          rw [List.concat_eq_append, List.append_assoc, List.pairwise_append] at hp
          exact (List.pairwise_cons.1 hp.2.1).1 s (by simp)
    · rw [List.cons_append]
      exact ih (t ++ [s]) (by rw [List.append_assoc]; exact hp) (fun x hx => hs x (List.mem_cons_of_mem _ hx))
theorem tab_put {au : ByteArray} {t : List ByteArray} (hc : Chain au [au] t) (hl : t.length < 18446744073709551616) (R : List Int) : IsTab au (putT (au :: t) ++ R) (au :: t) (putT (au :: t)).length 0 := by
  have e : putT (au :: t) = lebU t.length ++ t.flatMap txtB := rfl
  refine ⟨t.length, (lebU t.length).length, 0, ?_, .inr ⟨rfl, ?_⟩⟩
  · rw [e, List.append_assoc]; exact get_leb hl _
  · have := reads_put au R t [au] (lebU t.length) hc
    rw [e, List.append_assoc, List.length_append]
    exact this
theorem tab_cut {au : ByteArray} {t : List ByteArray} (hc : Chain au [au] t) (hl : t.length < 18446744073709551616) {k : Nat} (hk : k < (putT (au :: t)).length) : IsTab au ((putT (au :: t)).take k) [] 0 2 := by
  have e : putT (au :: t) = lebU t.length ++ t.flatMap txtB := rfl
  rw [e, List.length_append] at hk
  by_cases h : k < (lebU t.length).length
  · refine ⟨0, 0, 2, ?_, .inl ⟨by decide, rfl, rfl, rfl⟩⟩
    rw [e, List.take_append_of_le_length (by omega)]
    exact get_front hl h
  · refine ⟨t.length, (lebU t.length).length, 0, ?_, .inr ⟨rfl, ?_⟩⟩
    · obtain ⟨j, rfl⟩ : ∃ j, k = (lebU t.length).length + j := ⟨k - (lebU t.length).length, by omega⟩
      rw [e, List.take_length_add_append]
      exact get_leb hl _
    · exact reads_front au t [au] (lebU t.length) k hc (by omega) hk
theorem putT_len {au : ByteArray} {t : List ByteArray} (h : ∀ s ∈ t, s.size ≤ 16) (hl : t.length ≤ 3360) : 1 ≤ (putT (au :: t)).length ∧ (putT (au :: t)).length ≤ 87370 := by
  have e : putT (au :: t) = lebU t.length ++ t.flatMap txtB := rfl
  have h1 : ∀ l : List ByteArray, (∀ s ∈ l, s.size ≤ 16) → (l.flatMap txtB).length ≤ l.length * 26 := by
    intro l
    induction l with
    | nil => intro _; simp
    | cons s l ih =>
      intro hs
      have h1 := ih (fun x hx => hs x (List.mem_cons_of_mem _ hx))
      have h2 := hs s List.mem_cons_self
      have h3 := lebU_10 (n := s.size) (by omega)
      rw [List.flatMap_cons, List.length_append, List.length_cons, txtB, List.length_append, nums_length]
      omega
  have h2 := h1 t h
  have h3 := lebU_10 (n := t.length) (by omega)
  rw [e, List.length_append]
  omega
theorem Actor_calls (x : ByteArray) (w : World) (hx : x.size ≤ 140737488351232) :
    Calls Try.prog 22 #[.string x] w (BoolEnd w (1 ≤ x.size ∧ x.size ≤ 16)) := by
  go_enter Try.func22, Try.ntmps22
  by_cases h0 : 0 < x.size
  · by_cases h1 : x.size < 17
    · go_wp2
      go_ret
      exact ⟨.inr ⟨by simp; omega, by omega⟩, rfl⟩
    · go_wp2
      go_ret
      exact ⟨.inl (by simp; omega), rfl⟩
  · go_wp2
    go_ret
    exact ⟨.inl rfl, rfl⟩
set_option maxHeartbeats 1000000 in
set_option maxRecDepth 100000 in
theorem ActorsBack_calls (au : ByteArray) (A : Option Addr) (n cap : Nat) (L : List OpV) (B : Option Addr) (n2 c2 : Nat) (ms : List Int) (cut : Int) (w : World) (hau : au.size ≤ 140737488351232) (hO : OpsAt w A n L) (hn : n ≤ maxLen)
    (hR : BSl w B n2 c2 ms) (hb : ∀ x ∈ ms, 0 ≤ x ∧ x ≤ 255) (hn2 : n2 ≤ 140737488351232) (hcut : 0 ≤ cut ∧ cut ≤ 255) :
    Calls Try.prog 7 #[.string au, .slice A n cap, .slice B n2 c2, .int .u8 cut] w fun e w' => e = .returned (.bool true) ∧ Below w.heap.size w w' := by
  have HO := Lib.hid hO
  have Hn := Lib.hid hn
  have HR := Lib.hid hR
  have Hb := Lib.hid hb
  have Hc := Lib.hid hcut
  clear hO hn hR hb hcut
  go_enter Try.func7, Try.ntmps7
  go_wp2_with fail
  refine (awake18_calls w).mono ?_
  rintro e w1 ⟨rfl, hb1⟩
  have HB1 := Lib.hid hb1
  have hs1 := hb1.size
  clear hb1
  by_cases ha : au.size ≤ 1000
  · by_cases hm2 : n2 ≤ 1000
    · go_wp2_with fail
      refine (Few_calls A n cap L 40 w1 (HO.out.below HB1.out) Hn.out (by decide)).mono ?_
      rintro e w2 ⟨⟨he, rfl⟩⟩
      rcases he with rfl | ⟨rfl, hn40, hF⟩
      · go_wp2_with fail
        refine (awake18_calls _).mono ?_
        rintro e w3 ⟨rfl, hb3⟩
        have H3 := Lib.hid (below_seq HB1.out (Nat.le_refl _) hb3)
        clear hb3
        go_wp2
        go_ret
        exact ⟨rfl, H3.out⟩
      · have hn4 : n ≤ 40 := by omega
        have HF := Lib.hid hF
        clear hF hn40
        go_wp2_with fail
        refine (Table_calls au A n cap L w2 ha (HO.out.below HB1.out) (by omega) HF.out).mono ?_
        rintro e w5 ⟨v5, T, rfl, hT, ho5, hb5⟩
        have HB5 := Lib.hid (below_seq HB1.out (Nat.le_refl _) hb5)
        have htl : T.length ≤ 3361 := table_len hT (names_few (by rw [HO.out.1]; omega) (opv_few HO.out.1 HF.out) (fun x hx => (HO.out.2.1 x hx).2.1))
        obtain ⟨t, hTt, hup, hmem⟩ := hT.is
        obtain ⟨A5, c5, rfl, hc5, hr5, hn5⟩ := own_rdS ho5
        obtain ⟨m, hm⟩ : ∃ m, m = T.length := ⟨_, rfl⟩
        rw [← hm] at hr5 htl hc5 hn5 ⊢
        have hm0 : 0 < m := by rw [hm, hTt]; simp
        obtain ⟨b5, o5, e5, hc5c⟩ := hr5.2 hm0
        subst e5
        have Hr5 := Lib.hid hr5
        have Hn5 := Lib.hid hn5
        have Hc5 := Lib.hid hc5
        have Hcl := Lib.hid hc5c
        have HTt := Lib.hid hTt
        have Hup := Lib.hid hup
        have Hmem := Lib.hid hmem
        have Hm := Lib.hid hm
        have HszT : Hid (∀ s ∈ T, s.size ≤ 1000) := by
          refine Lib.hid (fun s hs => ?_)
          rw [hTt] at hs
          rcases List.mem_cons.1 hs with e | e
          · rw [e]; exact ha
          · obtain ⟨_, y, hy, e2⟩ := (hmem s).1 e
            have := small_of HO.out HF.out y hy
            rw [e2] at this
            omega
        clear hT ho5 hb5 hTt hup hmem hr5 hc5c hm hc5 hn5
        go_wp2_with fail
        go_loopw [10] (fun i wr => ∃ k : Nat, 1 ≤ k ∧ k ≤ m ∧ i = .int .i64 k ∧ Hid (∀ j, 1 ≤ j → j < k → 1 ≤ (str T j).size ∧ (str T j).size ≤ 16) ∧ Hid (Below w5.heap.size w5 wr)) (fun i _ => m - (intOf i).toNat)
        case atStart => exact ⟨1, by omega, by omega, rfl, Lib.hid (fun j h1 h2 => by omega), Below.refl _ _⟩
        case round =>
          obtain ⟨i, hi1, him, rfl, Hs, HBi⟩ := hrel
          obtain ⟨W, hW⟩ : ∃ W, W = wr := ⟨_, rfl⟩
          subst hW
          have HBW := Lib.hid (below_seq HB5.out (Nat.le_refl _) HBi.out)
          by_cases hlt : i < m
          · have z0 := kept_cell HBi.out (Hcl.out i hlt)
            obtain ⟨x, hx⟩ : ∃ x, x = str T i := ⟨_, rfl⟩
            rw [← hx] at z0
            have Hx := Lib.hid hx
            clear hx
            go_wp2_with fail
            refine (Actor_calls x _ (by have := HszT.out x (by rw [Hx.out]; exact str_mem (by rw [← Hm.out]; exact hlt)); omega)).mono ?_
            rintro e w7 ⟨he, rfl⟩
            rcases he with rfl | ⟨rfl, hxs⟩
            · go_wp2
              go_ret
              exact ⟨rfl, HBW.out⟩
            · have Hxs := Lib.hid hxs
              clear hxs
              go_wp2
              go_roundw
              case rel =>
                refine ⟨i + 1, by omega, by omega, by go_num, Lib.hid (fun j h1 h2 => ?_), HBi⟩
                rcases Nat.lt_or_ge j i with h | h
                · exact Hs.out j h1 h
                · obtain rfl : j = i := by omega
                  rw [← Hx.out]
                  exact Hxs.out
              case measure => simp [intOf]; omega
          · obtain rfl : i = m := by omega
            have htT : t.length + 1 = i := by rw [Hm.out, HTt.out]; rfl
            have hst : ∀ s ∈ t, s ≠ au ∧ 1 ≤ s.size ∧ s.size ≤ 16 := by
              intro s hs
              refine ⟨((Hmem.out s).1 hs).1, ?_⟩
              obtain ⟨j, hj, he⟩ := List.getElem_of_mem hs
              have := Hs.out (j + 1) (by omega) (by omega)
              rw [HTt.out] at this
              unfold str at this
              rw [List.getD_cons_succ, List.getD_eq_getElem?_getD, List.getElem?_eq_getElem hj, he] at this
              exact this
            have hch : Chain au [au] t := chain_more t [] Hup.out hst
            have hpl := putT_len (au := au) (t := t) (fun s hs => (hst s hs).2.2) (by omega)
            rw [← HTt.out] at hpl
            have HpB := Lib.hid (putT_byte T)
            have HtP := Lib.hid (tab_put hch (by omega) ms)
            have HtC : Hid (∀ k, k < (putT T).length → IsTab au ((putT T).take k) [] 0 2) := Lib.hid (fun k hk => by rw [HTt.out] at hk ⊢; exact tab_cut hch (by omega) hk)
            rw [← HTt.out] at HtP
            have HrW := Lib.hid (Hr5.out.below HBi.out)
            clear hst hch htT Hs hs1
            go_wp2_with fail
            refine (Put_calls _ i c5 T _ HrW.out Hn5.out Hc5.out (by omega) HszT.out).mono ?_
            rintro e w6 ⟨v6, rfl, ho6, hb6⟩
            have HB6 := Lib.hid (below_seq HBW.out (Nat.le_refl _) hb6)
            obtain ⟨g2, d2, rfl, _, hg2, hd2, _, _⟩ := own_form ho6 (by omega)
            obtain ⟨_, _, e2, _, hr6⟩ := own_rd ho6
            cases e2
            obtain ⟨Z, hZ⟩ : ∃ Z, Z = putT T := ⟨_, rfl⟩
            obtain ⟨p, hp⟩ : ∃ p, p = Z.length := ⟨_, rfl⟩
            rw [← hZ] at hr6 hpl hd2 HtP HtC HpB ⊢
            rw [← hp] at hr6 hpl hd2 HtP HtC ⊢
            have Hr6 := Lib.hid hr6
            have HZ := Lib.hid hZ
            have Hp := Lib.hid hp
            have HrT := Lib.hid (HrW.out.below hb6)
            clear ho6 hb6 hr6 hZ hp
            obtain ⟨q, hq⟩ : ∃ q, q = p + n2 := ⟨_, rfl⟩
            have hql : q ≤ 100000 := by omega
            have Hq := Lib.hid hq
            obtain ⟨W6, hW6⟩ : ∃ W, W = w6 := ⟨_, rfl⟩
            subst hW6
            clear hq
            go_wp2_with (first
              | (at_builtin; refine wpList_appRd rfl _ _ rfl elU8 (ys := []) (own_none0 W6 _) rfl rfl (Hr6.out.alloc _) (fun e => by cases e) (by omega) (by simp) ?_; intro v8 w8 hown8 hg8; rw [Nat.zero_add, List.nil_append] at hown8; have hb8 : Below W6.heap.size W6 w8 := ((Below.refl _ _).alloc (Nat.le_refl _) _).grown hg8 (by simp) (fun k hk => by simp [Value.ownBlock] at hk; omega))
              | (at_builtin; refine wpList_appRd rfl _ _ rfl elU8 hown8 rfl rfl ((HR.out.rd.below HB6.out).below hb8) HR.out.nil (by omega) hb8.size ?_; intro v9 w9 hown9 hg9; have hb9 : Below W6.heap.size W6 w9 := hb8.grown hg9 hb8.size (fun k hk => (hown8.lt k hk).1); rw [← Hq.out] at hown9; obtain ⟨A9, c9, rfl, hc9, hr9⟩ := own_rd hown9; have HN9 := Lib.hid (own_none hown9); have Hr9 := Lib.hid hr9; have Hb9 := Lib.hid hb9; clear hown8 hg8 hb8 hown9 hg9 hb9 hr9))
            have HB9 := Lib.hid (below_seq HB6.out (Nat.le_refl _) Hb9.out)
            have hzb : ∀ x ∈ Z ++ ms, 0 ≤ x ∧ x ≤ 255 := fun x hx => (List.mem_append.1 hx).elim (HpB.out x) (Hb.out x)
            refine (Get_calls au A9 q c9 (Z ++ ms) _ ⟨Hr9.out, HN9.out, hc9⟩ hzb hql).mono ?_
            rintro e w10 ⟨hb10, T2, p2, f2, v2, hT2, _, rfl, ho2⟩
            have HB10 := Lib.hid (below_seq HB9.out (Nat.le_refl _) hb10)
            have H610 := Lib.hid (below_seq Hb9.out (Nat.le_refl _) hb10)
            obtain ⟨rfl, rfl, rfl⟩ := hT2.same HtP.out
            obtain ⟨A2, c2', rfl, _, hr2, _⟩ := own_rdS ho2
            rw [← Hm.out] at hr2 ⊢
            have Hr2 := Lib.hid hr2
            have HrT10 := Lib.hid (HrT.out.below H610.out)
            have Hr610 := Lib.hid (Hr6.out.below H610.out)
            obtain ⟨k, hk, hkn⟩ := tmod_less Hc.out.1 hpl.1
            have hwc := wrap64_small (c := cut) ⟨Hc.out.1, by have := Hc.out.2; omega⟩
            have Hk := Lib.hid hk
            clear hzb hb10 hT2 ho2 hr2
            have hrk : Rd w10 .u8 (some ⟨g2, 0, none⟩) k (Z.take k) := rd_take0x Hr610.out k (by omega)
            have Hrk := Lib.hid hrk
            clear hrk
            go_wp2_with fail
            refine (Get_calls au (some ⟨g2, 0, none⟩) k d2 (Z.take k) _ ⟨Hrk.out, (fun e => by cases e), by omega⟩ (fun x hx => HpB.out x (List.mem_of_mem_take hx)) (by omega)).mono ?_
            rintro e w11 ⟨hb11, T3, p3, f3, v3, hT3, _, rfl, ho3⟩
            have HB11 := Lib.hid (below_seq HB10.out (Nat.le_refl _) hb11)
            obtain ⟨rfl, rfl, rfl⟩ := hT3.same (HtC.out k hkn)
            obtain ⟨A3, c3', rfl, _, _, _⟩ := own_rdS ho3
            have Hr211 := Lib.hid (Hr2.out.below hb11)
            have HrT11 := Lib.hid (HrT10.out.below hb11)
            clear hb11 hT3 ho3
            go_wp2_with fail
            refine (Same_calls A2 (some ⟨b5, o5, none⟩) i c2' c5 T2 _ Hr211.out HrT11.out (by omega)).mono ?_
            rintro e w12 ⟨rfl, hb12⟩
            have HB12 := Lib.hid (below_seq HB11.out (Nat.le_refl _) hb12)
            clear hb12
            go_wp2_with fail
            go_ret
            exact ⟨rfl, HB12.out⟩
    · go_wp2_with fail
      refine (awake18_calls _).mono ?_
      rintro e w2 ⟨rfl, hb2⟩
      have H2 := Lib.hid (below_seq HB1.out (Nat.le_refl _) hb2)
      clear hb2
      go_wp2
      go_ret
      exact ⟨rfl, H2.out⟩
  · go_wp2_with fail
    refine (awake18_calls _).mono ?_
    rintro e w2 ⟨rfl, hb2⟩
    have H2 := Lib.hid (below_seq HB1.out (Nat.le_refl _) hb2)
    clear hb2
    go_wp2
    go_ret
    exact ⟨rfl, H2.out⟩
theorem ActorsBack_walk (au : ByteArray) (A : Option Addr) (n cap : Nat) (L : List OpV) (B : Option Addr) (n2 c2 : Nat) (z : List Int) (cut : Int) (w : World) (hau : au.size ≤ 140737488351232) (hO : OpsAt w A n L) (hn : n ≤ maxLen) (_hc : n ≤ cap) (_hA : A = none → n = 0 ∧ cap = 0)
    (h : IsRow .u8 w B n2 c2 z) (y : n2 * 1 ≤ 140737488351232) (h2 : (Lit.int .u8 cut).wf = true) :
    Calls Try.prog 7 #[.string au, .slice A n cap, .slice B n2 c2, .int .u8 cut] w fun e w' => e = .returned (.bool true) ∧ Below w.heap.size w w' :=
  ActorsBack_calls au A n cap L B n2 c2 (z.take n2) cut w hau hO hn (isRow_bsl h).1 (isRow_bsl h).2 (by omega) (u8_of_wf h2)
end Go.Proofs.Ytekhofnfikcpnaa
