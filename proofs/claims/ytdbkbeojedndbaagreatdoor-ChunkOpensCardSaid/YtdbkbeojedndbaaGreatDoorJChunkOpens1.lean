/-
  Texts joined into one file: Laid, Laid9, AwZ, InfZ, ChunkOpens.
-/
import Derived.Test.YtdbkbeojedndbaaGreatDoorJRefCo4
import Derived.ProofKit
import Derived.LaidMore
import Derived.OpenShut
import Derived.MakeChecks
import Derived.Test.YtdbkbeojedndbaaGreatDoorJRefCo5
import Derived.Test.YtdbkbeojedndbaaGreatDoorJRefCo26
import Derived.Test.YtdbkbeojedndbaaGreatDoorJRefCo20
import Derived.Test.YtdbkbeojedndbaaGreatDoorJRefCo32
namespace Go.Proofs.YtdbkbeojedndbaaGreatDoor
open Go.RowKit

theorem pairs_of_trod {H : Type} {enc : TypeId × Value → H} {P : Program} {w : World} {base : Nat} {sp : Nat → Bool} {held : Bool} {fuel t e n : Nat} {f0 f1 : Field} {cs : List Value} {rows : List (Int × Int)} {p : List MemPlace}
  (ht : P.underlying t = some (.array n e)) (he : P.underlying e = some (.struct #[f0, f1])) (o0 : f0.offset = 0) (o1 : f1.offset = 1) (k0 : P.underlying f0.type = some (.int .i64)) (k1 : P.underlying f1.type = some (.int .i64))
  (c0 : P.cellsOf f0.type = 1) (c1 : P.cellsOf f1.type = 1) (ce : P.cellsOf e = 2)
  (h : DataW.trod enc P w base sp held fuel t cs = some (.agg (rows.map fun r => .agg [.lit (.int .i64 r.1), .lit (.int .i64 r.2)]), p)) :
  ∀ j, j < rows.length → cs[j * 2]? = some (.int .i64 (rowL rows j)) ∧ cs[j * 2 + 1]? = some (.int .i64 (rowB rows j)) := by
 obtain ⟨xs, m, rfl, hx, hlen, hn, hel⟩ := DataW.trod_array ht h
 simp only [Prod.mk.injEq, DataW.agg.injEq] at hx
 intro j hj
 have hxl : xs.length = rows.length := by have := congrArg List.length hx.1; simpa using this.symm
 have hz := hel j (by omega)
 obtain ⟨x, hxj⟩ : ∃ x, xs[j]? = some x := ⟨xs[j]'(by omega), by simp [List.getElem?_eq_getElem (show j < xs.length by omega)]⟩
 rw [hxj, ce] at hz
 obtain ⟨y0, y1, n', hxe, hl, h0, h1⟩ := ChangeShapes.trod_struct2 he hz
 obtain ⟨r0, e0, f0', _⟩ := DataW.trod_int k0 h0
 obtain ⟨r1, e1, f1', _⟩ := DataW.trod_int k1 h1
 rw [o0, c0] at e0
 rw [o1, c1] at e1
 have hx1 : x.1 = (DataW.agg [DataW.lit (.int .i64 (rowL rows j)), DataW.lit (.int .i64 (rowB rows j))] : DataW H) := by
  have := congrArg (·[j]?) hx.1
  simp only [List.getElem?_map, hxj, Option.map_some, List.getElem?_eq_getElem hj] at this
  unfold rowL rowB
  rw [List.getD_eq_getElem?_getD, List.getElem?_eq_getElem hj]
  exact (Option.some.inj this).symm
 rw [hxe, f0', f1'] at hx1
 simp at hx1
 obtain ⟨hx1, hx2⟩ := hx1
 subst hx1 hx2
 have g0 := congrArg (·[0]?) e0
 have g1 := congrArg (·[0]?) e1
 simp [List.getElem?_drop] at g0 g1
 exact ⟨g0, g1⟩

theorem gLens : Tryz.prog.globalNamed "inkwell/syms.lengths" = some 1 := by kernel_rfl
theorem gDists : Tryz.prog.globalNamed "inkwell/syms.distances" = some 2 := by kernel_rfl
theorem tLens : (Tryz.prog.globals[1]?).map (·.type) = some 153 := by kernel_rfl
theorem tDists : (Tryz.prog.globals[2]?).map (·.type) = some 154 := by kernel_rfl

theorem tabs_of_laid {W : World} (h : laidMetH Tryz.prog [("inkwell/syms.lengths", Rows.laid_inkwell_syms_lengths), ("inkwell/syms.distances", Rows.laid_inkwell_syms_distances)] W) : Tabs W := by
 rw [MakeChecks.laidMetH_plain _ _ _ (by kernel_rfl)] at h
 obtain ⟨ps, ⟨g0, t0, cs0, n0, p0, q0, hg0, ht0, hv0, hd0, ⟨g1, t1, cs1, n1, p1, q1, hg1, ht1, hv1, hd1, _, _⟩, _⟩, _, _⟩ := h
 obtain rfl := Option.some.inj (gLens.symm.trans hg0)
 obtain rfl := Option.some.inj (gDists.symm.trans hg1)
 obtain rfl := Option.some.inj (tLens.symm.trans ht0)
 obtain rfl := Option.some.inj (tDists.symm.trans ht1)
 have u0 := pairs_of_trod (rows := lens) Tryz.underlying153 Tryz.underlying152 rfl rfl Tryz.underlying3 Tryz.underlying3 (by kernel_rfl) (by kernel_rfl) (by kernel_rfl) hd0
 have u1 := pairs_of_trod (rows := dists) Tryz.underlying154 Tryz.underlying152 rfl rfl Tryz.underlying3 Tryz.underlying3 (by kernel_rfl) (by kernel_rfl) (by kernel_rfl) hd1
 refine ⟨fun j hj => ?_, fun j hj => ?_⟩
 ·have := u0 j hj
  simp only [Array.getElem?_toList] at this
  rw [World.var?_cell hg0 hv0, World.var?_cell hg0 hv0]
  exact this
 ·have := u1 j hj
  simp only [Array.getElem?_toList] at this
  rw [World.var?_cell hg1 hv1, World.var?_cell hg1 hv1]
  exact this
end Go.Proofs.YtdbkbeojedndbaaGreatDoor
namespace Go.Proofs.YtdbkbeojedndbaaGreatDoor
open Go.RowKit

def Tabs9 (w : World) : Prop := Tabs w ∧ OrdAt w
theorem tabs9_of_laid {W : World} (h : laidMetH Tryz.prog [("inkwell/syms.lengths", Rows.laid_inkwell_syms_lengths), ("inkwell/syms.distances", Rows.laid_inkwell_syms_distances), ("inkwell/codes.order", Rows.laid_inkwell_codes_order)] W) : Tabs9 W := by
 rw [MakeChecks.laidMetH_plain _ _ _ (by kernel_rfl)] at h
 obtain ⟨ps, ⟨g0, t0, cs0, n0, p0, q0, hg0, ht0, hv0, hd0, ⟨g1, t1, cs1, n1, p1, q1, hg1, ht1, hv1, hd1, ⟨g2, t2, cs2, n2, p2, q2, hg2, ht2, hv2, hd2, _, _⟩, _⟩, _⟩, _, _⟩ := h
 obtain rfl := Option.some.inj (gLens.symm.trans hg0)
 obtain rfl := Option.some.inj (gDists.symm.trans hg1)
 obtain rfl := Option.some.inj (gOrd.symm.trans hg2)
 obtain rfl := Option.some.inj (tLens.symm.trans ht0)
 obtain rfl := Option.some.inj (tDists.symm.trans ht1)
 obtain rfl := Option.some.inj (tOrd.symm.trans ht2)
 have u0 := pairs_of_trod (rows := lens) Tryz.underlying153 Tryz.underlying152 rfl rfl Tryz.underlying3 Tryz.underlying3 (by kernel_rfl) (by kernel_rfl) (by kernel_rfl) hd0
 have u1 := pairs_of_trod (rows := dists) Tryz.underlying154 Tryz.underlying152 rfl rfl Tryz.underlying3 Tryz.underlying3 (by kernel_rfl) (by kernel_rfl) (by kernel_rfl) hd1
 have u2 := ints_of_trod (nums := ordI) Tryz.underlying107 Tryz.underlying3 (by kernel_rfl) hd2
 refine ⟨⟨fun j hj => ?_, fun j hj => ?_⟩, fun j hj => ?_⟩
 ·have := u0 j hj
  simp only [Array.getElem?_toList] at this
  rw [World.var?_cell hg0 hv0, World.var?_cell hg0 hv0]
  exact this
 ·have := u1 j hj
  simp only [Array.getElem?_toList] at this
  rw [World.var?_cell hg1 hv1, World.var?_cell hg1 hv1]
  exact this
 ·have := u2 j hj
  simp only [Array.getElem?_toList] at this
  rw [World.var?_cell hg2 hv2, this, rd_ordI j hj]
theorem row_none {w : World} {k : IntKind} {A : Option Addr} {len cap : Nat} {zs : List Int} (hz : IsRow k w A len cap zs) : A = none → len = 0 ∧ cap = 0 := by
 intro e
 rcases hz with ⟨_, h1, h2, _⟩ | ⟨x, rfl, _⟩
 ·exact ⟨h1, h2⟩
 ·cases e
theorem row_cap {w : World} {k : IntKind} {A : Option Addr} {len cap : Nat} {zs : List Int} (hz : IsRow k w A len cap zs) : len ≤ cap := by
 rcases hz with ⟨_, h1, h2, _⟩ | ⟨x, rfl, h, _⟩
 ·omega
 ·exact h
end Go.Proofs.YtdbkbeojedndbaaGreatDoor
namespace Go.Proofs.YtdbkbeojedndbaaGreatDoor
open Go.RowKit

theorem isRow_byte {w : World} {a : Option Addr} {len cap : Nat} {zs : List Int} (h : IsRow .u8 w a len cap zs) : ∀ x ∈ zs.take len, 0 ≤ x ∧ x ≤ 255 := all_of_rd (fun j hj => h.u8 j (by rw [← h.rd.1]; exact hj))
theorem packK_nil : packK [] = (1, []) := packK_neg (by simp)
set_option maxHeartbeats 1000000 in set_option maxRecDepth 100000 in
theorem awakeZ_calls (w : World) (hT : Tabs9 w) : Calls Tryz.prog 4 #[] w fun e w' => e = .returned (.bool true) ∧ Below w.heap.size w w' := by
 have HT := Lib.hid hT
 clear hT
 go_enter Tryz.func4, Tryz.ntmps4
 go_wp2_with fail
 refine (ChPack_calls none 0 0 [] w ⟨rfl, fun h => by omega⟩ (fun x hx => by cases hx) (fun _ => ⟨rfl, rfl⟩) (by omega) (by omega) HT.out.1 HT.out.2).mono ?_
 rintro e w1 ⟨A1, n1, c1, rfl, HO1, hb1⟩
 rw [packK_nil] at HO1 ⊢
 have h0 : n1 = 0 := by have := HO1.out.1; simpa [ints] using this.symm
 subst h0
 have HB1 := Lib.hid hb1
 clear hb1 HO1
 go_wp2
 go_ret
 exact ⟨rfl, HB1.out.alloc HB1.out.size _⟩
end Go.Proofs.YtdbkbeojedndbaaGreatDoor
namespace Go.Proofs.YtdbkbeojedndbaaGreatDoor
open Go.RowKit

def AllB (l : List Int) : Prop := ∀ x ∈ l, 0 ≤ x ∧ x ≤ 255
theorem iter_open_less {bs : List Int} {T : Nat} {most m : Int} : ∀ {f q q' : Nat} {o o' : List Int}, (o.length : Int) ≤ m → iter (openStep bs T most) f (q, o) = some (.ok (q', o')) → ((o'.length : Int) ≤ m) ∨ iter (openStep bs T m) f (q, o) = some (.error 4) := by
 intro f
 induction f with
 | zero => intro q q' o o' _ h; cases h
 | succ f ih =>
  intro q q' o o' ho h
  by_cases h3 : T < q + 3
  ·rw [iter_inr (step_short h3)] at h; cases h
  ·cases hb : blockS bs T most (numAt bs (q + 1) 2) (q + 3) o with
   | error c => rw [iter_inr (step_err (by omega) hb)] at h; cases h
   | ok r =>
    obtain ⟨q1, o1⟩ := r
    rcases block_less (m := m) hb with ⟨h1, h2⟩ | h1
    ·have ho1 : (o1.length : Int) ≤ m := by
      rcases h2 with h2 | h2
      ·exact h2
      ·rw [h2]; exact ho
     by_cases hl : numAt bs q 1 = 0
     ·rw [iter_inl (step_next (by omega) hl hb)] at h
      rw [iter_inl (step_next (by omega) hl h1)]
      exact ih ho1 h
     ·rw [iter_inr (step_last (by omega) hl hb)] at h
      cases h
      exact .inl ho1
    ·exact .inr (iter_inr (step_err (by omega) h1) f)
theorem open_room {bs : List Int} {most m : Int} {q : Nat} {b : List Int} (hm : 0 ≤ m) (h : openS bs most = .ok (q, b)) : ((b.length : Int) ≤ m) ∨ openS bs m = .error 4 := by
 unfold openS at h
 cases hi : iter (openStep bs (8 * bs.length) most) (8 * bs.length + 1) (0, []) with
 | none => rw [hi] at h; cases h
 | some r =>
  rw [hi] at h
  have e : r = .ok (q, b) := h
  subst e
  rcases iter_open_less (m := m) (by simpa using hm) hi with h1 | h1
  ·exact .inl h1
  ·right
   unfold openS
   rw [h1]
   rfl
theorem AllB.app {a b : List Int} (ha : AllB a) (hb : AllB b) : AllB (a ++ b) := fun x hx => (List.mem_append.1 hx).elim (ha x) (hb x)
theorem AllB.rd {l : List Int} (h : AllB l) {j : Nat} (hj : j < l.length) : 0 ≤ rd l j ∧ rd l j ≤ 255 := by
 rw [rd_getElem hj]
 exact h _ (List.getElem_mem _)
theorem copyT_byte {d : Nat} (hd : 1 ≤ d) : ∀ n {o : List Int}, d ≤ o.length → AllB o → AllB (copyT d n o) := by
 intro n
 induction n with
 | zero => intro o _ h; exact h
 | succ n ih =>
  intro o hdo h
  rw [copyT]
  refine ih (by rw [List.length_append]; omega) (h.app (fun x hx => ?_))
  have : x = Go.Proofs.YtdbkbeojedndbaaGreatDoor.rd o (o.length - d) := by simpa using hx
  rw [this]
  exact h.rd (by omega)
theorem addR_byte {most b l d : Int} {q q' : Nat} {o o' : List Int} (hb : l = 0 → 0 ≤ b ∧ b ≤ 255) (ho : AllB o) (h : addR most b l d q o = .ok (q', o')) : AllB o' := by
 unfold addR at h
 cases ha : addS most b l d o with
 | error e => rw [ha] at h; cases h
 | ok o2 =>
  rw [ha] at h
  cases h
  obtain ⟨hr, rfl⟩ := addS_is ha
  unfold addT
  split
  ·rename_i h0
   exact ho.app (fun x hx => by
    have : x = b := by simpa using hx
    rw [this]
    exact hb h0)
  ·rename_i h0
   unfold rightT at hr
   rw [if_neg h0] at hr
   have hr2 := of_decide_eq_true hr
   exact copyT_byte (by omega) _ (by omega) ho
theorem distL_byte {bs : List Int} {T : Nat} {most L least : Int} {nb q q' : Nat} {o o' : List Int} (hL : L ≠ 0) (ho : AllB o) (h : distL bs T most L least nb q o = .ok (q', o')) : AllB o' := by
 unfold distL at h
 split at h
 ·cases h
 ·exact addR_byte (fun e => absurd e hL) ho h
theorem distS_byte {bs : List Int} {T : Nat} {most L : Int} {ys : List Int} {q q' : Nat} {o o' : List Int} (hL : L ≠ 0) (ho : AllB o) (h : distS bs T most ys L q o = .ok (q', o')) : AllB o' := by
 unfold distS at h
 split at h
 ·cases h
 ·split at h
  ·cases h
  ·split at h
   ·cases h
   ·exact distL_byte hL ho h
theorem matchS_byte {bs : List Int} {T : Nat} {most : Int} {ys : List Int} {s q q' : Nat} {o o' : List Int} (ho : AllB o) (h : matchS bs T most ys s q o = .ok (q', o')) : AllB o' := by
 unfold matchS at h
 split at h
 ·cases h
 ·rename_i hs
  have hl := lens_rng (s - 257) (by omega)
  unfold matchL at h
  split at h
  ·cases h
  ·exact distS_byte (by omega) ho h
theorem code_byte_inl {bs : List Int} {T : Nat} {most : Int} {xs ys : List Int} {q q2 : Nat} {o o2 : List Int} (ho : AllB o) (h : codeStep bs T most xs ys (q, o) = .inl (q2, o2)) : AllB o2 := by
 cases hs : symN xs bs T q with
 | error e => rw [code_err hs] at h; cases h
 | ok p =>
  obtain ⟨s, q1⟩ := p
  by_cases h256 : s = 256
  ·subst h256; rw [code_end hs] at h; cases h
  ·by_cases hlo : s < 256
   ·cases ha : addR most s 0 0 q1 o with
    | error e => rw [code_lit_err hs hlo ha] at h; cases h
    | ok p =>
     obtain ⟨q3, o3⟩ := p
     rw [code_lit_ok hs hlo ha] at h
     cases h
     exact addR_byte (fun _ => by omega) ho ha
   ·cases ha : matchS bs T most ys s q1 o with
    | error e => rw [code_match_err hs (by omega) ha] at h; cases h
    | ok p =>
     obtain ⟨q3, o3⟩ := p
     rw [code_match_ok hs (by omega) ha] at h
     cases h
     exact matchS_byte ho ha
theorem code_byte {bs : List Int} {T : Nat} {most : Int} {xs ys : List Int} : ∀ {f q q2 : Nat} {o o2 : List Int}, AllB o → iter (codeStep bs T most xs ys) f (q, o) = some (.ok (q2, o2)) → AllB o2 := by
 intro f
 induction f with
 | zero => intro q q2 o o2 _ h; cases h
 | succ f ih =>
  intro q q2 o o2 ho h
  cases hs : codeStep bs T most xs ys (q, o) with
  | inr r =>
   rw [iter_inr hs] at h
   cases h
   rw [(codeStep_inr hs).2]
   exact ho
  | inl s' =>
   obtain ⟨q1, o1⟩ := s'
   rw [iter_inl hs] at h
   exact ih (code_byte_inl ho hs) h
theorem coded_byte {bs : List Int} {T : Nat} {most : Int} {xs ys : List Int} {q q2 : Nat} {o o2 : List Int} (ho : AllB o) (h : codedS bs T most xs ys q o = .ok (q2, o2)) : AllB o2 := by
 unfold codedS at h
 split at h
 ·cases h
 ·split at h
  ·cases h
  ·cases hi : iter (codeStep bs T most xs ys) (T + 1) (q, o) with
   | none => rw [hi] at h; cases h
   | some r =>
    rw [hi] at h
    have e : r = .ok (q2, o2) := h
    subst e
    exact code_byte ho hi
theorem block_byte {bs : List Int} {T : Nat} {most : Int} {k q q2 : Nat} {o o2 : List Int} (hbs : AllB bs) (ho : AllB o) (h : blockS bs T most k q o = .ok (q2, o2)) : AllB o2 := by
 unfold blockS at h
 split at h
 ·unfold storedS at h
  split at h
  ·cases h
  ·split at h
   ·cases h
   ·split at h
    ·cases h
    ·split at h
     ·cases h
     ·cases h
      exact ho.app (fun x hx => hbs x (List.mem_of_mem_drop (List.mem_of_mem_take hx)))
 ·split at h
  ·exact coded_byte ho h
  ·split at h
   ·split at h
    ·cases h
    ·exact coded_byte ho h
   ·cases h
theorem iter_open_byte {bs : List Int} {T : Nat} {most : Int} (hbs : AllB bs) : ∀ {f q q' : Nat} {o o' : List Int}, AllB o → iter (openStep bs T most) f (q, o) = some (.ok (q', o')) → AllB o' := by
 intro f
 induction f with
 | zero => intro q q' o o' _ h; cases h
 | succ f ih =>
  intro q q' o o' ho h
  by_cases h3 : T < q + 3
  ·rw [iter_inr (step_short h3)] at h; cases h
  ·cases hb : blockS bs T most (numAt bs (q + 1) 2) (q + 3) o with
   | error c => rw [iter_inr (step_err (by omega) hb)] at h; cases h
   | ok r =>
    obtain ⟨q1, o1⟩ := r
    have h1 := block_byte hbs ho hb
    by_cases hl : numAt bs q 1 = 0
    ·rw [iter_inl (step_next (by omega) hl hb)] at h
     exact ih h1 h
    ·rw [iter_inr (step_last (by omega) hl hb)] at h
     cases h
     exact h1
theorem open_byte {bs : List Int} {most : Int} {q : Nat} {b : List Int} (hbs : AllB bs) (h : openS bs most = .ok (q, b)) : AllB b := by
 unfold openS at h
 cases hi : iter (openStep bs (8 * bs.length) most) (8 * bs.length + 1) (0, []) with
 | none => rw [hi] at h; cases h
 | some r =>
  rw [hi] at h
  have e : r = .ok (q, b) := h
  subst e
  exact iter_open_byte hbs (fun x hx => by cases hx) hi
end Go.Proofs.YtdbkbeojedndbaaGreatDoor
namespace Go.Proofs.YtdbkbeojedndbaaGreatDoor
open Go.RowKit

theorem body_small {cs b : List Int} (hcs : AllB cs) (h4 : openS cs 2700 ≠ .error 4) (h : bodyK 2 cs = some b) : b.length ≤ 100000 ∧ AllB b := by
 unfold bodyK at h
 rw [if_pos rfl] at h
 cases ho : openS cs 1048576 with
 | error c => rw [ho] at h; cases h
 | ok p =>
  obtain ⟨q, o⟩ := p
  rw [ho] at h
  have h2 : (if (q + 7) / 8 = cs.length then some o else none) = some b := h
  split at h2
  ·cases h2
   rcases open_room (m := 2700) (by omega) ho with h3 | h3
   ·exact ⟨by omega, open_byte hcs ho⟩
   ·exact absurd h3 h4
  ·cases h2
set_option maxHeartbeats 2000000 in
set_option maxRecDepth 100000 in
theorem ChunkOpens_calls (A : Option Addr) (len cap : Nat) (bs : List Int) (pr : Bool) (w : World) (hR : Rd w .u8 A len bs) (hb : ∀ x ∈ bs, 0 ≤ x ∧ x ≤ 255) (hA : A = none → len = 0 ∧ cap = 0) (hcap : len ≤ cap) (hlen : len ≤ 140737488351232) (hL : Tabs9 w) :
  Calls Tryz.prog 3 #[.slice A len cap, .bool pr] w fun e w' => e = .returned (.bool true) ∧ Below w.heap.size w w' := by
 have HA := Lib.hid hA
 have HT := Lib.hid hL
 have HR := Lib.hid hR
 have Hb := Lib.hid hb
 have Hl := Lib.hid hR.1
 clear hR hb hL hA
 go_enter Tryz.func3, Tryz.ntmps3
 go_wp2_with fail
 refine (awakeZ_calls _ HT.out).mono ?_
 rintro e w1 ⟨rfl, hb1⟩
 have HB1 := Lib.hid hb1
 clear hb1
 by_cases hle : len ≤ 900
 ·cases pr
  ·have Hsz : Hid (∀ b, bodyK 1 bs = some b → b.length ≤ 100000 ∧ ∀ x ∈ b, 0 ≤ x ∧ x ≤ 255) := Lib.hid (fun b h => by
    cases h
    exact ⟨by rw [Hl.out]; omega, Hb.out⟩)
   go_wp2_with fail
   refine (ChOpen_calls 1 A len cap bs _ (.inl rfl) (HR.out.below HB1.out) HA.out hcap Hb.out (by omega) Hsz.out (HT.out.1.below HB1.out) (fun j hj => kept_cell HB1.out (HT.out.2 j hj))).mono ?_
   rintro e w3 ⟨Hx, hb3⟩
   have HB3 := Lib.hid (below_seq HB1.out (Nat.le_refl _) hb3)
   clear hb3
   rcases Hx.out with ⟨b, v, hop, rfl, ho⟩ | ⟨hop, rfl⟩
   ·obtain ⟨A3, c3, rfl, _, hr3⟩ := own_rd ho
    have Hr3 := Lib.hid hr3
    have Hop := Lib.hid hop
    clear Hx ho hr3 hop
    go_wp2_with fail
    refine (rChOpen_calls 1 A len cap bs _ (.inl rfl) (HR.out.below HB3.out) HA.out hcap Hb.out (by omega) Hsz.out).mono ?_
    rintro e w4 ⟨hx4, hb4⟩
    have HB4 := Lib.hid (below_seq HB3.out (Nat.le_refl _) hb4)
    rcases hx4 with ⟨b', A4, n4, c4, hop', rfl, hr4⟩ | ⟨hop', rfl⟩
    ·rw [Hop.out] at hop'
     cases hop'
     have cv1 := conv_all (c := c3) (Hr3.out.below hb4)
     have cv2 := conv_all (c := c4) hr4
     obtain ⟨sb, hsb⟩ : ∃ s, s = strOfNums b := ⟨_, rfl⟩
     rw [← hsb] at cv1 cv2
     have qC : (sb.toList == sb.toList) = true := by rw [tl_beq]; exact decide_eq_true rfl
     clear hb4 hr4 hsb
     go_wp2_with fail
     go_ret
     exact ⟨rfl, HB4.out⟩
    ·rw [Hop.out] at hop'
     cases hop'
   ·have Hop := Lib.hid hop
    clear Hx hop
    go_wp2_with fail
    refine (rChOpen_calls 1 A len cap bs _ (.inl rfl) (HR.out.below HB3.out) HA.out hcap Hb.out (by omega) Hsz.out).mono ?_
    rintro e w4 ⟨hx4, hb4⟩
    have HB4 := Lib.hid (below_seq HB3.out (Nat.le_refl _) hb4)
    rcases hx4 with ⟨b', A4, n4, c4, hop', rfl, hr4⟩ | ⟨hop', rfl⟩
    ·rw [Hop.out] at hop'
     cases hop'
    ·clear hb4
     go_wp2_with fail
     go_ret
     exact ⟨rfl, HB4.out⟩
  ·go_wp2_with fail
   refine (rOpen_calls A len cap bs 2700 _ (HR.out.below HB1.out) (fun j hj => rd_bytes Hb.out j (by rw [Hl.out]; exact hj)) (by omega) (by omega)).mono ?_
   rintro e w2 ⟨hend, hb2⟩
   have HB2 := Lib.hid (below_seq HB1.out (Nat.le_refl _) hb2)
   clear hb2
   rcases hend with ⟨ec, hec, hop, rfl⟩ | ⟨q, o, v, hop, rfl, ho⟩
   ·by_cases h4 : ec = 4
    ·subst h4
     clear hop
     go_wp2_with fail
     go_ret
     exact ⟨rfl, HB2.out⟩
    ·have h4b : ((ec : Int) == 4) = false := by simpa using h4
     have Hsz : Hid (∀ b, bodyK 2 bs = some b → b.length ≤ 100000 ∧ ∀ x ∈ b, 0 ≤ x ∧ x ≤ 255) := Lib.hid (fun b h => body_small Hb.out (by rw [hop]; intro e; cases e; exact h4 rfl) h)
     clear hop
     go_wp2_with fail
     refine (ChOpen_calls 2 A len cap bs _ (.inr rfl) (HR.out.below HB2.out) HA.out hcap Hb.out (by omega) Hsz.out (HT.out.1.below HB2.out) (fun j hj => kept_cell HB2.out (HT.out.2 j hj))).mono ?_
     rintro e w3 ⟨Hx, hb3⟩
     have HB3 := Lib.hid (below_seq HB2.out (Nat.le_refl _) hb3)
     clear hb3
     rcases Hx.out with ⟨b, v, hop, rfl, ho⟩ | ⟨hop, rfl⟩
     ·obtain ⟨A3, c3, rfl, _, hr3⟩ := own_rd ho
      have Hr3 := Lib.hid hr3
      have Hop := Lib.hid hop
      clear Hx ho hr3 hop
      go_wp2_with fail
      refine (rChOpen_calls 2 A len cap bs _ (.inr rfl) (HR.out.below HB3.out) HA.out hcap Hb.out (by omega) Hsz.out).mono ?_
      rintro e w4 ⟨hx4, hb4⟩
      have HB4 := Lib.hid (below_seq HB3.out (Nat.le_refl _) hb4)
      rcases hx4 with ⟨b', A4, n4, c4, hop', rfl, hr4⟩ | ⟨hop', rfl⟩
      ·rw [Hop.out] at hop'
       cases hop'
       have cv1 := conv_all (c := c3) (Hr3.out.below hb4)
       have cv2 := conv_all (c := c4) hr4
       obtain ⟨sb, hsb⟩ : ∃ s, s = strOfNums b := ⟨_, rfl⟩
       rw [← hsb] at cv1 cv2
       have qC : (sb.toList == sb.toList) = true := by rw [tl_beq]; exact decide_eq_true rfl
       clear hb4 hr4 hsb
       go_wp2_with fail
       go_ret
       exact ⟨rfl, HB4.out⟩
      ·rw [Hop.out] at hop'
       cases hop'
     ·have Hop := Lib.hid hop
      clear Hx hop
      go_wp2_with fail
      refine (rChOpen_calls 2 A len cap bs _ (.inr rfl) (HR.out.below HB3.out) HA.out hcap Hb.out (by omega) Hsz.out).mono ?_
      rintro e w4 ⟨hx4, hb4⟩
      have HB4 := Lib.hid (below_seq HB3.out (Nat.le_refl _) hb4)
      rcases hx4 with ⟨b', A4, n4, c4, hop', rfl, hr4⟩ | ⟨hop', rfl⟩
      ·rw [Hop.out] at hop'
       cases hop'
      ·clear hb4
       go_wp2_with fail
       go_ret
       exact ⟨rfl, HB4.out⟩
   ·have Hsz : Hid (∀ b, bodyK 2 bs = some b → b.length ≤ 100000 ∧ ∀ x ∈ b, 0 ≤ x ∧ x ≤ 255) := Lib.hid (fun b h => body_small Hb.out (by rw [hop]; intro e; cases e) h)
    obtain ⟨A2, c2, rfl⟩ := own_slice ho
    clear hop ho
    go_wp2_with fail
    refine (ChOpen_calls 2 A len cap bs _ (.inr rfl) (HR.out.below HB2.out) HA.out hcap Hb.out (by omega) Hsz.out (HT.out.1.below HB2.out) (fun j hj => kept_cell HB2.out (HT.out.2 j hj))).mono ?_
    rintro e w3 ⟨Hx, hb3⟩
    have HB3 := Lib.hid (below_seq HB2.out (Nat.le_refl _) hb3)
    clear hb3
    rcases Hx.out with ⟨b, v, hop, rfl, ho⟩ | ⟨hop, rfl⟩
    ·obtain ⟨A3, c3, rfl, _, hr3⟩ := own_rd ho
     have Hr3 := Lib.hid hr3
     have Hop := Lib.hid hop
     clear Hx ho hr3 hop
     go_wp2_with fail
     refine (rChOpen_calls 2 A len cap bs _ (.inr rfl) (HR.out.below HB3.out) HA.out hcap Hb.out (by omega) Hsz.out).mono ?_
     rintro e w4 ⟨hx4, hb4⟩
     have HB4 := Lib.hid (below_seq HB3.out (Nat.le_refl _) hb4)
     rcases hx4 with ⟨b', A4, n4, c4, hop', rfl, hr4⟩ | ⟨hop', rfl⟩
     ·rw [Hop.out] at hop'
      cases hop'
      have cv1 := conv_all (c := c3) (Hr3.out.below hb4)
      have cv2 := conv_all (c := c4) hr4
      obtain ⟨sb, hsb⟩ : ∃ s, s = strOfNums b := ⟨_, rfl⟩
      rw [← hsb] at cv1 cv2
      have qC : (sb.toList == sb.toList) = true := by rw [tl_beq]; exact decide_eq_true rfl
      clear hb4 hr4 hsb
      go_wp2_with fail
      go_ret
      exact ⟨rfl, HB4.out⟩
     ·rw [Hop.out] at hop'
      cases hop'
    ·have Hop := Lib.hid hop
     clear Hx hop
     go_wp2_with fail
     refine (rChOpen_calls 2 A len cap bs _ (.inr rfl) (HR.out.below HB3.out) HA.out hcap Hb.out (by omega) Hsz.out).mono ?_
     rintro e w4 ⟨hx4, hb4⟩
     have HB4 := Lib.hid (below_seq HB3.out (Nat.le_refl _) hb4)
     rcases hx4 with ⟨b', A4, n4, c4, hop', rfl, hr4⟩ | ⟨hop', rfl⟩
     ·rw [Hop.out] at hop'
      cases hop'
     ·clear hb4
      go_wp2_with fail
      go_ret
      exact ⟨rfl, HB4.out⟩
 ·go_wp2_with fail
  refine (awakeZ_calls _ ⟨HT.out.1.below HB1.out, fun j hj => kept_cell HB1.out (HT.out.2 j hj)⟩).mono ?_
  rintro e w2 ⟨rfl, hb2⟩
  have H2 := Lib.hid (below_seq HB1.out (Nat.le_refl _) hb2)
  clear hb2
  go_wp2_with fail
  go_ret
  exact ⟨rfl, H2.out⟩
theorem ChunkOpens_walk (A : Option Addr) (len cap : Nat) (z : List Int) (pr : Bool) (w : World) (h : IsRow .u8 w A len cap z) (y : len * 1 ≤ 140737488351232) (hL : Tabs9 w) :
  Calls Tryz.prog 3 #[.slice A len cap, .bool pr] w fun e w' => e = .returned (.bool true) ∧ Below w.heap.size w w' :=
 ChunkOpens_calls A len cap (z.take len) pr w h.rd (isRow_byte h) (isRow_nil h) (isRow_le h) (by omega) hL
end Go.Proofs.YtdbkbeojedndbaaGreatDoor
