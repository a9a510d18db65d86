/-
  Texts joined into one file: Wts, BitsP, Bits, A, BitsN, RdA, Ref01.
-/
import Derived.Test.YtkjoncllnlmdgaaDoorJAw91
import Derived.Test.YtkjoncllnlmdgaaDoorJAw92
import Derived.Deep.RegionHeld3
import Derived.BigQuiet
import Derived.IntWalk
import Derived.WalkSmall
import Derived.Laws.Bits64b
import Derived.Deep.RegionWith
import Derived.Laws.AppendOwnNone
/-
  SymsWeighs: how often symbols are met.
-/
namespace Go.Proofs.YtkjoncllnlmdgaaDoor
open Go.RowKit

/-- May the token stand somewhere? -/
def tokOk (l b d : Int) : Bool := (l == 0 && d == 0) || (b == 0 && (decide (2 < l) && (decide (l < 259) && (decide (0 < d) && decide (d < 32769)))))
def symA (l b : Int) : Int := if l = 0 then b else symS 257 lens l
def cntA (ts : List Tok) (j : Nat) : Int := ((ts.filter fun t => decide (symA t.2.1 t.1 = j)).length : Nat)
def cntD (ts : List Tok) (j : Nat) : Int := ((ts.filter fun t => decide (t.2.1 ≠ 0 ∧ symS 0 dists t.2.2 = j)).length : Nat)
theorem take_tok (ts : List Tok) (k : Nat) (h : k < ts.length) : ts.take (k + 1) = ts.take k ++ [(tokB ts k, tokL ts k, tokD ts k)] := by
  have e : ts[k] = (tokB ts k, tokL ts k, tokD ts k) := by simp [tokB, tokL, tokD, List.getD_eq_getElem?_getD, List.getElem?_eq_getElem h]
  rw [List.take_succ_eq_append_getElem h, e]
theorem filt_next (p : Tok → Bool) (l : List Tok) (x : Tok) : ((((l ++ [x]).filter p).length : Nat) : Int) = ((l.filter p).length : Nat) + if p x = true then 1 else 0 := by
  rw [List.filter_append, List.length_append]
  cases h : p x <;> simp [h]
theorem cntA_next (ts : List Tok) (k j : Nat) (h : k < ts.length) : cntA (ts.take (k + 1)) j = cntA (ts.take k) j + if symA (tokL ts k) (tokB ts k) = j then 1 else 0 := by
  rw [take_tok ts k h]
  unfold cntA
  rw [filt_next]
  simp only [decide_eq_true_eq]
theorem cntD_next (ts : List Tok) (k j : Nat) (h : k < ts.length) : cntD (ts.take (k + 1)) j = cntD (ts.take k) j + if tokL ts k ≠ 0 ∧ symS 0 dists (tokD ts k) = j then 1 else 0 := by
  rw [take_tok ts k h]
  unfold cntD
  rw [filt_next]
  simp only [decide_eq_true_eq]
theorem cntA_le (ts : List Tok) (k j : Nat) : 0 ≤ cntA (ts.take k) j ∧ cntA (ts.take k) j ≤ k := by
  have h1 := List.length_filter_le (fun t : Tok => decide (symA t.2.1 t.1 = j)) (ts.take k)
  have h2 := List.length_take_le k ts
  unfold cntA
  omega
theorem cntD_le (ts : List Tok) (k j : Nat) : 0 ≤ cntD (ts.take k) j ∧ cntD (ts.take k) j ≤ k := by
  have h1 := List.length_filter_le (fun t : Tok => decide (t.2.1 ≠ 0 ∧ symS 0 dists t.2.2 = j)) (ts.take k)
  have h2 := List.length_take_le k ts
  unfold cntD
  omega
theorem cntA_zero (ts : List Tok) (j : Nat) : cntA (ts.take 0) j = 0 := rfl
theorem cntD_zero (ts : List Tok) (j : Nat) : cntD (ts.take 0) j = 0 := rfl
theorem tokOk_cases {l b d : Int} (h : tokOk l b d = true) : (l = 0 ∧ d = 0) ∨ (b = 0 ∧ 3 ≤ l ∧ l ≤ 258 ∧ 1 ≤ d ∧ d ≤ 32768) := by
  unfold tokOk at h
  simp at h
  omega

theorem symField0 (x y z : Int) (w : World) : Sem.run Tryd.prog (Instr.field 122 (.agg #[.int .i64 x, .int .i64 y, .int .u64 z]) 0) w = .ok (.int .i64 x) w := by
  have h := run_underlying (w := w) Tryd.underlying122
  simp [Instr.field, h]
  go_simp
  simp [asAgg]
theorem rd_replicate (n j : Nat) : rd (List.replicate n 0) j = 0 := by
  unfold rd
  rw [List.getD_eq_getElem?_getD, List.getElem?_replicate]
  split <;> rfl
theorem symA_zero (b : Int) : symA 0 b = b := if_pos rfl
theorem symA_some {l : Int} (b : Int) (h : 3 ≤ l) : symA l b = symS 257 lens l := if_neg (by omega)
/-- One more at p. -/
theorem count_next {l : List Int} {n p : Nat} {f g : Nat → Int} (hl : l.length = n) (hp : p < n) (h : ∀ j, j < n → rd l j = f j) (hg : ∀ j, j < n → g j = f j + if (p : Int) = j then 1 else 0) : ∀ j, j < n → rd (l.set p (rd l p + 1)) j = g j := by
  intro j hj
  rw [rd_set (by omega), hg j hj]
  by_cases e : p = j
  · subst e
    rw [if_pos rfl, if_pos rfl, h p hj]
  · rw [if_neg e, if_neg (by omega), h j hj]
    omega

set_option maxHeartbeats 2000000 in
set_option maxRecDepth 100000 in
theorem Weights_calls (A : Option Addr) (n c : Nat) (ts : List Tok) (w : World) (hK : Toks w A n ts) (hn : n ≤ 100000) (hwf : TokWf ts n) (hok : ∀ j, j < n → tokOk (tokL ts j) (tokB ts j) (tokD ts j) = true) (hT : Tabs w) :
    Calls Tryd.prog 56 #[.slice A n c] w fun e w' => ∃ (ga gb : Nat) (la lb : List Int), e = .returned (.tuple #[.slice (some ⟨ga, 0, none⟩) 286 286, .slice (some ⟨gb, 0, none⟩) 30 30]) ∧
      w'.ownsRow w.heap.size 3 1 (.slice (some ⟨ga, 0, none⟩) 286 286) 286 (ints .i64 la) ∧ w'.ownsRow w.heap.size 3 1 (.slice (some ⟨gb, 0, none⟩) 30 30) 30 (ints .i64 lb) ∧
      Hid (∀ j, j < 286 → rd la j = cntA ts j + if 256 = j then 1 else 0) ∧ Hid (∀ j, j < 30 → rd lb j = cntD ts j) ∧ Below w.heap.size w w' := by
  have Hlen := Lib.hid hK.1
  have HK := Lib.hid hK
  have Hwf := Lib.hid hwf
  have Hok := Lib.hid hok
  have HT := Lib.hid hT
  clear hK hwf hok hT
  have hF := symField0
  go_enter Tryd.func56, Tryd.ntmps56
  go_upto_region 1 with fail
  go_cut [4, 5] from 8 to 9 (fun a b wx => ∃ ga gb, ga ≠ gb ∧ a = .slice (some ⟨ga, 0, none⟩) 286 286 ∧ b = .slice (some ⟨gb, 0, none⟩) 30 30 ∧ (∃ la, Hid (∀ j, rd la j = 0) ∧ wx.ownsRow w.heap.size 3 1 a 286 (ints .i64 la)) ∧ (∃ lb, Hid (∀ j, rd lb j = 0) ∧ wx.ownsRow w.heap.size 3 1 b 30 (ints .i64 lb)) ∧ Below w.heap.size w wx)
  case first =>
    obtain ⟨oA, la, mA, lA, rA⟩ := make_rule elIntF 286 286 rfl (by decide)
    obtain ⟨oB, lb, mB, lB, rB⟩ := make_rule elIntF 30 30 rfl (by decide)
    have zA : Hid (∀ j, rd la j = 0) := fun j => by rw [lA.out]; exact rd_replicate _ _
    have zB : Hid (∀ j, rd lb j = 0) := fun j => by rw [lB.out]; exact rd_replicate _ _
    clear lA lB
    go_wp2
    go_region
    · go_wp2
      go_meet
      exact ⟨w.heap.size, w.heap.size + 1, by omega, by simp, by simp, ⟨la, zA, (rA.out w.drew _ _ rfl (Nat.le_refl _)).alloc _⟩, ⟨lb, zB, rB.out (w.drew.alloc oA) _ _ (by simp) (by omega)⟩, below_new (below_new (Below.refl _ _).drew (Nat.le_refl _) _) (Nat.le_refl _) _⟩
    · go_wp2
      go_meet
      exact ⟨w.heap.size + 1, w.heap.size, by omega, by simp, by simp, ⟨la, zA, rA.out (w.drew.alloc oB) _ _ (by simp) (by omega)⟩, ⟨lb, zB, (rB.out w.drew _ _ rfl (Nat.le_refl _)).alloc _⟩, below_new (below_new (Below.refl _ _).drew (Nat.le_refl _) _) (Nat.le_refl _) _⟩
  case rest =>
    obtain ⟨ga, gb, hne, rfl, rfl, ⟨la, zA, hownA⟩, ⟨lb, zB, hownB⟩, hb⟩ := hcut
    have HA := Lib.hid hownA
    have HB := Lib.hid hownB
    have Hb := Lib.hid hb
    clear hownA hownB hb
    go_wp2
    go_loopw [12] (fun i wr => ∃ (k : Nat) (la lb : List Int), k ≤ n ∧ i = .int .i64 k ∧ wr.ownsRow w.heap.size 3 1 (.slice (some ⟨ga, 0, none⟩) 286 286) 286 (ints .i64 la) ∧ wr.ownsRow w.heap.size 3 1 (.slice (some ⟨gb, 0, none⟩) 30 30) 30 (ints .i64 lb) ∧ Hid (∀ j, j < 286 → rd la j = cntA (ts.take k) j) ∧ Hid (∀ j, j < 30 → rd lb j = cntD (ts.take k) j) ∧ Below w.heap.size w wr) (fun i _ => n - (intOf i).toNat)
    case atStart => exact ⟨0, la, lb, by omega, rfl, HA.out, HB.out, (fun j _ => zA.out j), (fun j _ => zB.out j), Hb.out⟩
    case round =>
      obtain ⟨k, la, lb, hk, rfl, hA, hB, Hla, Hlb, hbel⟩ := hrel
      have hga := (hA.lt ga rfl).1
      have hgb := (hB.lt gb rfl).1
      have hga2 := (hA.lt ga rfl).2
      have hgb2 := (hB.lt gb rfl).2
      have hll : la.length = 286 := by have := hA.1; simpa [ints] using this
      have hlb : lb.length = 30 := by have := hB.1; simpa [ints] using this
      have HA := Lib.hid hA
      have HB := Lib.hid hB
      have Hbel := Lib.hid hbel
      have hsz := hbel.size
      clear hA hB hbel
      by_cases hlt : k < n
      · obtain ⟨b, o, rfl, hc⟩ := HK.out.2 (by omega)
        obtain ⟨z0, z1, z2⟩ := hc k hlt
        have z0 := kept_cell Hbel.out z0
        have z1 := kept_cell Hbel.out z1
        have z2 := kept_cell Hbel.out z2
        have hw := Hwf.out k hlt
        have hca := fun j => cntA_next ts k j (by rw [Hlen.out]; exact hlt)
        have hcd := fun j => cntD_next ts k j (by rw [Hlen.out]; exact hlt)
        clear hc
        rcases tokOk_cases (Hok.out k hlt) with ⟨hl, hd⟩ | ⟨hb0, hl1, hl2, hd1, hd2⟩
        · rw [hl] at z1
          obtain ⟨m, hm⟩ : ∃ m : Nat, tokB ts k = m := ⟨(tokB ts k).toNat, by omega⟩
          rw [hm] at z0 hw
          have hm2 : m < 286 := by omega
          have hnew := Lib.hid (count_next hll hm2 Hla.out (g := fun j => cntA (ts.take (k + 1)) j) (fun j _ => by show cntA (ts.take (k + 1)) j = _; rw [hca j, hl, symA_zero, hm]))
          have hnewd : Hid (∀ j, j < 30 → rd lb j = cntD (ts.take (k + 1)) j) := fun j hj => by rw [hcd j, if_neg (fun h => h.1 hl), Hlb.out j hj, Int.add_zero]
          have hv := cntA_le ts k m
          rw [← Hla.out m hm2] at hv
          have yc := HA.out.cellAt m (by omega)
          rw [ints_get (by omega)] at yc
          have yk := kept_new yc
          have yf : ∀ o : Obj, (wr.alloc o).frozen? ⟨ga, m, none⟩ = false := fun o => (HA.out.alloc o).frozenAt m
          have Hm := Lib.hid hm
          clear hca hcd hd hl hm yc
          go_wp2
          go_roundw
          case rel =>
            exact ⟨k + 1, la.set m (rd la m + 1), lb, by omega, by go_num, by rw [ints_set]; exact ((HA.out.stored m _).1).alloc _, (ownsRow_setCell_other (a := ⟨ga, m, none⟩) HB.out (by simpa [Value.ownBlock] using hne.symm) _).alloc _, hnew, hnewd, below_new (Hbel.out.setCell (p := ⟨ga, m, none⟩) hga _) (Nat.le_refl _) _⟩
          case measure => simp [intOf]; omega
        · generalize tokB ts k = vb at *
          generalize tokL ts k = vl at *
          generalize tokD ts k = vd at *
          have hsl := symL_range vl hl1 hl2
          have hsd := symD_range vd hd1 hd2
          obtain ⟨p, hp⟩ : ∃ p : Nat, symS 257 lens vl = p := ⟨(symS 257 lens vl).toNat, by omega⟩
          obtain ⟨q, hq⟩ : ∃ q : Nat, symS 0 dists vd = q := ⟨(symS 0 dists vd).toNat, by omega⟩
          have hp2 : p < 286 := by omega
          have hq2 : q < 30 := by omega
          have hnew := Lib.hid (count_next hll hp2 Hla.out (g := fun j => cntA (ts.take (k + 1)) j) (fun j _ => by show cntA (ts.take (k + 1)) j = _; rw [hca j, symA_some _ hl1, hp]))
          have hnewd := Lib.hid (count_next hlb hq2 Hlb.out (g := fun j => cntD (ts.take (k + 1)) j) (fun j _ => by
            show cntD (ts.take (k + 1)) j = _
            rw [hcd j, hq]
            by_cases e : (q : Int) = j
            · rw [if_pos ⟨by omega, e⟩, if_pos e]
            · rw [if_neg (fun h => e h.2), if_neg e]))
          have hv := cntA_le ts k p
          rw [← Hla.out p hp2] at hv
          have hvd := cntD_le ts k q
          rw [← Hlb.out q hq2] at hvd
          have hl0 : (vl == 0) = false := by simp; omega
          have hcl : clampL vl = vl := clampL_in hl1 hl2
          have hcd2 : clampD vd = vd := clampD_in hd1 hd2
          have HCL := Lib.hid hcl
          have HCD := Lib.hid hcd2
          have HP := Lib.hid hp
          have HQ := Lib.hid hq
          clear hca hcd hcl hcd2 hp hq hsl hsd
          go_wp2_with fail
          refine (Length_calls vl _ (by omega) (by omega) (HT.out.below (below_new Hbel.out (Nat.le_refl _) _)).1).mono ?_
          rintro e w2 ⟨rfl, hb2⟩
          rw [HCL.out, HP.out]
          have t0 := (laid_kept hb2 0 _ rfl).1
          have t1 := (laid_kept hb2 1 _ rfl).1
          have t2 := (laid_kept hb2 2 _ rfl).1
          have HA2 := Lib.hid (own_below (HA.out.alloc _) hb2)
          have HB2 := Lib.hid (own_below (HB.out.alloc _) hb2)
          have Hb2 := Lib.hid (below_seq (below_new Hbel.out (Nat.le_refl _) _) (Nat.le_refl _) hb2)
          have hsz2 := hb2.size
          have yc := HA2.out.cellAt p (by omega)
          rw [ints_get (by omega)] at yc
          have yf := HA2.out.frozenAt p
          have hne1 : ga ≠ wr.heap.size := by omega
          have hne2 : wr.heap.size ≠ ga := by omega
          clear hb2
          go_wp2_with fail
          refine (Distance_calls vd _ (by omega) (by omega) (HT.out.below (Hb2.out.setCell (p := ⟨ga, p, none⟩) hga _)).2).mono ?_
          rintro e w3 ⟨rfl, hb3⟩
          rw [HCD.out, HQ.out]
          have HA3 := Lib.hid (own_below (HA2.out.stored p (.int .i64 (rd la p + 1))).1 hb3)
          have HB3 := Lib.hid (own_below (ownsRow_setCell_other (a := ⟨ga, p, none⟩) HB2.out (by simpa [Value.ownBlock] using hne.symm) (.int .i64 (rd la p + 1))) hb3)
          have Hb3 := Lib.hid (below_seq (Hb2.out.setCell (p := ⟨ga, p, none⟩) hga (.int .i64 (rd la p + 1))) (Nat.le_refl _) hb3)
          have xc := HB3.out.cellAt q (by omega)
          rw [ints_get (by omega)] at xc
          have xf := HB3.out.frozenAt q
          clear hb3
          go_wp2
          go_roundw
          case rel =>
            exact ⟨k + 1, la.set p (rd la p + 1), lb.set q (rd lb q + 1), by omega, by go_num, ownsRow_setCell_other (by rw [ints_set]; exact HA3.out) (by simpa [Value.ownBlock] using hne) _, by rw [ints_set]; exact (HB3.out.stored q _).1, hnew, hnewd, Hb3.out.setCell hgb _⟩
          case measure => simp [intOf]; omega
      · obtain rfl : k = n := by omega
        have yc := HA.out.cellAt 256 (by omega)
        rw [ints_get (by omega)] at yc
        have yf := HA.out.frozenAt 256
        have hv := cntA_le ts k 256
        rw [← Hla.out 256 (by omega)] at hv
        have htk : ts.take k = ts := List.take_of_length_le (by rw [Hlen.out]; exact Nat.le_refl _)
        rw [htk] at Hla Hlb
        have hnew := Lib.hid (count_next hll (show 256 < 286 by omega) Hla.out (g := fun j => cntA ts j + if 256 = j then 1 else 0) (fun j _ => by
          show cntA ts j + _ = _
          by_cases e : 256 = j
          · rw [if_pos e, if_pos (by omega)]
          · rw [if_neg e, if_neg (by omega)]))
        clear htk
        go_wp2
        refine bodyPost_ret (v := .tuple #[.slice (some ⟨ga, 0, none⟩) 286 286, .slice (some ⟨gb, 0, none⟩) 30 30]) (by simp [results, Tryd.results56, go_sem]) rfl ⟨ga, gb, la.set 256 (rd la 256 + 1), lb, rfl, by rw [ints_set]; exact (HA.out.stored 256 _).1, ownsRow_setCell_other HB.out (by simpa [Value.ownBlock] using hne.symm) _, hnew, Hlb, Hbel.out.setCell hga _⟩
theorem held_step {w w1 w2 : World} {a : Addr} {v : Value} (h : w1.cell? a = some v ∧ Below w.heap.size w w1) (hb : Below w1.heap.size w1 w2) : w2.cell? a = some v ∧ Below w.heap.size w w2 :=
  ⟨kept_cell hb h.1, below_seq h.2 (Nat.le_refl _) hb⟩
set_option maxHeartbeats 2000000 in
set_option maxRecDepth 100000 in
theorem rWeights_calls (A : Option Addr) (n c : Nat) (ts : List Tok) (w : World) (hK : Toks w A n ts) (hn : n ≤ 100000) (hwf : TokWf ts n) (hok : ∀ j, j < n → tokOk (tokL ts j) (tokB ts j) (tokD ts j) = true) :
    Calls Tryd.prog 60 #[.slice A n c] w fun e w' => ∃ (ga gb : Nat) (la lb : List Int), e = .returned (.tuple #[.slice (some ⟨ga, 0, none⟩) 286 286, .slice (some ⟨gb, 0, none⟩) 30 30]) ∧
      w'.ownsRow w.heap.size 3 1 (.slice (some ⟨ga, 0, none⟩) 286 286) 286 (ints .i64 la) ∧ w'.ownsRow w.heap.size 3 1 (.slice (some ⟨gb, 0, none⟩) 30 30) 30 (ints .i64 lb) ∧
      Hid (∀ j, j < 286 → rd la j = cntA ts j + if 256 = j then 1 else 0) ∧ Hid (∀ j, j < 30 → rd lb j = cntD ts j) ∧ Below w.heap.size w w' := by
  have Hlen := Lib.hid hK.1
  have HK := Lib.hid hK
  have Hwf := Lib.hid hwf
  have Hok := Lib.hid hok
  clear hK hwf hok
  go_enter Tryd.func60, Tryd.ntmps60
  go_upto_region 1 with fail
  go_cut [4, 5] from 11 to 12 (fun a b wx => ∃ ga gb, ga ≠ gb ∧ a = .slice (some ⟨ga, 0, none⟩) 286 286 ∧ b = .slice (some ⟨gb, 0, none⟩) 30 30 ∧ (∃ la, Hid (∀ j, rd la j = 0) ∧ wx.ownsRow w.heap.size 3 1 a 286 (ints .i64 la)) ∧ (∃ lb, Hid (∀ j, rd lb j = 0) ∧ wx.ownsRow w.heap.size 3 1 b 30 (ints .i64 lb)) ∧ Below w.heap.size w wx)
  case first =>
    obtain ⟨oA, la, mA, lA, rA⟩ := make_rule elIntF 286 286 rfl (by decide)
    obtain ⟨oB, lb, mB, lB, rB⟩ := make_rule elIntF 30 30 rfl (by decide)
    have zA : Hid (∀ j, rd la j = 0) := fun j => by rw [lA.out]; exact rd_replicate _ _
    have zB : Hid (∀ j, rd lb j = 0) := fun j => by rw [lB.out]; exact rd_replicate _ _
    clear lA lB
    go_wp2
    go_region
    · go_wp2
      go_meet
      exact ⟨w.heap.size, w.heap.size + 1, by omega, by simp, by simp, ⟨la, zA, (rA.out w.drew _ _ rfl (Nat.le_refl _)).alloc _⟩, ⟨lb, zB, rB.out (w.drew.alloc oA) _ _ (by simp) (by omega)⟩, below_new (below_new (Below.refl _ _).drew (Nat.le_refl _) _) (Nat.le_refl _) _⟩
    · go_wp2
      go_meet
      exact ⟨w.heap.size + 1, w.heap.size, by omega, by simp, by simp, ⟨la, zA, rA.out (w.drew.alloc oB) _ _ (by simp) (by omega)⟩, ⟨lb, zB, (rB.out w.drew _ _ rfl (Nat.le_refl _)).alloc _⟩, below_new (below_new (Below.refl _ _).drew (Nat.le_refl _) _) (Nat.le_refl _) _⟩
  case rest =>
    obtain ⟨ga, gb, hne, rfl, rfl, ⟨la, zA, hownA⟩, ⟨lb, zB, hownB⟩, hb⟩ := hcut
    have hga := (hownA.lt ga rfl).1
    have hll : la.length = 286 := by have := hownA.1; simpa [ints] using this
    have yc := hownA.cellAt 256 (by omega)
    rw [ints_get (by omega)] at yc
    have yf := hownA.frozenAt 256
    have HA := Lib.hid hownA
    have HB := Lib.hid hownB
    have Hb := Lib.hid hb
    clear hownA hownB hb
    go_wp2
    go_loopw [6] (fun i wr => ∃ (k : Nat) (la lb : List Int), k ≤ n ∧ i = .int .i64 k ∧ wr.ownsRow w.heap.size 3 1 (.slice (some ⟨ga, 0, none⟩) 286 286) 286 (ints .i64 la) ∧ wr.ownsRow w.heap.size 3 1 (.slice (some ⟨gb, 0, none⟩) 30 30) 30 (ints .i64 lb) ∧ Hid (∀ j, j < 286 → rd la j = cntA (ts.take k) j + if 256 = j then 1 else 0) ∧ Hid (∀ j, j < 30 → rd lb j = cntD (ts.take k) j) ∧ Below w.heap.size w wr) (fun i _ => n - (intOf i).toNat)
    case atStart =>
      refine ⟨0, la.set 256 1, lb, by omega, rfl, by rw [ints_set]; exact (HA.out.stored 256 _).1, ownsRow_setCell_other HB.out (by simpa [Value.ownBlock] using hne.symm) _, ?_, (fun j _ => zB.out j), Hb.out.setCell hga _⟩
      intro j hj
      rw [rd_set (by omega), zA.out j, cntA_zero]
      split <;> rfl
    case round =>
      obtain ⟨k, la, lb, hk, rfl, hA, hB, Hla, Hlb, hbel⟩ := hrel
      have hga := (hA.lt ga rfl).1
      have hgb := (hB.lt gb rfl).1
      have hga2 := (hA.lt ga rfl).2
      have hgb2 := (hB.lt gb rfl).2
      have hll : la.length = 286 := by have := hA.1; simpa [ints] using this
      have hlb : lb.length = 30 := by have := hB.1; simpa [ints] using this
      have HA := Lib.hid hA
      have HB := Lib.hid hB
      have Hbel := Lib.hid hbel
      have hsz := hbel.size
      clear hA hB hbel yc yf
      by_cases hlt : k < n
      · obtain ⟨b, o, rfl, hc⟩ := HK.out.2 (by omega)
        obtain ⟨z0, z1, z2⟩ := hc k hlt
        have z0 := kept_cell Hbel.out z0
        have z1 := kept_cell Hbel.out z1
        have z2 := kept_cell Hbel.out z2
        have hw := Hwf.out k hlt
        have hca := fun j => cntA_next ts k j (by rw [Hlen.out]; exact hlt)
        have hcd := fun j => cntD_next ts k j (by rw [Hlen.out]; exact hlt)
        clear hc
        rcases tokOk_cases (Hok.out k hlt) with ⟨hl, hd⟩ | ⟨hb0, hl1, hl2, hd1, hd2⟩
        · rw [hl] at z1
          obtain ⟨m, hm⟩ : ∃ m : Nat, tokB ts k = m := ⟨(tokB ts k).toNat, by omega⟩
          rw [hm] at z0 hw
          have hm2 : m < 286 := by omega
          have hnew := Lib.hid (count_next hll hm2 Hla.out (g := fun j => cntA (ts.take (k + 1)) j + if 256 = j then 1 else 0) (fun j _ => by show cntA (ts.take (k + 1)) j + _ = _; rw [hca j, hl, symA_zero, hm]; omega))
          have hnewd : Hid (∀ j, j < 30 → rd lb j = cntD (ts.take (k + 1)) j) := fun j hj => by rw [hcd j, if_neg (fun h => h.1 hl), Hlb.out j hj, Int.add_zero]
          have hv := cntA_le ts k m
          have hv2 : 0 ≤ rd la m ∧ rd la m ≤ k + 1 := by rw [Hla.out m hm2]; split <;> omega
          have yc := HA.out.cellAt m (by omega)
          rw [ints_get (by omega)] at yc
          have yf := HA.out.frozenAt m
          have Hm := Lib.hid hm
          clear hca hcd hd hl hm hv
          go_wp2
          go_roundw
          case rel =>
            exact ⟨k + 1, la.set m (rd la m + 1), lb, by omega, by go_num, by rw [ints_set]; exact (HA.out.stored m _).1, ownsRow_setCell_other (a := ⟨ga, m, none⟩) HB.out (by simpa [Value.ownBlock] using hne.symm) _, hnew, hnewd, Hbel.out.setCell (p := ⟨ga, m, none⟩) hga _⟩
          case measure => simp [intOf]; omega
        · generalize tokB ts k = vb at *
          generalize tokL ts k = vl at *
          generalize tokD ts k = vd at *
          have hsl := lastLe_lt lens vl lens.length (by decide)
          have hsd := lastLe_lt dists vd dists.length (by decide)
          rw [lens_length] at hsl
          rw [dists_length] at hsd
          have hp : symS 257 lens vl = 257 + (lastLe lens vl 29 : Nat) := rfl
          have hq : symS 0 dists vd = (lastLe dists vd 30 : Nat) := by unfold symS; rw [dists_length]; omega
          have hp2 : 257 + lastLe lens vl 29 < 286 := by omega
          have hnew := Lib.hid (count_next hll hp2 Hla.out (g := fun j => cntA (ts.take (k + 1)) j + if 256 = j then 1 else 0) (fun j _ => by
            show cntA (ts.take (k + 1)) j + _ = _
            rw [hca j, symA_some _ hl1, hp, Int.natCast_add]
            omega))
          have hnewd := Lib.hid (count_next hlb hsd Hlb.out (g := fun j => cntD (ts.take (k + 1)) j) (fun j _ => by
            show cntD (ts.take (k + 1)) j = _
            rw [hcd j, hq]
            by_cases e : ((lastLe dists vd 30 : Nat) : Int) = j
            · rw [if_pos ⟨by omega, e⟩, if_pos e]
            · rw [if_neg (fun h => e h.2), if_neg e]))
          have hv := cntA_le ts k (257 + lastLe lens vl 29)
          have hv2 : 0 ≤ rd la (257 + lastLe lens vl 29) ∧ rd la (257 + lastLe lens vl 29) ≤ k + 1 := by rw [Hla.out _ hp2]; split <;> omega
          have hvd := cntD_le ts k (lastLe dists vd 30)
          rw [← Hlb.out _ hsd] at hvd
          have hl0 : (vl == 0) = false := by simp; omega
          clear hca hcd hp hq hv
          obtain ⟨p, hp⟩ : ∃ p, p = lastLe lens vl 29 := ⟨_, rfl⟩
          obtain ⟨q, hq⟩ : ∃ q, q = lastLe dists vd 30 := ⟨_, rfl⟩
          have HP : Hid (lastLe lens vl 29 = p) := hp.symm
          have HQ : Hid (lastLe dists vd 30 = q) := hq.symm
          rw [← hp] at hsl hp2 hnew hv2
          rw [← hq] at hsd hnewd hvd
          clear hp hq
          have HZ2 := Lib.hid z2
          have Hw := Lib.hid hw
          have hz1 := z1
          go_upto_region 8 with fail
          go_cut [7, 8] from 38 to 47 (fun x _ wx => x = .int .i64 p ∧ Below wr.heap.size wr wx)
          case first =>
            have S0 : wr.drew.cell? ⟨b, o + k * 3 + 1, none⟩ = some (.int .i64 vl) ∧ Below wr.heap.size wr wr.drew := ⟨z1, (Below.refl _ _).drew⟩
            go_region_held3 (fun w' => w'.cell? ⟨b, o + k * 3 + 1, none⟩ = some (.int .i64 vl) ∧ Below wr.heap.size wr w')
              (first | exact S0 | exact S9 | exact S10)
              (first
              | (go_at_call 86; refine (rLengths_calls _).mono ?_; rintro e w9 ⟨v9, rfl, own9, hb9⟩; have S9 : w9.cell? ⟨b, o + k * 3 + 1, none⟩ = some (.int .i64 vl) ∧ Below wr.heap.size wr w9 := held_step (by assumption) hb9; obtain ⟨g9, c9, rfl, _, R9⟩ := rowsAt_own own9 (by decide); clear hb9)
              | (go_at_call 89; refine (rOf_calls _ lens _ 29 _ _ rfl (by omega) (by omega) (by omega) (by omega) (fun j hj => by have := lens_range j hj; omega) R9).mono ?_; rintro e w10 ⟨rfl, hb10⟩; have S10 : w10.cell? ⟨b, o + k * 3 + 1, none⟩ = some (.int .i64 vl) ∧ Below wr.heap.size wr w10 := held_step (by assumption) hb10; clear hb10))
            go_wp2
            go_meet
            exact ⟨by rw [HP.out], S10.2⟩
          case rest =>
          obtain ⟨rfl, hb5⟩ := hcut
          have z25 := kept_cell hb5 HZ2.out
          have HA5 := Lib.hid (own_below HA.out hb5)
          have HB5 := Lib.hid (own_below HB.out hb5)
          have Hb5 := Lib.hid (below_seq Hbel.out (Nat.le_refl _) hb5)
          have hsz5 := hb5.size
          clear hb5
          obtain ⟨wo, hwo⟩ : ∃ wo : World, wo = wc := ⟨_, rfl⟩
          subst hwo
          go_upto_region 9 with fail
          go_cut [9, 10] from 48 to 57 (fun x _ wx => x = .int .i64 q ∧ Below wo.heap.size wo wx)
          case first =>
            have S0 : wo.drew.cell? ⟨b, o + k * 3 + 2, none⟩ = some (.int .i64 vd) ∧ Below wo.heap.size wo wo.drew := ⟨z25, (Below.refl _ _).drew⟩
            go_region_held3 (fun w' => w'.cell? ⟨b, o + k * 3 + 2, none⟩ = some (.int .i64 vd) ∧ Below wo.heap.size wo w')
              (first | exact S0 | exact S9 | exact S10)
              (first
              | (go_at_call 87; refine (rDistances_calls _).mono ?_; rintro e w9 ⟨v9, rfl, own9, hb9⟩; have S9 : w9.cell? ⟨b, o + k * 3 + 2, none⟩ = some (.int .i64 vd) ∧ Below wo.heap.size wo w9 := held_step (by assumption) hb9; obtain ⟨g9, c9, rfl, _, R9⟩ := rowsAt_own own9 (by decide); clear hb9)
              | (go_at_call 89; refine (rOf_calls _ dists _ 30 _ _ rfl (by omega) (by omega) (by omega) (by omega) (fun j hj => by have := dists_range j hj; omega) R9).mono ?_; rintro e w10 ⟨rfl, hb10⟩; have S10 : w10.cell? ⟨b, o + k * 3 + 2, none⟩ = some (.int .i64 vd) ∧ Below wo.heap.size wo w10 := held_step (by assumption) hb10; clear hb10))
            go_wp2
            go_meet
            exact ⟨by rw [HQ.out], S10.2⟩
          case rest =>
          obtain ⟨rfl, hb6⟩ := hcut
          have HA6 := Lib.hid (own_below HA5.out hb6)
          have HB6 := Lib.hid (own_below HB5.out hb6)
          have Hb6 := Lib.hid (below_seq Hb5.out (Nat.le_refl _) hb6)
          have hsz6 := hb6.size
          clear hb6
          have yc := HA6.out.cellAt (257 + p) (by omega)
          rw [ints_get (by omega)] at yc
          have yf := HA6.out.frozenAt (257 + p)
          have xc := HB6.out.cellAt q (by omega)
          rw [ints_get (by omega)] at xc
          have xf := HB6.out.frozenAt q
          have t1 : ((257 : Int) + p).toNat = 257 + p := by omega
          have hne2 : gb ≠ ga := hne.symm
          go_wp2
          go_roundw
          case rel =>
            exact ⟨k + 1, la.set (257 + p) (rd la (257 + p) + 1), lb.set q (rd lb q + 1), by omega, by go_num,
              ownsRow_setCell_other (a := ⟨gb, q, none⟩) (by rw [ints_set]; exact (HA6.out.stored (257 + p) _).1) (by simpa [Value.ownBlock] using hne) _,
              by rw [ints_set]; exact ((ownsRow_setCell_other (a := ⟨ga, 257 + p, none⟩) HB6.out (by simpa [Value.ownBlock] using hne.symm) _).stored q _).1, hnew, hnewd, (Hb6.out.setCell (p := ⟨ga, 257 + p, none⟩) hga _).setCell (p := ⟨gb, q, none⟩) hgb _⟩
          case measure => simp [intOf]; omega
      · obtain rfl : k = n := by omega
        have htk : ts.take k = ts := List.take_of_length_le (by rw [Hlen.out]; exact Nat.le_refl _)
        rw [htk] at Hla Hlb
        clear htk
        go_wp2
        refine bodyPost_ret (v := .tuple #[.slice (some ⟨ga, 0, none⟩) 286 286, .slice (some ⟨gb, 0, none⟩) 30 30]) (by simp [results, Tryd.results60, go_sem]) rfl ⟨ga, gb, la, lb, rfl, HA.out, HB.out, Hla, Hlb, Hbel.out⟩
end Go.Proofs.YtkjoncllnlmdgaaDoor
/-
  Plain facts: and, or of numbers; bits of bytes (no program).
-/
namespace Go.Proofs.YtkjoncllnlmdgaaDoor
theorem and7_i64 (p : Nat) (hp : p < 4611686018427387904) : bits BinOp.and IntKind.i64 (p : Int) 7 = ((p % 8 : Nat) : Int) := by
  have h1 : (BitVec.ofInt 64 (p : Int)).toNat = p := by
    rw [BitVec.ofInt_natCast, BitVec.toNat_ofNat]; exact Nat.mod_eq_of_lt (by omega)
  have h2 : (BitVec.ofInt 64 (7 : Int)).toNat = 7 := by decide
  show IntKind.i64.wrap ((BitVec.ofInt 64 (p : Int) &&& BitVec.ofInt 64 (7 : Int)).toNat : Int) = _
  rw [BitVec.toNat_and, h1, h2, show (7 : Nat) = 2 ^ 3 - 1 from rfl, Nat.and_two_pow_sub_one_eq_mod]
  exact IntWalk.i64_in _ (by omega)
theorem and1_u8 (p : Nat) (hp : p < 256) : bits BinOp.and IntKind.u8 (p : Int) 1 = ((p % 2 : Nat) : Int) := by
  have h1 : (BitVec.ofInt 8 (p : Int)).toNat = p := by
    rw [BitVec.ofInt_natCast, BitVec.toNat_ofNat]; exact Nat.mod_eq_of_lt (by omega)
  have h2 : (BitVec.ofInt 8 (1 : Int)).toNat = 1 := by decide
  show IntKind.u8.wrap ((BitVec.ofInt 8 (p : Int) &&& BitVec.ofInt 8 (1 : Int)).toNat : Int) = _
  rw [BitVec.toNat_and, h1, h2, Nat.and_one_is_mod]
  exact IntWalk.u8_in _ (by omega)
theorem or_u64_top (x b k : Nat) (hx : x < 2 ^ k) (hb : b ≤ 1) (hk : k < 64) : bits BinOp.or IntKind.u64 (x : Int) ((b * 2 ^ k : Nat) : Int) = ((x + b * 2 ^ k : Nat) : Int) := by
  have hp : (2 : Nat) ^ k ≤ 2 ^ 63 := Nat.pow_le_pow_right (by omega) (by omega)
  have hp2 : (2 : Nat) ^ 63 = 9223372036854775808 := by decide
  have hb2 : b * 2 ^ k ≤ 2 ^ k := by
    have := Nat.mul_le_mul_right (2 ^ k) hb
    omega
  rw [bits_or_u64_nat x (b * 2 ^ k) (by omega) (by omega)]
  have h := Nat.two_pow_add_eq_or_of_lt hx b
  rw [Nat.mul_comm] at h
  rw [Nat.or_comm, ← h, Nat.add_comm]
end Go.Proofs.YtkjoncllnlmdgaaDoor
/-
  The walks of package bits: Reader.
-/
namespace Go.Proofs.YtkjoncllnlmdgaaDoor
open Go.RowKit

/-- A reader of these bytes, that stands at this bit. -/
def RdrAt (w : World) (r : Nat) (A : Option Addr) (len cap : Nat) (at' : Nat) : Prop := w.heap[r]? = some (.cells #[.slice A len cap, .int .i64 at'] 62 (0, 0))
theorem RdrAt.lt {w : World} {r : Nat} {A : Option Addr} {len cap at' : Nat} (h : RdrAt w r A len cap at') : r < w.heap.size := (Array.getElem?_eq_some_iff.1 h).1
theorem RdrAt.c0 {w : World} {r : Nat} {A : Option Addr} {len cap at' : Nat} (h : RdrAt w r A len cap at') : w.cell? ⟨r, 0, none⟩ = some (.slice A len cap) := by
  rw [cell_of_row w r 0 _ _ (0, 0) h]; rfl
theorem RdrAt.c1 {w : World} {r : Nat} {A : Option Addr} {len cap at' : Nat} (h : RdrAt w r A len cap at') : w.cell? ⟨r, 1, none⟩ = some (.int .i64 at') := by
  rw [cell_of_row w r 1 _ _ (0, 0) h]; rfl
theorem RdrAt.frozen {w : World} {r : Nat} {A : Option Addr} {len cap at' : Nat} (h : RdrAt w r A len cap at') (j : Nat) : w.frozen? ⟨r, j, none⟩ = false := frozen_of_row w r j _ _ h
theorem RdrAt.set {w : World} {r : Nat} {A : Option Addr} {len cap at' : Nat} (h : RdrAt w r A len cap at') (x : Nat) : RdrAt (w.setCell ⟨r, 1, none⟩ (.int .i64 x)) r A len cap x := by
  unfold RdrAt
  rw [heap_setCell_same w r 1 _ _ _ h]
  rfl
theorem RdrAt.keep {w w' : World} {r : Nat} {A : Option Addr} {len cap at' : Nat} (h : RdrAt w r A len cap at') (hb : Below w.heap.size w w') : RdrAt w' r A len cap at' := (hb.block r h.lt).trans h

set_option maxHeartbeats 1000000 in
theorem Left_calls (r : Nat) (A : Option Addr) (len cap at' : Nat) (w : World) (hR : RdrAt w r A len cap at') (hlen : len ≤ 140737488355328) (hat : at' ≤ 8 * len) :
    Calls Tryd.prog 20 #[.pointer (some ⟨r, 0, none⟩)] w fun e w' => e = .returned (.int .i64 (8 * len - at')) ∧ Below w.heap.size w w' := by
  have c0 := hR.c0
  have c1 := hR.c1
  clear hR
  have s1 : IntKind.i64.wrap (8 * (len : Int)) = 8 * len := IntWalk.i64_in _ (by omega)
  have s2 : IntKind.i64.wrap (8 * (len : Int) - at') = 8 * len - at' := IntWalk.i64_in _ (by omega)
  go_enter Tryd.func20, Tryd.ntmps20
  go_wp2
  go_quiet (fail)
  go_wp2
  go_ret
  exact ⟨rfl, (Below.refl _ _).trans ⟨rfl, rfl, rfl, Nat.le_refl _, fun _ _ => rfl⟩⟩

theorem Rd.grown {w w1 : World} {k : IntKind} {A : Option Addr} {n : Nat} {xs : List Int} (h : Rd w k A n xs) {r : Nat} (hg : w.grownBy w1 (some r)) (hne : ∀ b o, A = some ⟨b, o, none⟩ → b ≠ r) : Rd w1 k A n xs :=
  ⟨h.1, fun hn => by obtain ⟨b, o, e, hc⟩ := h.2 hn; exact ⟨b, o, e, fun j hj => hg.cell (hc j hj) (by simpa using hne b o e)⟩⟩
theorem grown_below {w w1 w2 : World} {r : Nat} (h : w.grownBy w1 (some r)) (hb : Below w1.heap.size w1 w2) : w.grownBy w2 (some r) :=
  ⟨hb.os.trans h.os, hb.tape.trans h.tape, hb.output.trans h.output, Nat.le_trans h.size hb.size, fun k hk hne => (hb.block k (Nat.lt_of_lt_of_le hk h.size)).trans (h.block k hk hne)⟩
theorem grown_set {w w1 : World} {r : Nat} (h : w.grownBy w1 (some r)) (j : Nat) (v : Value) : w.grownBy (w1.setCell ⟨r, j, none⟩ v) (some r) :=
  ⟨h.os, h.tape, h.output, by simpa using h.size, fun k hk hne => (heap_setCell_other w1 ⟨r, j, none⟩ k v (by intro e; exact hne (by rw [e]))).trans (h.block k hk hne)⟩
theorem grown_refl (w : World) (row : Option Nat) : w.grownBy w row := ⟨rfl, rfl, rfl, Nat.le_refl _, fun _ _ _ => rfl⟩
def bitAt (bs : List Int) (i : Nat) : Nat := (rd bs (i / 8)).toNat / 2 ^ (i % 8) % 2
def numAt (bs : List Int) (at' : Nat) : Nat → Nat
  | 0 => 0
  | i + 1 => numAt bs at' i + bitAt bs (at' + i) * 2 ^ i
theorem bitAt_le (bs : List Int) (i : Nat) : bitAt bs i ≤ 1 := by unfold bitAt; omega
theorem numAt_lt (bs : List Int) (at' i : Nat) : numAt bs at' i < 2 ^ i := by
  induction i with
  | zero => simp [numAt]
  | succ i ih =>
    have h := Nat.mul_le_mul_right (2 ^ i) (bitAt_le bs (at' + i))
    simp only [numAt, Nat.pow_succ]
    omega
theorem bit_step (bs : List Int) (at' k p y : Nat) (hp : p = at' + k) (hy : rd bs (p / 8) = y) (hy2 : y < 256) (hk : k < 60) :
    bits BinOp.or IntKind.u64 ((numAt bs at' k : Nat) : Int) (IntKind.u64.wrap (IntKind.u64.wrap (bits BinOp.and IntKind.u8 ((y : Int) / 2 ^ (p % 8)) 1) * 2 ^ k)) = ((numAt bs at' (k + 1) : Nat) : Int) := by
  have e1 : (y : Int) / 2 ^ (p % 8) = ((y / 2 ^ (p % 8) : Nat) : Int) := by
    rw [Int.natCast_ediv, Int.natCast_pow]
    rfl
  have hd : y / 2 ^ (p % 8) ≤ y := Nat.div_le_self _ _
  have e2 : bitAt bs p = y / 2 ^ (p % 8) % 2 := by unfold bitAt; rw [hy]; rfl
  have hb := bitAt_le bs p
  have hpow : (2 : Nat) ^ k ≤ 2 ^ 60 := Nat.pow_le_pow_right (by omega) (by omega)
  have hp60 : (2 : Nat) ^ 60 = 1152921504606846976 := by decide
  have hm : bitAt bs p * 2 ^ k ≤ 1 * 2 ^ k := Nat.mul_le_mul_right _ hb
  rw [e1, and1_u8 _ (by omega), ← e2, IntWalk.u64_in ((bitAt bs p : Nat) : Int) (by omega)]
  have e3 : ((bitAt bs p : Nat) : Int) * 2 ^ k = ((bitAt bs p * 2 ^ k : Nat) : Int) := by
    rw [Int.natCast_mul, Int.natCast_pow]
    rfl
  rw [e3, IntWalk.u64_in _ (by omega), or_u64_top _ _ _ (numAt_lt bs at' k) hb (by omega)]
  simp only [numAt, hp]
set_option maxHeartbeats 1000000 in
theorem Bits_calls (r : Nat) (A : Option Addr) (len cap at' n : Nat) (bs : List Int) (w : World) (hR : RdrAt w r A len cap at') (hB : Rd w .u8 A len bs) (hb : ∀ j, j < len → 0 ≤ rd bs j ∧ rd bs j ≤ 255) (hne : ∀ b o, A = some ⟨b, o, none⟩ → b ≠ r) (hlen : len ≤ 140737488355328) (hat : at' ≤ 8 * len) (hn : n ≤ 60) (hok : at' + n ≤ 8 * len) :
    Calls Tryd.prog 39 #[.pointer (some ⟨r, 0, none⟩), .int .i64 n] w fun e w' => e = .returned (.tuple #[(.int .u64 (numAt bs at' n : Nat)), .bool true]) ∧ RdrAt w' r A len cap (at' + n) ∧ w.grownBy w' (some r) := by
  have HR := Lib.hid hR
  have HB := Lib.hid hB
  have Hb := Lib.hid hb
  clear hR hB hb
  go_enter Tryd.func39, Tryd.ntmps39
  go_wp2_with fail
  refine (Left_calls r A len cap at' _ HR.out hlen hat).mono ?_
  rintro e w1 ⟨rfl, hb1⟩
  have HR1 := Lib.hid (HR.out.keep hb1)
  have HB1 := Lib.hid (HB.out.below hb1)
  have Hb1 := Lib.hid hb1
  clear hb1
  go_wp2
  go_loopw [6, 21] (fun x i wr => ∃ k : Nat, k ≤ n ∧ i = .int .i64 k ∧ x = .int .u64 (numAt bs at' k : Nat) ∧ RdrAt wr r A len cap (at' + k) ∧ Hid (w.grownBy wr (some r))) (fun _ i _ => n - (intOf i).toNat)
  case atStart => exact ⟨0, by omega, rfl, rfl, HR1.out, grown_below (grown_refl w _) Hb1.out⟩
  case round =>
    obtain ⟨k, hk, rfl, rfl, hR, Hg⟩ := hrel
    have HRk := Lib.hid hR
    have c0 := hR.c0
    have c1 := hR.c1
    have f1 := hR.frozen 1
    clear hR
    by_cases hlt : k < n
    · obtain ⟨b, o, rfl, hc⟩ := (HB.out.grown Hg.out hne).2 (by omega)
      obtain ⟨p, hp⟩ : ∃ p : Nat, p = at' + k := ⟨_, rfl⟩
      have Hp := Lib.hid hp
      rw [← hp] at c1
      have hj : p / 8 < len := by omega
      have z := hc _ hj
      clear hc hp
      have hbr := Hb.out _ hj
      have s1 : ((p : Int) / 8).toNat = p / 8 := by omega
      have s2 : (0 : Int) ≤ (p : Int) / 8 := by omega
      have s3 : (p : Int) / 8 < len := by omega
      obtain ⟨y, hy⟩ : ∃ y : Nat, rd bs (p / 8) = y := ⟨(rd bs (p / 8)).toNat, by omega⟩
      rw [hy] at z hbr
      have Ev := Lib.hid (bit_step bs at' k p y Hp.out hy (by omega) (by omega))
      obtain ⟨q, hq⟩ : ∃ q : Nat, q = p % 8 := ⟨_, rfl⟩
      have a1 := and7_i64 p (by omega)
      rw [← hq] at a1
      have hbit : bitAt bs p = y / 2 ^ q % 2 := by unfold bitAt; rw [hy, ← hq]; rfl
      have Hbit := Lib.hid hbit
      have hyd : y / 2 ^ q ≤ y := Nat.div_le_self _ _
      obtain ⟨u, hu⟩ : ∃ u : Nat, u = y / 2 ^ q := ⟨_, rfl⟩
      have a2 := and1_u8 u (by omega)
      have hq8 : q < 8 := by omega
      clear hbit
      go_wp2
      go_region
      rw [Ev.out]
      go_wp2
      go_roundw
      case rel =>
        refine ⟨k + 1, by omega, by go_num, rfl, ?_, grown_set (grown_below Hg.out (Below.refl _ _).drew) 1 _⟩
        have h9 : RdrAt (wr.setCell ⟨r, 1, none⟩ (.int .i64 ((p : Int) + 1))) r (some ⟨b, o, none⟩) len cap (p + 1) := HRk.out.set (p + 1)
        rw [show at' + (k + 1) = p + 1 from by rw [Hp.out]; omega]
        exact h9
      case measure => simp [intOf]; omega
    · have hkn : k = n := by omega
      rw [hkn] at HRk
      go_wp2
      refine bodyPost_ret (v := .tuple #[.int .u64 (numAt bs at' k : Nat), .bool true]) (by simp [results, Tryd.results39, go_sem]) rfl ⟨by rw [hkn], HRk.out, Hg.out⟩
set_option maxHeartbeats 1000000 in
theorem BitsShort_calls (r : Nat) (A : Option Addr) (len cap at' n : Nat) (w : World) (hR : RdrAt w r A len cap at') (hlen : len ≤ 140737488355328) (hat : at' ≤ 8 * len) (hn : n ≤ 60) (hno : 8 * len < at' + n) :
    Calls Tryd.prog 39 #[.pointer (some ⟨r, 0, none⟩), .int .i64 n] w fun e w' => e = .returned (.tuple #[.int .u64 0, .bool false]) ∧ Below w.heap.size w w' := by
  have HR := Lib.hid hR
  clear hR
  go_enter Tryd.func39, Tryd.ntmps39
  go_wp2_with fail
  refine (Left_calls r A len cap at' _ HR.out hlen hat).mono ?_
  rintro e w1 ⟨rfl, hb1⟩
  have Hb1 := Lib.hid hb1
  clear hb1
  go_wp2
  refine bodyPost_ret (v := .tuple #[.int .u64 0, .bool false]) (by simp [results, Tryd.results39, go_sem]) rfl ⟨rfl, Hb1.out⟩
end Go.Proofs.YtkjoncllnlmdgaaDoor
/-
  Append of a slice of numbers that is read.
-/
namespace Go.Proofs.YtkjoncllnlmdgaaDoor
open Go.RowKit

theorem addr_add (b o j : Nat) : (⟨b, o, none⟩ : Addr).add j = ⟨b, o + j, none⟩ := by unfold Addr.add; split <;> simp_all
theorem wpList_appRd {P : Program} {w : World} {ops : Array Oper} {rest : List Oper} {o : Oper} {a : Act} {Q : Exit → Act → World → Prop} (hgd : o.guard = none) (s x : Operand) {t : TypeId}
    (ho : o.op = .call { callee := .builtin .append, args := #[s, x], argTypes := #[t, t] })
    {base : Nat} {e : TypeId} {k : IntKind} {bytes : Nat} (El : ElT P t e (.int k 0) 1 bytes) {v : Value} {n : Nat} {ys : List Int} (hown : w.ownsRow base e 1 v n (ints k ys)) (hs : a.eval s = v)
    {A : Option Addr} {m c : Nat} {zs : List Int} (hx : a.eval x = .slice A m c) (hR : Rd w k A m zs) (hA : A = none → m = 0 ∧ c = 0) (hbytes : (n + m) * bytes ≤ 140737488355328) (hbase : base ≤ w.heap.size)
    (h : ∀ v' w', w'.ownsRow base e 1 v' (n + m) (ints k (ys ++ zs)) → w.grownBy w' v.ownBlock → wpList P ops Q rest (a.put o.dst v') w') : wpList P ops Q (o :: rest) a w := by
  obtain ⟨i0, hi, hz0, hz1, hz2⟩ := info_parts El.info
  have hn : n + m ≤ maxLen := by
    have := Nat.mul_le_mul_left (n + m) El.bpos
    unfold maxLen
    omega
  have hl := hR.1
  cases A with
  | none =>
    obtain ⟨rfl, rfl⟩ := hA rfl
    have hz : zs = [] := List.length_eq_zero_iff.1 hl
    subst hz
    refine wpList_append_own_none hgd s x t ho base e i0 1 El.und hi v n _ hs hown hx (h v w ?_ ?_)
    · simpa using hown
    · exact ⟨rfl, rfl, rfl, Nat.le_refl _, fun _ _ _ => rfl⟩
  | some ad =>
    refine wpList_append_own _ hgd s x t ho base e i0 (.int k 0) 1 bytes El.und hi hz0 hz1 hz2 El.zs El.pos v n _ hs hown ad m c (ints k zs) hx (by rw [ints_length]; omega) ?_ (fun u hu => ?_) hn hbytes hbase ?_
    · intro j u hu
      have hj : j < zs.length := by
        have := (List.getElem?_eq_some_iff.1 hu).1
        rwa [ints_length] at this
      obtain ⟨b, o', e', hc⟩ := hR.2 (by omega)
      cases e'
      rw [ints_get hj] at hu
      cases hu
      rw [addr_add]
      exact hc j (by omega)
    · unfold ints at hu
      obtain ⟨y, _, rfl⟩ := List.mem_map.1 hu
      rfl
    · intro v' w' h2 h3 _
      rw [← ints_append] at h2
      exact h v' w' h2 h3
end Go.Proofs.YtkjoncllnlmdgaaDoor
/-
  The walk of bits.New.
-/
namespace Go.Proofs.YtkjoncllnlmdgaaDoor
open Go.RowKit

theorem elU8 : ElT Tryd.prog 22 5 (.int .u8 0) 1 1 := ⟨Tryd.underlying22, by kernel_rfl, rfl, by decide, by decide⟩
theorem own_empty (w : World) (e : TypeId) : (w.alloc (.cells #[] e)).ownsRow w.heap.size e 1 (.slice (some ⟨w.heap.size, 0, none⟩) 0 0) 0 [] :=
  World.ownsRow_lit w #[] 0 (Nat.le_refl _) (by decide) rfl
set_option maxHeartbeats 1000000 in
theorem BNew_calls (A : Option Addr) (len cap : Nat) (bs : List Int) (w : World) (hB : Rd w .u8 A len bs) (hA : A = none → len = 0 ∧ cap = 0) (hlen : len ≤ 1000000) :
    Calls Tryd.prog 15 #[.slice A len cap] w fun e w' => ∃ r B c, e = .returned (.pointer (some ⟨r, 0, none⟩)) ∧ w.heap.size ≤ r ∧ RdrAt w' r B len c 0 ∧ w'.ownsRow w.heap.size 5 1 (.slice B len c) len (ints .u8 bs) ∧ Below w.heap.size w w' := by
  have HB := Lib.hid hB
  clear hB
  go_enter Tryd.func15, Tryd.ntmps15
  go_wp2_with (at_builtin; refine wpList_appRd rfl _ _ rfl elU8 (ys := []) (own_empty w _) rfl rfl (HB.out.alloc _) hA (by omega) (by simp) ?_; intro v' w' hown hg; rw [Nat.zero_add] at hown; obtain ⟨B, c, rfl⟩ := own_slice hown; have Hown := Lib.hid hown; have Hg := Lib.hid hg; clear hown hg)
  have hsz : w.heap.size ≤ w'.heap.size := by have := Hg.out.size; simp at this; omega
  have hb1 : Below w.heap.size w w' := ((Below.refl _ _).alloc (Nat.le_refl _) _).grown Hg.out (by simp) (fun k hk => by simp [Value.ownBlock] at hk; omega)
  go_ret
  exact ⟨w'.heap.size, B, c, rfl, hsz, heap_alloc_new w' _, Hown.out.alloc _, below_new hb1 (Nat.le_refl _) _⟩
end Go.Proofs.YtkjoncllnlmdgaaDoor
/-
  Small facts: what is read in two lists joined; rows that lie nowhere (no program).
-/
namespace Go.Proofs.YtkjoncllnlmdgaaDoor
open Go.RowKit

theorem rd_appL {a b : List Int} {i : Nat} (h : i < a.length) : rd (a ++ b) i = rd a i := by
  unfold rd
  rw [List.getD_eq_getElem?_getD, List.getD_eq_getElem?_getD, List.getElem?_append_left h]
theorem rd_appR {a b : List Int} (i : Nat) : rd (a ++ b) (a.length + i) = rd b i := by
  unfold rd
  rw [List.getD_eq_getElem?_getD, List.getD_eq_getElem?_getD, List.getElem?_append_right (Nat.le_add_right _ _), Nat.add_sub_cancel_left]
theorem own_none {w : World} {base n c : Nat} {e : TypeId} {size : Nat} {A : Option Addr} {xs : List Value} (h : w.ownsRow base e size (.slice A n c) n xs) : A = none → n = 0 ∧ c = 0 := by
  intro hA
  subst hA
  rcases h.2 with ⟨h1, h2⟩ | ⟨g, cap, cur, h1, _⟩
  · simp at h1
    exact ⟨h2, h1.2⟩
  · cases h1
/-- What was there first lies apart from a younger block. -/
theorem Rd.apart {w0 w w1 : World} {k : IntKind} {A : Option Addr} {n : Nat} {xs : List Int} (h0 : Rd w0 k A n xs) (h : Rd w k A n xs) {r : Nat} (hg : w.grownBy w1 (some r)) (hr : w0.heap.size ≤ r) : Rd w1 k A n xs :=
  ⟨h.1, fun hn => by
    obtain ⟨b, o, e, hc⟩ := h.2 hn
    obtain ⟨b', o', e', hc'⟩ := h0.2 hn
    rw [e] at e'
    cases e'
    have hlt := World.block_lt_of_cell? _ _ (hc' 0 hn)
    exact ⟨b, o, e, fun j hj => hg.cell (hc j hj) (by simp at hlt ⊢; omega)⟩⟩
end Go.Proofs.YtkjoncllnlmdgaaDoor
/-
  The walks of the reference's bits (inkwellref01): Low, Of.
-/
namespace Go.Proofs.YtkjoncllnlmdgaaDoor
open Go.RowKit

theorem elB : ElT Tryd.prog 22 5 (.int .u8 0) 1 1 := ⟨Tryd.underlying22, by kernel_rfl, rfl, by decide, by decide⟩
/-- The lowest bits of a number. -/
def lowOf (x n : Nat) : List Int := (List.range n).map fun i => ((x / 2 ^ i % 2 : Nat) : Int)
theorem lowOf_length (x n : Nat) : (lowOf x n).length = n := by simp [lowOf]
theorem lowOf_succ (x n : Nat) : lowOf x (n + 1) = lowOf x n ++ [((x / 2 ^ n % 2 : Nat) : Int)] := by simp [lowOf, List.range_succ]
set_option maxHeartbeats 1000000 in
set_option maxRecDepth 100000 in
theorem Low_calls (x n : Nat) (w : World) (hx : x < 18446744073709551616) (hn : n ≤ 64) :
    Calls Tryd.prog 46 #[.int .u64 x, .int .i64 n] w fun e w' => ∃ v, e = .returned v ∧ w'.ownsRow w.heap.size 5 1 v n (ints .u8 (lowOf x n)) ∧ Below w.heap.size w w' := by
  go_enter Tryd.func46, Tryd.ntmps46
  go_wp2
  go_loopw [0, 5, 6] (fun y v i wr => ∃ k : Nat, k ≤ n ∧ i = .int .i64 k ∧ y = .int .u64 (x / 2 ^ k : Nat) ∧ Hid (wr.ownsRow w.heap.size 5 1 v k (ints .u8 (lowOf x k))) ∧ Hid (Below w.heap.size w wr)) (fun _ _ i _ => n - (intOf i).toNat)
  case atStart => exact ⟨0, by omega, rfl, by simp, World.ownsRow_nil _ _ _ _, Below.refl _ _⟩
  case round =>
    obtain ⟨k, hk, rfl, rfl, Hown, Hbel⟩ := hrel
    have hsz := Hbel.out.size
    by_cases hlt : k < n
    · obtain ⟨y, hy⟩ : ∃ y : Nat, y = x / 2 ^ k := ⟨_, rfl⟩
      have hyx : y ≤ x := by rw [hy]; exact Nat.div_le_self _ _
      have hnx : x / 2 ^ (k + 1) = y / 2 := by rw [hy, Nat.div_div_eq_div_mul, Nat.pow_succ]
      have hlw := lowOf_succ x k
      rw [← hy] at hlw ⊢
      have Hnx := Lib.hid hnx
      have Hlw := Lib.hid hlw
      clear hnx hlw hy
      obtain ⟨A, c, rfl⟩ := own_slice Hown.out
      obtain ⟨z, hz, hz1, Hz⟩ : ∃ z : Nat, (y : Int) % 2 = (z : Int) ∧ z ≤ 1 ∧ Hid (y % 2 = z) := ⟨y % 2, by omega, by omega, rfl⟩
      rw [Hz.out] at Hlw
      go_wp2_with (at_builtin; refine wpList_app1 rfl _ _ rfl elB Hown.out rfl rfl rfl rfl (by omega) hsz ?_; intro v' w' hown' hbel' _)
      go_roundw
      case rel => exact ⟨k + 1, by omega, by go_num, by rw [Hnx.out]; go_num, by rw [Hlw.out, ints_append]; exact hown', Hbel.out.trans hbel'⟩
      case measure => simp [intOf]; omega
    · obtain rfl : k = n := by omega
      go_wp2
      go_ret
      exact ⟨_, rfl, Hown.out, Hbel.out⟩
/-- The bits of bytes, so many of them. -/
def bitsOf (bs : List Int) (p m : Nat) : List Int := (List.range m).map fun i => ((bitAt bs (p + i) : Nat) : Int)
theorem bitsOf_length (bs : List Int) (p m : Nat) : (bitsOf bs p m).length = m := by simp [bitsOf]
theorem rd_bitsOf {bs : List Int} {p m i : Nat} (h : i < m) : rd (bitsOf bs p m) i = ((bitAt bs (p + i) : Nat) : Int) := by
  rw [rd_getElem (by rw [bitsOf_length]; exact h)]
  simp [bitsOf]
theorem bitsOf_next (bs : List Int) (k : Nat) : bitsOf bs 0 (8 * (k + 1)) = bitsOf bs 0 (8 * k) ++ lowOf (rd bs k).toNat 8 := by
  apply ext_rd (by rw [List.length_append, bitsOf_length, bitsOf_length, lowOf_length]; omega)
  intro j hj
  rw [bitsOf_length] at hj
  rw [rd_bitsOf hj]
  rcases Nat.lt_or_ge j (8 * k) with g | g
  · rw [rd_appL (by rw [bitsOf_length]; exact g), rd_bitsOf g]
  · obtain ⟨i, rfl⟩ : ∃ i, j = 8 * k + i := ⟨j - 8 * k, by omega⟩
    have e : 8 * k + i = (bitsOf bs 0 (8 * k)).length + i := by rw [bitsOf_length]
    rw [e, rd_appR, ← e, rd_getElem (by rw [lowOf_length]; omega)]
    simp only [lowOf, List.getElem_map, List.getElem_range]
    unfold bitAt
    rw [show (0 + (8 * k + i)) / 8 = k from by omega, show (0 + (8 * k + i)) % 8 = i from by omega]
set_option maxHeartbeats 1000000 in
set_option maxRecDepth 100000 in
theorem Of_calls (A : Option Addr) (len cap : Nat) (bs : List Int) (w : World) (hB : Rd w .u8 A len bs) (hb : ∀ j, j < len → 0 ≤ rd bs j ∧ rd bs j ≤ 255) (hlen : len ≤ 1000000) :
    Calls Tryd.prog 18 #[.slice A len cap] w fun e w' => ∃ v, e = .returned v ∧ w'.ownsRow w.heap.size 5 1 v (8 * len) (ints .u8 (bitsOf bs 0 (8 * len))) ∧ Below w.heap.size w w' := by
  have HB := Lib.hid hB
  have Hb := Lib.hid hb
  clear hB hb
  go_enter Tryd.func18, Tryd.ntmps18
  go_wp2
  go_loopw [3, 4] (fun v i wr => ∃ k : Nat, k ≤ len ∧ i = .int .i64 k ∧ Hid (wr.ownsRow w.heap.size 5 1 v (8 * k) (ints .u8 (bitsOf bs 0 (8 * k)))) ∧ Hid (Below w.heap.size w wr)) (fun _ i _ => len - (intOf i).toNat)
  case atStart => exact ⟨0, by omega, rfl, World.ownsRow_nil _ _ _ _, Below.refl _ _⟩
  case round =>
    obtain ⟨k, hk, rfl, Hown, Hbel⟩ := hrel
    have hsz := Hbel.out.size
    by_cases hlt : k < len
    · obtain ⟨b, o, rfl, hcx⟩ := HB.out.2 (by omega)
      have z := kept_cell Hbel.out (hcx k hlt)
      have hr := Hb.out k hlt
      clear hcx
      obtain ⟨y, hy⟩ : ∃ y : Nat, rd bs k = y := ⟨(rd bs k).toNat, by omega⟩
      have hnx := bitsOf_next bs k
      rw [hy, Int.toNat_natCast] at hnx
      rw [hy] at z hr
      have Hnx := Lib.hid hnx
      clear hnx hy
      obtain ⟨A1, c1, rfl⟩ := own_slice Hown.out
      go_wp2_with fail
      refine (Low_calls y 8 _ (by omega) (by omega)).mono ?_
      rintro e w2 ⟨v2, rfl, ho2, hb2⟩
      obtain ⟨A2, c2, rfl, _, hr2⟩ := own_rd ho2
      have ho3 := own_below Hown.out hb2
      have hnil := own_none ho2
      have hsz2 := hb2.size
      have Hr2 := Lib.hid hr2
      have Hb2 := Lib.hid hb2
      have Ho3 := Lib.hid ho3
      have Hnil := Lib.hid hnil
      clear ho2 hr2 hb2 ho3 hnil
      go_wp2_with (at_builtin; refine wpList_appRd rfl _ _ rfl elB Ho3.out rfl rfl Hr2.out Hnil.out (by omega) (by omega) ?_; intro v' w' hown' hg')
      go_roundw
      case rel =>
        exact ⟨k + 1, by omega, by go_num, by rw [Hnx.out]; exact hown', below_app (below_seq Hbel.out (Nat.le_refl _) Hb2.out) (Nat.le_refl _) Ho3.out (Nat.le_refl _) hg'⟩
      case measure => simp [intOf]; omega
    · obtain rfl : k = len := by omega
      go_wp2
      go_ret
      exact ⟨_, rfl, Hown.out, Hbel.out⟩
end Go.Proofs.YtkjoncllnlmdgaaDoor
