/-
  Texts joined into one file: Wts, HuffP, HuffC, HuffD.
-/
import Derived.Test.YtendohnkhbgfbaaDoorJBytZ2
import Derived.Test.YtendohnkhbgfbaaDoorJBytZ3
import Derived.Deep.RegionHeld3
import Derived.BigQuiet
import Derived.IntWalk
import Derived.Test.YtendohnkhbgfbaaDoorJBytZ1
import Derived.OneCell
/-
  SymsWeighs: how often symbols are met.
-/
namespace Go.Proofs.YtendohnkhbgfbaaDoor
open Go.RowKit

/-- May the token stand somewhere? -/
def tokOk (l b d : Int) : Bool := (l == 0 && d == 0) || (b == 0 && (decide (2 < l) && (decide (l < 259) && (decide (0 < d) && decide (d < 32769)))))
def symA (l b : Int) : Int := if l = 0 then b else symS 257 lens l
def cntA (ts : List Tok) (j : Nat) : Int := ((ts.filter fun t => decide (symA t.2.1 t.1 = j)).length : Nat)
def cntD (ts : List Tok) (j : Nat) : Int := ((ts.filter fun t => decide (t.2.1 ≠ 0 ∧ symS 0 dists t.2.2 = j)).length : Nat)
theorem take_tok (ts : List Tok) (k : Nat) (h : k < ts.length) : ts.take (k + 1) = ts.take k ++ [(tokB ts k, tokL ts k, tokD ts k)] := by
  have e : ts[k] = (tokB ts k, tokL ts k, tokD ts k) := by simp [tokB, tokL, tokD, List.getD_eq_getElem?_getD, List.getElem?_eq_getElem h]
  rw [List.take_succ_eq_append_getElem h, e]
theorem filt_next (p : Tok → Bool) (l : List Tok) (x : Tok) : ((((l ++ [x]).filter p).length : Nat) : Int) = ((l.filter p).length : Nat) + if p x = true then 1 else 0 := by
  rw [List.filter_append, List.length_append]
  cases h : p x <;> simp [h]
theorem cntA_next (ts : List Tok) (k j : Nat) (h : k < ts.length) : cntA (ts.take (k + 1)) j = cntA (ts.take k) j + if symA (tokL ts k) (tokB ts k) = j then 1 else 0 := by
  rw [take_tok ts k h]
  unfold cntA
  rw [filt_next]
  simp only [decide_eq_true_eq]
theorem cntD_next (ts : List Tok) (k j : Nat) (h : k < ts.length) : cntD (ts.take (k + 1)) j = cntD (ts.take k) j + if tokL ts k ≠ 0 ∧ symS 0 dists (tokD ts k) = j then 1 else 0 := by
  rw [take_tok ts k h]
  unfold cntD
  rw [filt_next]
  simp only [decide_eq_true_eq]
theorem cntA_le (ts : List Tok) (k j : Nat) : 0 ≤ cntA (ts.take k) j ∧ cntA (ts.take k) j ≤ k := by
  have h1 := List.length_filter_le (fun t : Tok => decide (symA t.2.1 t.1 = j)) (ts.take k)
  have h2 := List.length_take_le k ts
  unfold cntA
  omega
theorem cntD_le (ts : List Tok) (k j : Nat) : 0 ≤ cntD (ts.take k) j ∧ cntD (ts.take k) j ≤ k := by
  have h1 := List.length_filter_le (fun t : Tok => decide (t.2.1 ≠ 0 ∧ symS 0 dists t.2.2 = j)) (ts.take k)
  have h2 := List.length_take_le k ts
  unfold cntD
  omega
theorem cntA_zero (ts : List Tok) (j : Nat) : cntA (ts.take 0) j = 0 := rfl
theorem cntD_zero (ts : List Tok) (j : Nat) : cntD (ts.take 0) j = 0 := rfl
theorem tokOk_cases {l b d : Int} (h : tokOk l b d = true) : (l = 0 ∧ d = 0) ∨ (b = 0 ∧ 3 ≤ l ∧ l ≤ 258 ∧ 1 ≤ d ∧ d ≤ 32768) := by
  unfold tokOk at h
  simp at h
  omega

theorem symField0 (x y z : Int) (w : World) : Sem.run Tryd.prog (Instr.field 137 (.agg #[.int .i64 x, .int .i64 y, .int .u64 z]) 0) w = .ok (.int .i64 x) w := by
  have h := run_underlying (w := w) Tryd.underlying137
  simp [Instr.field, h]
  go_simp
  simp [asAgg]
theorem rd_replicate (n j : Nat) : rd (List.replicate n 0) j = 0 := by
  unfold rd
  rw [List.getD_eq_getElem?_getD, List.getElem?_replicate]
  split <;> rfl
theorem symA_zero (b : Int) : symA 0 b = b := if_pos rfl
theorem symA_some {l : Int} (b : Int) (h : 3 ≤ l) : symA l b = symS 257 lens l := if_neg (by omega)
/-- One more at p. -/
theorem count_next {l : List Int} {n p : Nat} {f g : Nat → Int} (hl : l.length = n) (hp : p < n) (h : ∀ j, j < n → rd l j = f j) (hg : ∀ j, j < n → g j = f j + if (p : Int) = j then 1 else 0) : ∀ j, j < n → rd (l.set p (rd l p + 1)) j = g j := by
  intro j hj
  rw [rd_set (by omega), hg j hj]
  by_cases e : p = j
  · subst e
    rw [if_pos rfl, if_pos rfl, h p hj]
  · rw [if_neg e, if_neg (by omega), h j hj]
    omega

set_option maxHeartbeats 2000000 in
set_option maxRecDepth 100000 in
theorem Weights_calls (A : Option Addr) (n c : Nat) (ts : List Tok) (w : World) (hK : Toks w A n ts) (hn : n ≤ 100000) (hwf : TokWf ts n) (hok : ∀ j, j < n → tokOk (tokL ts j) (tokB ts j) (tokD ts j) = true) (hT : Tabs w) :
    Calls Tryd.prog 56 #[.slice A n c] w fun e w' => ∃ (ga gb : Nat) (la lb : List Int), e = .returned (.tuple #[.slice (some ⟨ga, 0, none⟩) 286 286, .slice (some ⟨gb, 0, none⟩) 30 30]) ∧
      w'.ownsRow w.heap.size 3 1 (.slice (some ⟨ga, 0, none⟩) 286 286) 286 (ints .i64 la) ∧ w'.ownsRow w.heap.size 3 1 (.slice (some ⟨gb, 0, none⟩) 30 30) 30 (ints .i64 lb) ∧
      Hid (∀ j, j < 286 → rd la j = cntA ts j + if 256 = j then 1 else 0) ∧ Hid (∀ j, j < 30 → rd lb j = cntD ts j) ∧ Below w.heap.size w w' := by
  have Hlen := Lib.hid hK.1
  have HK := Lib.hid hK
  have Hwf := Lib.hid hwf
  have Hok := Lib.hid hok
  have HT := Lib.hid hT
  clear hK hwf hok hT
  have hF := symField0
  go_enter Tryd.func56, Tryd.ntmps56
  go_upto_region 1 with fail
  go_cut [4, 5] from 8 to 9 (fun a b wx => ∃ ga gb, ga ≠ gb ∧ a = .slice (some ⟨ga, 0, none⟩) 286 286 ∧ b = .slice (some ⟨gb, 0, none⟩) 30 30 ∧ (∃ la, Hid (∀ j, rd la j = 0) ∧ wx.ownsRow w.heap.size 3 1 a 286 (ints .i64 la)) ∧ (∃ lb, Hid (∀ j, rd lb j = 0) ∧ wx.ownsRow w.heap.size 3 1 b 30 (ints .i64 lb)) ∧ Below w.heap.size w wx)
  case first =>
    obtain ⟨oA, la, mA, lA, rA⟩ := make_rule elIntF 286 286 rfl (by decide)
    obtain ⟨oB, lb, mB, lB, rB⟩ := make_rule elIntF 30 30 rfl (by decide)
    have zA : Hid (∀ j, rd la j = 0) := fun j => by rw [lA.out]; exact rd_replicate _ _
    have zB : Hid (∀ j, rd lb j = 0) := fun j => by rw [lB.out]; exact rd_replicate _ _
    clear lA lB
    go_wp2
    go_region
    · go_wp2
      go_meet
      exact ⟨w.heap.size, w.heap.size + 1, by omega, by simp, by simp, ⟨la, zA, (rA.out w.drew _ _ rfl (Nat.le_refl _)).alloc _⟩, ⟨lb, zB, rB.out (w.drew.alloc oA) _ _ (by simp) (by omega)⟩, below_new (below_new (Below.refl _ _).drew (Nat.le_refl _) _) (Nat.le_refl _) _⟩
    · go_wp2
      go_meet
      exact ⟨w.heap.size + 1, w.heap.size, by omega, by simp, by simp, ⟨la, zA, rA.out (w.drew.alloc oB) _ _ (by simp) (by omega)⟩, ⟨lb, zB, (rB.out w.drew _ _ rfl (Nat.le_refl _)).alloc _⟩, below_new (below_new (Below.refl _ _).drew (Nat.le_refl _) _) (Nat.le_refl _) _⟩
  case rest =>
    obtain ⟨ga, gb, hne, rfl, rfl, ⟨la, zA, hownA⟩, ⟨lb, zB, hownB⟩, hb⟩ := hcut
    have HA := Lib.hid hownA
    have HB := Lib.hid hownB
    have Hb := Lib.hid hb
    clear hownA hownB hb
    go_wp2
    go_loopw [12] (fun i wr => ∃ (k : Nat) (la lb : List Int), k ≤ n ∧ i = .int .i64 k ∧ wr.ownsRow w.heap.size 3 1 (.slice (some ⟨ga, 0, none⟩) 286 286) 286 (ints .i64 la) ∧ wr.ownsRow w.heap.size 3 1 (.slice (some ⟨gb, 0, none⟩) 30 30) 30 (ints .i64 lb) ∧ Hid (∀ j, j < 286 → rd la j = cntA (ts.take k) j) ∧ Hid (∀ j, j < 30 → rd lb j = cntD (ts.take k) j) ∧ Below w.heap.size w wr) (fun i _ => n - (intOf i).toNat)
    case atStart => exact ⟨0, la, lb, by omega, rfl, HA.out, HB.out, (fun j _ => zA.out j), (fun j _ => zB.out j), Hb.out⟩
    case round =>
      obtain ⟨k, la, lb, hk, rfl, hA, hB, Hla, Hlb, hbel⟩ := hrel
      have hga := (hA.lt ga rfl).1
      have hgb := (hB.lt gb rfl).1
      have hga2 := (hA.lt ga rfl).2
      have hgb2 := (hB.lt gb rfl).2
      have hll : la.length = 286 := by have := hA.1; simpa [ints] using this
      have hlb : lb.length = 30 := by have := hB.1; simpa [ints] using this
      have HA := Lib.hid hA
      have HB := Lib.hid hB
      have Hbel := Lib.hid hbel
      have hsz := hbel.size
      clear hA hB hbel
      by_cases hlt : k < n
      · obtain ⟨b, o, rfl, hc⟩ := HK.out.2 (by omega)
        obtain ⟨z0, z1, z2⟩ := hc k hlt
        have z0 := kept_cell Hbel.out z0
        have z1 := kept_cell Hbel.out z1
        have z2 := kept_cell Hbel.out z2
        have hw := Hwf.out k hlt
        have hca := fun j => cntA_next ts k j (by rw [Hlen.out]; exact hlt)
        have hcd := fun j => cntD_next ts k j (by rw [Hlen.out]; exact hlt)
        clear hc
        rcases tokOk_cases (Hok.out k hlt) with ⟨hl, hd⟩ | ⟨hb0, hl1, hl2, hd1, hd2⟩
        · rw [hl] at z1
          obtain ⟨m, hm⟩ : ∃ m : Nat, tokB ts k = m := ⟨(tokB ts k).toNat, by omega⟩
          rw [hm] at z0 hw
          have hm2 : m < 286 := by omega
          have hnew := Lib.hid (count_next hll hm2 Hla.out (g := fun j => cntA (ts.take (k + 1)) j) (fun j _ => by show cntA (ts.take (k + 1)) j = _; rw [hca j, hl, symA_zero, hm]))
          have hnewd : Hid (∀ j, j < 30 → rd lb j = cntD (ts.take (k + 1)) j) := fun j hj => by rw [hcd j, if_neg (fun h => h.1 hl), Hlb.out j hj, Int.add_zero]
          have hv := cntA_le ts k m
          rw [← Hla.out m hm2] at hv
          have yc := HA.out.cellAt m (by omega)
          rw [ints_get (by omega)] at yc
          have yk := kept_new yc
          have yf : ∀ o : Obj, (wr.alloc o).frozen? ⟨ga, m, none⟩ = false := fun o => (HA.out.alloc o).frozenAt m
          have Hm := Lib.hid hm
          clear hca hcd hd hl hm yc
          go_wp2
          go_roundw
          case rel =>
            exact ⟨k + 1, la.set m (rd la m + 1), lb, by omega, by go_num, by rw [ints_set]; exact ((HA.out.stored m _).1).alloc _, (ownsRow_setCell_other (a := ⟨ga, m, none⟩) HB.out (by simpa [Value.ownBlock] using hne.symm) _).alloc _, hnew, hnewd, below_new (Hbel.out.setCell (p := ⟨ga, m, none⟩) hga _) (Nat.le_refl _) _⟩
          case measure => simp [intOf]; omega
        · generalize tokB ts k = vb at *
          generalize tokL ts k = vl at *
          generalize tokD ts k = vd at *
          have hsl := symL_range vl hl1 hl2
          have hsd := symD_range vd hd1 hd2
          obtain ⟨p, hp⟩ : ∃ p : Nat, symS 257 lens vl = p := ⟨(symS 257 lens vl).toNat, by omega⟩
          obtain ⟨q, hq⟩ : ∃ q : Nat, symS 0 dists vd = q := ⟨(symS 0 dists vd).toNat, by omega⟩
          have hp2 : p < 286 := by omega
          have hq2 : q < 30 := by omega
          have hnew := Lib.hid (count_next hll hp2 Hla.out (g := fun j => cntA (ts.take (k + 1)) j) (fun j _ => by show cntA (ts.take (k + 1)) j = _; rw [hca j, symA_some _ hl1, hp]))
          have hnewd := Lib.hid (count_next hlb hq2 Hlb.out (g := fun j => cntD (ts.take (k + 1)) j) (fun j _ => by
            show cntD (ts.take (k + 1)) j = _
            rw [hcd j, hq]
            by_cases e : (q : Int) = j
            · rw [if_pos ⟨by omega, e⟩, if_pos e]
            · rw [if_neg (fun h => e h.2), if_neg e]))
          have hv := cntA_le ts k p
          rw [← Hla.out p hp2] at hv
          have hvd := cntD_le ts k q
          rw [← Hlb.out q hq2] at hvd
          have hl0 : (vl == 0) = false := by simp; omega
          have hcl : clampL vl = vl := clampL_in hl1 hl2
          have hcd2 : clampD vd = vd := clampD_in hd1 hd2
          have HCL := Lib.hid hcl
          have HCD := Lib.hid hcd2
          have HP := Lib.hid hp
          have HQ := Lib.hid hq
          clear hca hcd hcl hcd2 hp hq hsl hsd
          go_wp2_with fail
          refine (Length_calls vl _ (by omega) (by omega) (HT.out.below (below_new Hbel.out (Nat.le_refl _) _)).1).mono ?_
          rintro e w2 ⟨rfl, hb2⟩
          rw [HCL.out, HP.out]
          have t0 := (laid_kept hb2 0 _ rfl).1
          have t1 := (laid_kept hb2 1 _ rfl).1
          have t2 := (laid_kept hb2 2 _ rfl).1
          have HA2 := Lib.hid (own_below (HA.out.alloc _) hb2)
          have HB2 := Lib.hid (own_below (HB.out.alloc _) hb2)
          have Hb2 := Lib.hid (below_seq (below_new Hbel.out (Nat.le_refl _) _) (Nat.le_refl _) hb2)
          have hsz2 := hb2.size
          have yc := HA2.out.cellAt p (by omega)
          rw [ints_get (by omega)] at yc
          have yf := HA2.out.frozenAt p
          have hne1 : ga ≠ wr.heap.size := by omega
          have hne2 : wr.heap.size ≠ ga := by omega
          clear hb2
          go_wp2_with fail
          refine (Distance_calls vd _ (by omega) (by omega) (HT.out.below (Hb2.out.setCell (p := ⟨ga, p, none⟩) hga _)).2).mono ?_
          rintro e w3 ⟨rfl, hb3⟩
          rw [HCD.out, HQ.out]
          have HA3 := Lib.hid (own_below (HA2.out.stored p (.int .i64 (rd la p + 1))).1 hb3)
          have HB3 := Lib.hid (own_below (ownsRow_setCell_other (a := ⟨ga, p, none⟩) HB2.out (by simpa [Value.ownBlock] using hne.symm) (.int .i64 (rd la p + 1))) hb3)
          have Hb3 := Lib.hid (below_seq (Hb2.out.setCell (p := ⟨ga, p, none⟩) hga (.int .i64 (rd la p + 1))) (Nat.le_refl _) hb3)
          have xc := HB3.out.cellAt q (by omega)
          rw [ints_get (by omega)] at xc
          have xf := HB3.out.frozenAt q
          clear hb3
          go_wp2
          go_roundw
          case rel =>
            exact ⟨k + 1, la.set p (rd la p + 1), lb.set q (rd lb q + 1), by omega, by go_num, ownsRow_setCell_other (by rw [ints_set]; exact HA3.out) (by simpa [Value.ownBlock] using hne) _, by rw [ints_set]; exact (HB3.out.stored q _).1, hnew, hnewd, Hb3.out.setCell hgb _⟩
          case measure => simp [intOf]; omega
      · obtain rfl : k = n := by omega
        have yc := HA.out.cellAt 256 (by omega)
        rw [ints_get (by omega)] at yc
        have yf := HA.out.frozenAt 256
        have hv := cntA_le ts k 256
        rw [← Hla.out 256 (by omega)] at hv
        have htk : ts.take k = ts := List.take_of_length_le (by rw [Hlen.out]; exact Nat.le_refl _)
        rw [htk] at Hla Hlb
        have hnew := Lib.hid (count_next hll (show 256 < 286 by omega) Hla.out (g := fun j => cntA ts j + if 256 = j then 1 else 0) (fun j _ => by
          show cntA ts j + _ = _
          by_cases e : 256 = j
          · rw [if_pos e, if_pos (by omega)]
          · rw [if_neg e, if_neg (by omega)]))
        clear htk
        go_wp2
        refine bodyPost_ret (v := .tuple #[.slice (some ⟨ga, 0, none⟩) 286 286, .slice (some ⟨gb, 0, none⟩) 30 30]) (by simp [results, Tryd.results56, go_sem]) rfl ⟨ga, gb, la.set 256 (rd la 256 + 1), lb, rfl, by rw [ints_set]; exact (HA.out.stored 256 _).1, ownsRow_setCell_other HB.out (by simpa [Value.ownBlock] using hne.symm) _, hnew, Hlb, Hbel.out.setCell hga _⟩
theorem held_step {w w1 w2 : World} {a : Addr} {v : Value} (h : w1.cell? a = some v ∧ Below w.heap.size w w1) (hb : Below w1.heap.size w1 w2) : w2.cell? a = some v ∧ Below w.heap.size w w2 :=
  ⟨kept_cell hb h.1, below_seq h.2 (Nat.le_refl _) hb⟩
set_option maxHeartbeats 2000000 in
set_option maxRecDepth 100000 in
theorem rWeights_calls (A : Option Addr) (n c : Nat) (ts : List Tok) (w : World) (hK : Toks w A n ts) (hn : n ≤ 100000) (hwf : TokWf ts n) (hok : ∀ j, j < n → tokOk (tokL ts j) (tokB ts j) (tokD ts j) = true) :
    Calls Tryd.prog 62 #[.slice A n c] w fun e w' => ∃ (ga gb : Nat) (la lb : List Int), e = .returned (.tuple #[.slice (some ⟨ga, 0, none⟩) 286 286, .slice (some ⟨gb, 0, none⟩) 30 30]) ∧
      w'.ownsRow w.heap.size 3 1 (.slice (some ⟨ga, 0, none⟩) 286 286) 286 (ints .i64 la) ∧ w'.ownsRow w.heap.size 3 1 (.slice (some ⟨gb, 0, none⟩) 30 30) 30 (ints .i64 lb) ∧
      Hid (∀ j, j < 286 → rd la j = cntA ts j + if 256 = j then 1 else 0) ∧ Hid (∀ j, j < 30 → rd lb j = cntD ts j) ∧ Below w.heap.size w w' := by
  have Hlen := Lib.hid hK.1
  have HK := Lib.hid hK
  have Hwf := Lib.hid hwf
  have Hok := Lib.hid hok
  clear hK hwf hok
  go_enter Tryd.func62, Tryd.ntmps62
  go_upto_region 1 with fail
  go_cut [4, 5] from 11 to 12 (fun a b wx => ∃ ga gb, ga ≠ gb ∧ a = .slice (some ⟨ga, 0, none⟩) 286 286 ∧ b = .slice (some ⟨gb, 0, none⟩) 30 30 ∧ (∃ la, Hid (∀ j, rd la j = 0) ∧ wx.ownsRow w.heap.size 3 1 a 286 (ints .i64 la)) ∧ (∃ lb, Hid (∀ j, rd lb j = 0) ∧ wx.ownsRow w.heap.size 3 1 b 30 (ints .i64 lb)) ∧ Below w.heap.size w wx)
  case first =>
    obtain ⟨oA, la, mA, lA, rA⟩ := make_rule elIntF 286 286 rfl (by decide)
    obtain ⟨oB, lb, mB, lB, rB⟩ := make_rule elIntF 30 30 rfl (by decide)
    have zA : Hid (∀ j, rd la j = 0) := fun j => by rw [lA.out]; exact rd_replicate _ _
    have zB : Hid (∀ j, rd lb j = 0) := fun j => by rw [lB.out]; exact rd_replicate _ _
    clear lA lB
    go_wp2
    go_region
    · go_wp2
      go_meet
      exact ⟨w.heap.size, w.heap.size + 1, by omega, by simp, by simp, ⟨la, zA, (rA.out w.drew _ _ rfl (Nat.le_refl _)).alloc _⟩, ⟨lb, zB, rB.out (w.drew.alloc oA) _ _ (by simp) (by omega)⟩, below_new (below_new (Below.refl _ _).drew (Nat.le_refl _) _) (Nat.le_refl _) _⟩
    · go_wp2
      go_meet
      exact ⟨w.heap.size + 1, w.heap.size, by omega, by simp, by simp, ⟨la, zA, rA.out (w.drew.alloc oB) _ _ (by simp) (by omega)⟩, ⟨lb, zB, (rB.out w.drew _ _ rfl (Nat.le_refl _)).alloc _⟩, below_new (below_new (Below.refl _ _).drew (Nat.le_refl _) _) (Nat.le_refl _) _⟩
  case rest =>
    obtain ⟨ga, gb, hne, rfl, rfl, ⟨la, zA, hownA⟩, ⟨lb, zB, hownB⟩, hb⟩ := hcut
    have hga := (hownA.lt ga rfl).1
    have hll : la.length = 286 := by have := hownA.1; simpa [ints] using this
    have yc := hownA.cellAt 256 (by omega)
    rw [ints_get (by omega)] at yc
    have yf := hownA.frozenAt 256
    have HA := Lib.hid hownA
    have HB := Lib.hid hownB
    have Hb := Lib.hid hb
    clear hownA hownB hb
    go_wp2
    go_loopw [6] (fun i wr => ∃ (k : Nat) (la lb : List Int), k ≤ n ∧ i = .int .i64 k ∧ wr.ownsRow w.heap.size 3 1 (.slice (some ⟨ga, 0, none⟩) 286 286) 286 (ints .i64 la) ∧ wr.ownsRow w.heap.size 3 1 (.slice (some ⟨gb, 0, none⟩) 30 30) 30 (ints .i64 lb) ∧ Hid (∀ j, j < 286 → rd la j = cntA (ts.take k) j + if 256 = j then 1 else 0) ∧ Hid (∀ j, j < 30 → rd lb j = cntD (ts.take k) j) ∧ Below w.heap.size w wr) (fun i _ => n - (intOf i).toNat)
    case atStart =>
      refine ⟨0, la.set 256 1, lb, by omega, rfl, by rw [ints_set]; exact (HA.out.stored 256 _).1, ownsRow_setCell_other HB.out (by simpa [Value.ownBlock] using hne.symm) _, ?_, (fun j _ => zB.out j), Hb.out.setCell hga _⟩
      intro j hj
      rw [rd_set (by omega), zA.out j, cntA_zero]
      split <;> rfl
    case round =>
      obtain ⟨k, la, lb, hk, rfl, hA, hB, Hla, Hlb, hbel⟩ := hrel
      have hga := (hA.lt ga rfl).1
      have hgb := (hB.lt gb rfl).1
      have hga2 := (hA.lt ga rfl).2
      have hgb2 := (hB.lt gb rfl).2
      have hll : la.length = 286 := by have := hA.1; simpa [ints] using this
      have hlb : lb.length = 30 := by have := hB.1; simpa [ints] using this
      have HA := Lib.hid hA
      have HB := Lib.hid hB
      have Hbel := Lib.hid hbel
      have hsz := hbel.size
      clear hA hB hbel yc yf
      by_cases hlt : k < n
      · obtain ⟨b, o, rfl, hc⟩ := HK.out.2 (by omega)
        obtain ⟨z0, z1, z2⟩ := hc k hlt
        have z0 := kept_cell Hbel.out z0
        have z1 := kept_cell Hbel.out z1
        have z2 := kept_cell Hbel.out z2
        have hw := Hwf.out k hlt
        have hca := fun j => cntA_next ts k j (by rw [Hlen.out]; exact hlt)
        have hcd := fun j => cntD_next ts k j (by rw [Hlen.out]; exact hlt)
        clear hc
        rcases tokOk_cases (Hok.out k hlt) with ⟨hl, hd⟩ | ⟨hb0, hl1, hl2, hd1, hd2⟩
        · rw [hl] at z1
          obtain ⟨m, hm⟩ : ∃ m : Nat, tokB ts k = m := ⟨(tokB ts k).toNat, by omega⟩
          rw [hm] at z0 hw
          have hm2 : m < 286 := by omega
          have hnew := Lib.hid (count_next hll hm2 Hla.out (g := fun j => cntA (ts.take (k + 1)) j + if 256 = j then 1 else 0) (fun j _ => by show cntA (ts.take (k + 1)) j + _ = _; rw [hca j, hl, symA_zero, hm]; omega))
          have hnewd : Hid (∀ j, j < 30 → rd lb j = cntD (ts.take (k + 1)) j) := fun j hj => by rw [hcd j, if_neg (fun h => h.1 hl), Hlb.out j hj, Int.add_zero]
          have hv := cntA_le ts k m
          have hv2 : 0 ≤ rd la m ∧ rd la m ≤ k + 1 := by rw [Hla.out m hm2]; split <;> omega
          have yc := HA.out.cellAt m (by omega)
          rw [ints_get (by omega)] at yc
          have yf := HA.out.frozenAt m
          have Hm := Lib.hid hm
          clear hca hcd hd hl hm hv
          go_wp2
          go_roundw
          case rel =>
            exact ⟨k + 1, la.set m (rd la m + 1), lb, by omega, by go_num, by rw [ints_set]; exact (HA.out.stored m _).1, ownsRow_setCell_other (a := ⟨ga, m, none⟩) HB.out (by simpa [Value.ownBlock] using hne.symm) _, hnew, hnewd, Hbel.out.setCell (p := ⟨ga, m, none⟩) hga _⟩
          case measure => simp [intOf]; omega
        · generalize tokB ts k = vb at *
          generalize tokL ts k = vl at *
          generalize tokD ts k = vd at *
          have hsl := lastLe_lt lens vl lens.length (by decide)
          have hsd := lastLe_lt dists vd dists.length (by decide)
          rw [lens_length] at hsl
          rw [dists_length] at hsd
          have hp : symS 257 lens vl = 257 + (lastLe lens vl 29 : Nat) := rfl
          have hq : symS 0 dists vd = (lastLe dists vd 30 : Nat) := by unfold symS; rw [dists_length]; omega
          have hp2 : 257 + lastLe lens vl 29 < 286 := by omega
          have hnew := Lib.hid (count_next hll hp2 Hla.out (g := fun j => cntA (ts.take (k + 1)) j + if 256 = j then 1 else 0) (fun j _ => by
            show cntA (ts.take (k + 1)) j + _ = _
            rw [hca j, symA_some _ hl1, hp, Int.natCast_add]
            omega))
          have hnewd := Lib.hid (count_next hlb hsd Hlb.out (g := fun j => cntD (ts.take (k + 1)) j) (fun j _ => by
            show cntD (ts.take (k + 1)) j = _
            rw [hcd j, hq]
            by_cases e : ((lastLe dists vd 30 : Nat) : Int) = j
            · rw [if_pos ⟨by omega, e⟩, if_pos e]
            · rw [if_neg (fun h => e h.2), if_neg e]))
          have hv := cntA_le ts k (257 + lastLe lens vl 29)
          have hv2 : 0 ≤ rd la (257 + lastLe lens vl 29) ∧ rd la (257 + lastLe lens vl 29) ≤ k + 1 := by rw [Hla.out _ hp2]; split <;> omega
          have hvd := cntD_le ts k (lastLe dists vd 30)
          rw [← Hlb.out _ hsd] at hvd
          have hl0 : (vl == 0) = false := by simp; omega
          clear hca hcd hp hq hv
          obtain ⟨p, hp⟩ : ∃ p, p = lastLe lens vl 29 := ⟨_, rfl⟩
          obtain ⟨q, hq⟩ : ∃ q, q = lastLe dists vd 30 := ⟨_, rfl⟩
          have HP : Hid (lastLe lens vl 29 = p) := hp.symm
          have HQ : Hid (lastLe dists vd 30 = q) := hq.symm
          rw [← hp] at hsl hp2 hnew hv2
          rw [← hq] at hsd hnewd hvd
          clear hp hq
          have HZ2 := Lib.hid z2
          have Hw := Lib.hid hw
          have hz1 := z1
          go_upto_region 8 with fail
          go_cut [7, 8] from 38 to 47 (fun x _ wx => x = .int .i64 p ∧ Below wr.heap.size wr wx)
          case first =>
            have S0 : wr.drew.cell? ⟨b, o + k * 3 + 1, none⟩ = some (.int .i64 vl) ∧ Below wr.heap.size wr wr.drew := ⟨z1, (Below.refl _ _).drew⟩
            go_region_held3 (fun w' => w'.cell? ⟨b, o + k * 3 + 1, none⟩ = some (.int .i64 vl) ∧ Below wr.heap.size wr w')
              (first | exact S0 | exact S9 | exact S10)
              (first
              | (go_at_call 92; refine (rLengths_calls _).mono ?_; rintro e w9 ⟨v9, rfl, own9, hb9⟩; have S9 : w9.cell? ⟨b, o + k * 3 + 1, none⟩ = some (.int .i64 vl) ∧ Below wr.heap.size wr w9 := held_step (by assumption) hb9; obtain ⟨g9, c9, rfl, _, R9⟩ := rowsAt_own own9 (by decide); clear hb9)
              | (go_at_call 95; refine (rOf_calls _ lens _ 29 _ _ rfl (by omega) (by omega) (by omega) (by omega) (fun j hj => by have := lens_range j hj; omega) R9).mono ?_; rintro e w10 ⟨rfl, hb10⟩; have S10 : w10.cell? ⟨b, o + k * 3 + 1, none⟩ = some (.int .i64 vl) ∧ Below wr.heap.size wr w10 := held_step (by assumption) hb10; clear hb10))
            go_wp2
            go_meet
            exact ⟨by rw [HP.out], S10.2⟩
          case rest =>
          obtain ⟨rfl, hb5⟩ := hcut
          have z25 := kept_cell hb5 HZ2.out
          have HA5 := Lib.hid (own_below HA.out hb5)
          have HB5 := Lib.hid (own_below HB.out hb5)
          have Hb5 := Lib.hid (below_seq Hbel.out (Nat.le_refl _) hb5)
          have hsz5 := hb5.size
          clear hb5
          obtain ⟨wo, hwo⟩ : ∃ wo : World, wo = wc := ⟨_, rfl⟩
          subst hwo
          go_upto_region 9 with fail
          go_cut [9, 10] from 48 to 57 (fun x _ wx => x = .int .i64 q ∧ Below wo.heap.size wo wx)
          case first =>
            have S0 : wo.drew.cell? ⟨b, o + k * 3 + 2, none⟩ = some (.int .i64 vd) ∧ Below wo.heap.size wo wo.drew := ⟨z25, (Below.refl _ _).drew⟩
            go_region_held3 (fun w' => w'.cell? ⟨b, o + k * 3 + 2, none⟩ = some (.int .i64 vd) ∧ Below wo.heap.size wo w')
              (first | exact S0 | exact S9 | exact S10)
              (first
              | (go_at_call 93; refine (rDistances_calls _).mono ?_; rintro e w9 ⟨v9, rfl, own9, hb9⟩; have S9 : w9.cell? ⟨b, o + k * 3 + 2, none⟩ = some (.int .i64 vd) ∧ Below wo.heap.size wo w9 := held_step (by assumption) hb9; obtain ⟨g9, c9, rfl, _, R9⟩ := rowsAt_own own9 (by decide); clear hb9)
              | (go_at_call 95; refine (rOf_calls _ dists _ 30 _ _ rfl (by omega) (by omega) (by omega) (by omega) (fun j hj => by have := dists_range j hj; omega) R9).mono ?_; rintro e w10 ⟨rfl, hb10⟩; have S10 : w10.cell? ⟨b, o + k * 3 + 2, none⟩ = some (.int .i64 vd) ∧ Below wo.heap.size wo w10 := held_step (by assumption) hb10; clear hb10))
            go_wp2
            go_meet
            exact ⟨by rw [HQ.out], S10.2⟩
          case rest =>
          obtain ⟨rfl, hb6⟩ := hcut
          have HA6 := Lib.hid (own_below HA5.out hb6)
          have HB6 := Lib.hid (own_below HB5.out hb6)
          have Hb6 := Lib.hid (below_seq Hb5.out (Nat.le_refl _) hb6)
          have hsz6 := hb6.size
          clear hb6
          have yc := HA6.out.cellAt (257 + p) (by omega)
          rw [ints_get (by omega)] at yc
          have yf := HA6.out.frozenAt (257 + p)
          have xc := HB6.out.cellAt q (by omega)
          rw [ints_get (by omega)] at xc
          have xf := HB6.out.frozenAt q
          have t1 : ((257 : Int) + p).toNat = 257 + p := by omega
          have hne2 : gb ≠ ga := hne.symm
          go_wp2
          go_roundw
          case rel =>
            exact ⟨k + 1, la.set (257 + p) (rd la (257 + p) + 1), lb.set q (rd lb q + 1), by omega, by go_num,
              ownsRow_setCell_other (a := ⟨gb, q, none⟩) (by rw [ints_set]; exact (HA6.out.stored (257 + p) _).1) (by simpa [Value.ownBlock] using hne) _,
              by rw [ints_set]; exact ((ownsRow_setCell_other (a := ⟨ga, 257 + p, none⟩) HB6.out (by simpa [Value.ownBlock] using hne.symm) _).stored q _).1, hnew, hnewd, (Hb6.out.setCell (p := ⟨ga, 257 + p, none⟩) hga _).setCell (p := ⟨gb, q, none⟩) hgb _⟩
          case measure => simp [intOf]; omega
      · obtain rfl : k = n := by omega
        have htk : ts.take k = ts := List.take_of_length_le (by rw [Hlen.out]; exact Nat.le_refl _)
        rw [htk] at Hla Hlb
        clear htk
        go_wp2
        refine bodyPost_ret (v := .tuple #[.slice (some ⟨ga, 0, none⟩) 286 286, .slice (some ⟨gb, 0, none⟩) 30 30]) (by simp [results, Tryd.results62, go_sem]) rfl ⟨ga, gb, la, lb, rfl, HA.out, HB.out, Hla, Hlb, Hbel.out⟩
end Go.Proofs.YtendohnkhbgfbaaDoor
/-
  Plain facts about canonical codes (no program): first codes, codes, what is left.
-/
namespace Go.Proofs.YtendohnkhbgfbaaDoor

/-- The first code of a length. -/
def firstAt (c : List Int) : Nat → Int
  | 0 => 0
  | k + 1 => 2 * (firstAt c k + rd c k)
theorem firstAt_range (c : List Int) (n : Int) (hc : ∀ j, j < 16 → 0 ≤ rd c j ∧ rd c j ≤ n) (k : Nat) (hk : k ≤ 16) : 0 ≤ firstAt c k ∧ firstAt c k + 2 * n ≤ 2 * n * 2 ^ k := by
  induction k with
  | zero => simp [firstAt]
  | succ k ih =>
    have h1 := ih (by omega)
    have h2 := hc k (by omega)
    have e : 2 * n * 2 ^ (k + 1) = 2 * (2 * n * 2 ^ k) := by rw [Int.pow_succ, ← Int.mul_assoc, Int.mul_comm _ 2]
    rw [e]
    simp only [firstAt]
    omega
theorem firstAt_le (c : List Int) (n : Int) (hn : 0 ≤ n) (hc : ∀ j, j < 16 → 0 ≤ rd c j ∧ rd c j ≤ n) (k : Nat) (hk : k ≤ 16) : 0 ≤ firstAt c k ∧ firstAt c k ≤ 131072 * n := by
  have h1 := firstAt_range c n hc k hk
  have h2 : 2 * n * 2 ^ k ≤ 2 * n * 2 ^ 16 := by
    refine Int.mul_le_mul_of_nonneg_left ?_ (by omega)
    have : (2 : Nat) ^ k ≤ 2 ^ 16 := Nat.pow_le_pow_right (by omega) hk
    exact_mod_cast this
  have h3 : 2 * n * 2 ^ 16 = 131072 * n := by
    rw [show ((2 : Int) ^ 16) = 65536 from by decide +kernel]
    omega
  omega
def firstsOf (c : List Int) : List Int := (List.range 16).map (firstAt c)
theorem firstsOf_length (c : List Int) : (firstsOf c).length = 16 := by simp [firstsOf]
theorem rd_firstsOf (c : List Int) (j : Nat) (h : j < 16) : rd (firstsOf c) j = firstAt c j := by
  rw [rd_getElem (by rw [firstsOf_length]; exact h)]
  simp [firstsOf]
/-- How many of the first s have that length. -/
def before (xs : List Int) (k : Int) (s : Nat) : Nat := ((xs.take s).filter fun x => x == k).length
theorem before_zero (xs : List Int) (k : Int) : before xs k 0 = 0 := by simp [before]
theorem before_hit (xs : List Int) (k : Int) (s : Nat) (hs : s < xs.length) (h : rd xs s = k) : before xs k (s + 1) = before xs k s + 1 := by
  unfold before
  rw [List.take_succ_eq_append_getElem hs, ← rd_getElem hs, List.filter_append, h]
  simp
theorem before_miss (xs : List Int) (k : Int) (s : Nat) (hs : s < xs.length) (h : rd xs s ≠ k) : before xs k (s + 1) = before xs k s := by
  unfold before
  rw [List.take_succ_eq_append_getElem hs, ← rd_getElem hs, List.filter_append]
  have : (rd xs s == k) = false := by simpa using h
  simp [this]
theorem before_le (xs : List Int) (k : Int) (s : Nat) : before xs k s ≤ s := by
  have h1 := List.length_filter_le (fun x => x == k) (xs.take s)
  have h2 := List.length_take_le s xs
  unfold before
  omega
theorem rd_cntOf_pos (xs : List Int) (k : Nat) (h : 0 < k) (h2 : k < 16) : rd (cntOf xs) k = (before xs k xs.length : Nat) := by
  unfold cntOf
  rw [rd_set (by rw [cntTo_length]; omega), if_neg (by omega), rd_cntTo _ _ _ h2]
  rfl
theorem rd_cntOf_zero (xs : List Int) : rd (cntOf xs) 0 = 0 := by
  unfold cntOf
  rw [rd_set (by rw [cntTo_length]; omega), if_pos rfl]
/-- The next code of length k behind the first s symbols. -/
def nextCode (xs : List Int) (k s : Nat) : Int := firstAt (cntOf xs) k + (before xs k s : Nat)
theorem nextCode_over (xs : List Int) (k : Nat) (h : 0 < k) (h2 : k < 16) : nextCode xs (k + 1) 0 = 2 * nextCode xs k xs.length := by
  unfold nextCode
  rw [before_zero]
  simp only [firstAt]
  rw [rd_cntOf_pos xs k h h2]
  omega
theorem nextCode_one (xs : List Int) : nextCode xs 1 0 = 0 := by
  unfold nextCode
  rw [before_zero]
  simp only [firstAt]
  rw [rd_cntOf_zero]
  rfl
theorem nextCode_range (xs : List Int) (k s : Nat) (hk : k ≤ 16) : 0 ≤ nextCode xs k s ∧ nextCode xs k s ≤ 131072 * xs.length + s := by
  have h1 := firstAt_le (cntOf xs) xs.length (by omega) (rd_cntOf xs) k hk
  have h2 := before_le xs k s
  unfold nextCode
  omega
/-- The code of a symbol; 0, if it has none. -/
def codeAt (xs : List Int) (s : Nat) : Int := if 0 < rd xs s ∧ rd xs s ≤ 15 then nextCode xs (rd xs s).toNat s else 0
def codesOf (xs : List Int) : List Int := (List.range xs.length).map (codeAt xs)
theorem codesOf_length (xs : List Int) : (codesOf xs).length = xs.length := by simp [codesOf]
theorem rd_codesOf (xs : List Int) (j : Nat) (h : j < xs.length) : rd (codesOf xs) j = codeAt xs j := by
  rw [rd_getElem (by rw [codesOf_length]; exact h)]
  simp [codesOf]
end Go.Proofs.YtendohnkhbgfbaaDoor
/-
  The walks of firsts and Codes.
-/
namespace Go.Proofs.YtendohnkhbgfbaaDoor
open Go.RowKit

def firstsTo (c : List Int) (k : Nat) : List Int := (List.range 16).map fun j => if j < k then firstAt c j else 0
theorem firstsTo_length (c : List Int) (k : Nat) : (firstsTo c k).length = 16 := by simp [firstsTo]
theorem rd_firstsTo (c : List Int) (k j : Nat) (h : j < 16) : rd (firstsTo c k) j = if j < k then firstAt c j else 0 := by
  rw [rd_getElem (by rw [firstsTo_length]; exact h)]
  simp [firstsTo]
theorem firstsTo_next (c : List Int) (k : Nat) (h : k < 16) : firstsTo c (k + 1) = (firstsTo c k).set k (firstAt c k) := by
  apply ext_rd (by simp [firstsTo_length])
  intro j hj
  rw [firstsTo_length] at hj
  rw [rd_set (by rw [firstsTo_length]; exact h), rd_firstsTo _ _ _ hj, rd_firstsTo _ _ _ hj]
  by_cases e : k = j
  · subst e; rw [if_pos rfl, if_pos (by omega)]
  · rw [if_neg e]
    by_cases g : j < k
    · rw [if_pos g, if_pos (by omega)]
    · rw [if_neg g, if_neg (by omega)]
theorem firstsTo_all (c : List Int) : firstsTo c 16 = firstsOf c := by
  apply ext_rd (by rw [firstsTo_length, firstsOf_length])
  intro j hj
  rw [firstsTo_length] at hj
  rw [rd_firstsTo _ _ _ hj, rd_firstsOf _ _ hj, if_pos hj]
theorem firstsTo_one (c : List Int) : firstsTo c 1 = List.replicate 16 0 := by
  apply ext_rd (by rw [firstsTo_length, List.length_replicate])
  intro j hj
  rw [firstsTo_length] at hj
  rw [rd_firstsTo _ _ _ hj]
  have : rd (List.replicate 16 (0 : Int)) j = 0 := by
    rw [rd_getElem (by rw [List.length_replicate]; exact hj), List.getElem_replicate]
  rw [this]
  split
  · have : j = 0 := by omega
    subst this; rfl
  · rfl

set_option maxHeartbeats 1000000 in
set_option maxRecDepth 200000 in
theorem firsts_calls (c : List Int) (n : Nat) (w : World) (hl : c.length = 16) (hn : n ≤ 1000000) (hc : ∀ j, j < 16 → 0 ≤ rd c j ∧ rd c j ≤ n) :
    Calls Tryd.prog 110 #[.agg (ints .i64 c).toArray] w fun e w' => e = .returned (.agg (ints .u64 (firstsOf c)).toArray) ∧ Below w.heap.size w w' := by
  have Hl := Lib.hid hl
  have Hc := Lib.hid hc
  clear hc
  go_enter Tryd.func110, Tryd.ntmps110
  go_wp2
  go_loopw [4, 5] (fun x i wr => ∃ k : Nat, k ≤ 15 ∧ i = .int .i64 (1 + k) ∧ x = .int .u64 (firstAt c k) ∧ Blk wr w.heap.size 175 .i64 c ∧ Blk wr (w.heap.size + 1) 178 .u64 (List.replicate 16 0) ∧ Blk wr (w.heap.size + 1 + 1) 178 .u64 (firstsTo c (1 + k)) ∧ Below w.heap.size w wr) (fun _ i _ => 16 - (intOf i).toNat)
  case atStart =>
    refine ⟨0, by omega, rfl, rfl, ?_, ?_, ?_, below_new (below_new (below_new (Below.refl _ _) (Nat.le_refl _) _) (Nat.le_refl _) _) (Nat.le_refl _) _⟩
    · exact Blk.alloc (Blk.alloc (heap_alloc_new w _) _) _
    · have h1 : Blk ((w.alloc (Obj.cells (ints .i64 c).toArray 175)).alloc (Obj.cells #[Value.int IntKind.u64 0, Value.int IntKind.u64 0, Value.int IntKind.u64 0, Value.int IntKind.u64 0, Value.int IntKind.u64 0, Value.int IntKind.u64 0, Value.int IntKind.u64 0, Value.int IntKind.u64 0, Value.int IntKind.u64 0, Value.int IntKind.u64 0, Value.int IntKind.u64 0, Value.int IntKind.u64 0, Value.int IntKind.u64 0, Value.int IntKind.u64 0, Value.int IntKind.u64 0, Value.int IntKind.u64 0] 178)) (w.heap.size + 1) 178 .u64 (List.replicate 16 0) := heap_alloc2_new _ _ _
      exact h1.alloc _
    · rw [firstsTo_one]
      have h1 : Blk (((w.alloc (Obj.cells (ints .i64 c).toArray 175)).alloc (Obj.cells #[Value.int IntKind.u64 0, Value.int IntKind.u64 0, Value.int IntKind.u64 0, Value.int IntKind.u64 0, Value.int IntKind.u64 0, Value.int IntKind.u64 0, Value.int IntKind.u64 0, Value.int IntKind.u64 0, Value.int IntKind.u64 0, Value.int IntKind.u64 0, Value.int IntKind.u64 0, Value.int IntKind.u64 0, Value.int IntKind.u64 0, Value.int IntKind.u64 0, Value.int IntKind.u64 0, Value.int IntKind.u64 0] 178)).alloc (Obj.cells #[Value.int IntKind.u64 0, Value.int IntKind.u64 0, Value.int IntKind.u64 0, Value.int IntKind.u64 0, Value.int IntKind.u64 0, Value.int IntKind.u64 0, Value.int IntKind.u64 0, Value.int IntKind.u64 0, Value.int IntKind.u64 0, Value.int IntKind.u64 0, Value.int IntKind.u64 0, Value.int IntKind.u64 0, Value.int IntKind.u64 0, Value.int IntKind.u64 0, Value.int IntKind.u64 0, Value.int IntKind.u64 0] 178)) ((w.alloc (Obj.cells (ints .i64 c).toArray 175)).heap.size + 1) 178 .u64 (List.replicate 16 0) := heap_alloc2_new _ _ _
      rw [show (w.alloc (Obj.cells (ints .i64 c).toArray 175)).heap.size = w.heap.size + 1 from by simp] at h1
      exact h1
  case round =>
    obtain ⟨k, hk, rfl, rfl, hB0, hB1, hB2, hbel⟩ := hrel
    have HB0 := Lib.hid hB0
    have HB1 := Lib.hid hB1
    have HB2 := Lib.hid hB2
    have Hbel := Lib.hid hbel
    clear hB0 hB1 hB2 hbel
    by_cases hlt : k < 15
    · have hck := HB0.out.cell (j := k) (by omega)
      have hr := Hc.out k (by omega)
      have hf := firstAt_le c n (by omega) Hc.out k (by omega)
      have hst := HB2.out.frozen (1 + k)
      have hcl := HB2.out.cell (j := 1 + k) (by rw [firstsTo_length]; omega)
      have El := Lib.hid (show firstAt c (1 + k) = 2 * (firstAt c k + rd c k) from by rw [Nat.add_comm]; rfl)
      have s1 : ((1 : Int) + k).toNat = 1 + k := by omega
      have s2 : IntKind.i64.wrap (1 + (k : Int) - 1) = k := by rw [IntWalk.i64_in _ (by omega)]; omega
      go_wp2
      go_roundw
      case rel =>
        have e1 : (firstAt c k + rd c k) * 2 = firstAt c (1 + k) := by rw [El.out]; omega
        refine ⟨k + 1, by omega, by go_num, by rw [e1, Nat.add_comm], HB0.out.other _ _ (by simp; omega), HB1.out.other _ _ (by simp), ?_, Hbel.out.setCell (by simp; omega) _⟩
        rw [show 1 + (k + 1) = 1 + k + 1 from by omega, firstsTo_next c (1 + k) (by omega), ← e1]
        exact HB2.out.set _ _
      case measure => simp [intOf]; omega
    · have hk15 : k = 15 := by omega
      rw [hk15, show 1 + 15 = 16 from rfl, firstsTo_all] at HB2
      clear hk15
      have hs : (ints .u64 (firstsOf c)).toArray.size = 16 := by rw [ints_size, firstsOf_length]
      have Hs := Lib.hid hs
      clear hs
      go_wp2_with (first
        | (refine wpList_load_row rfl 178 _ rfl (w.heap.size + 1 + 1) rfl 178 _ (0, 0) _ HB2.out Tryd.underlying178 rfl (by rw [Hs.out]; kernel_rfl) ?_)
        | (refine wpList_store_row rfl 178 _ _ rfl (w.heap.size + 1) _ rfl rfl 178 _ HB1.out (by rw [Hs.out]; kernel_rfl) (by rw [Hs.out]; simp [ints]) (ints_one _ _) ?_))
      have hrow := setRow_heap _ (w.heap.size + 1) _ (ints .u64 (firstsOf c)).toArray 178 _ HB1.out
      have hl := run_loadVar_row (P := Tryd.prog) _ (w.heap.size + 1) 178 178 _ _ _ hrow Tryd.underlying178 rfl (by rw [Hs.out]; kernel_rfl)
      refine bodyPost_ret (v := .agg (ints .u64 (firstsOf c)).toArray) ?_ rfl ⟨rfl, ?_⟩
      · simp [results, Tryd.results110, asAddr, hl, Act.put]
      · exact Hbel.out.trans ⟨rfl, rfl, rfl, by simp, fun i hi => setRow_other _ (w.heap.size + 1) i _ (by omega)⟩
end Go.Proofs.YtendohnkhbgfbaaDoor
/-
  The walk of Codes.
-/
namespace Go.Proofs.YtendohnkhbgfbaaDoor
open Go.RowKit

theorem elU64 : ElT Tryd.prog 108 49 (.int .u64 0) 1 8 := ⟨Tryd.underlying108, by kernel_rfl, rfl, by decide, by decide⟩

theorem lensOk_at {xs : List Int} (h : lensOk xs = true) (s : Nat) (hs : s < xs.length) : 0 ≤ rd xs s ∧ rd xs s ≤ 15 := by
  have := List.all_eq_true.1 h xs[s] (List.getElem_mem _)
  rw [rd_getElem hs]
  simpa using this

set_option maxHeartbeats 2000000 in
set_option maxRecDepth 200000 in
theorem Codes_calls (A : Option Addr) (n cap : Nat) (xs : List Int) (w : World) (hR : Rd w .i64 A n xs) (hn : n ≤ 1000000) (hok : lensOk xs = true) :
    Calls Tryd.prog 80 #[.slice A n cap] w fun e w' => ∃ v, e = .returned v ∧ w'.ownsRow w.heap.size 49 1 v n (ints .u64 (codesOf xs)) ∧ Below w.heap.size w w' := by
  have HR := Lib.hid hR
  have hlen := Lib.hid hR.1
  have Hok := Lib.hid hok
  clear hR hok
  go_enter Tryd.func80, Tryd.ntmps80
  go_wp2_with fail
  refine (counts_calls A n cap xs _ HR.out (by omega)).mono ?_
  rintro e w1 ⟨l, hl, rfl, hcnt, hb1⟩
  obtain rfl := hcnt Hok.out
  have Hl := Lib.hid hl
  have Hb1 := Lib.hid hb1
  have hs1 := hb1.size
  have Hc := Lib.hid (rd_cntOf xs)
  clear hl hcnt hb1
  generalize hcd : cntOf xs = c at *
  have Hcd := Lib.hid hcd
  clear hcd
  have W2 : Hid (∀ o, Below w.heap.size w (World.setRow (w1.alloc o) w1.heap.size (ints .i64 c).toArray)) := fun o => (below_new Hb1.out (Nat.le_refl _) _).trans ⟨rfl, rfl, rfl, by simp, fun i hi => setRow_other _ w1.heap.size i _ (by omega)⟩
  go_wp2_with (first
    | (refine wpList_store_row rfl 175 _ _ rfl w1.heap.size _ rfl rfl 175 _ (heap_alloc_new _ _) (by rw [ints_size, Hl.out]; kernel_rfl) (by rw [ints_size, Hl.out]; rfl) (ints_one _ _) ?_)
    | (refine wpList_load_row rfl 175 _ rfl w1.heap.size rfl 175 _ (0, 0) _ (setRow_heap _ w1.heap.size _ _ 175 _ (heap_alloc_new _ _)) Tryd.underlying175 rfl (by rw [ints_size, Hl.out]; kernel_rfl) ?_))
  refine (firsts_calls c n _ Hl.out hn (by have := Hc.out; rw [hlen.out] at this; exact this)).mono ?_
  rintro e w2 ⟨rfl, hb2⟩
  have Hb2 := Lib.hid (below_seq (W2.out _) (Nat.le_refl _) hb2)
  have hs2 := Hb2.out.size
  have Fl := Lib.hid (firstsOf_length c)
  have W3 : Hid (∀ o, Below w.heap.size w (World.setRow (w2.alloc o) w2.heap.size (ints .u64 (firstsOf c)).toArray)) := fun o => (below_new Hb2.out (Nat.le_refl _) _).trans ⟨rfl, rfl, rfl, by simp, fun i hi => setRow_other _ w2.heap.size i _ (by omega)⟩
  have B3 : Hid (∀ old, Blk (World.setRow (w2.alloc (.cells old 178)) w2.heap.size (ints .u64 (firstsOf c)).toArray) w2.heap.size 178 .u64 (firstsOf c)) := fun old => setRow_heap _ w2.heap.size _ _ 178 _ (heap_alloc_new w2 (Obj.cells old 178))
  clear hb2 W2 Hb1
  go_wp2_with (first
    | (refine wpList_store_row rfl 178 _ _ rfl w2.heap.size _ rfl rfl 178 _ (heap_alloc_new _ _) (by rw [ints_size, Fl.out]; kernel_rfl) (by rw [ints_size, Fl.out]; rfl) (ints_one _ _) ?_)
    | (at_make; refine wpList_mk1 (base := w.heap.size) (n := n) _ rfl _ _ rfl elU64 rfl rfl rfl rfl (by omega) (by simp; omega) ?_; intro w4 hown4 hb4 hsz4))
  have hown4' : w4.ownsRow w.heap.size 49 1 (.slice (some ⟨w2.heap.size + 1, 0, none⟩) n n) n (ints .u64 (List.replicate n 0)) := by simpa using hown4
  have hsz4' : w4.heap.size = w2.heap.size + 1 + 1 := by simpa using hsz4
  have Hown4 := Lib.hid hown4'
  have HB4 := Lib.hid ((B3.out _).below hb4 (by simp))
  have Hb4 := Lib.hid (below_seq (W3.out _) (Nat.le_refl _) hb4)
  have hs4 : w2.heap.size < w4.heap.size := HB4.out.lt
  clear hown4 hown4' hb4 W3 B3 hsz4
  go_loopw [21] (fun i wr => ∃ (s : Nat) (nx l : List Int), s ≤ n ∧ i = .int .i64 s ∧ wr.ownsRow w.heap.size 49 1 (.slice (some ⟨w2.heap.size + 1, 0, none⟩) n n) n (ints .u64 l) ∧ Blk wr w2.heap.size 178 .u64 nx ∧ nx.length = 16 ∧ Hid (∀ j, 0 < j → j < 16 → rd nx j = nextCode xs j s) ∧ Hid (∀ j, j < n → rd l j = if j < s then codeAt xs j else 0) ∧ Below w.heap.size w wr) (fun i _ => n - (intOf i).toNat)
  case atStart =>
    refine ⟨0, _, _, by omega, rfl, Hown4.out, HB4.out, Fl.out, ?_, ?_, Hb4.out⟩
    · intro j h1 h2
      rw [rd_firstsOf _ _ h2]
      unfold nextCode
      rw [Hcd.out, before_zero]
      exact (Int.add_zero _).symm
    · intro j hj
      rw [if_neg (by omega), rd_getElem (by rw [List.length_replicate]; exact hj), List.getElem_replicate]
  case round =>
    obtain ⟨s, nx, l, hs, rfl, hown, hB, hnl, Hnx, Hl2, hbel⟩ := hrel
    have hll : l.length = n := by have := hown.1; simpa [ints] using this
    have Hown := Lib.hid hown
    have HB := Lib.hid hB
    have Hbel := Lib.hid hbel
    clear hown hB hbel
    by_cases hlt : s < n
    · obtain ⟨b, o, rfl, hcx⟩ := HR.out.2 (by omega)
      have z := kept_cell Hbel.out (hcx s hlt)
      clear hcx
      have hx := lensOk_at Hok.out s (by rw [hlen.out]; exact hlt)
      by_cases h0 : rd xs s = 0
      · have e1 : codeAt xs s = 0 := by unfold codeAt; rw [if_neg (by omega)]
        have H0 := Lib.hid h0
        have Hnx2 : Hid (∀ j, 0 < j → j < 16 → rd nx j = nextCode xs j (s + 1)) := fun j h1 h2 => by
          rw [Hnx.out j h1 h2]
          unfold nextCode
          rw [before_miss xs j s (by rw [hlen.out]; exact hlt) (by rw [H0.out]; omega)]
        rw [h0] at z
        clear h0 hx
        go_wp2
        go_roundw
        case rel =>
          refine ⟨s + 1, nx, l, by omega, by go_num, Hown.out, HB.out, hnl, Hnx2, ?_, Hbel.out⟩
          intro j hj
          rw [Hl2.out j hj]
          by_cases g : j < s
          · rw [if_pos g, if_pos (by omega)]
          · rw [if_neg g]
            by_cases g2 : j = s
            · subst g2; rw [if_pos (by omega), e1]
            · rw [if_neg (by omega)]
        case measure => simp [intOf]; omega
      · obtain ⟨k, hk⟩ : ∃ k : Nat, rd xs s = k := ⟨(rd xs s).toNat, by omega⟩
        rw [hk] at z
        have k1 : 0 < k := by omega
        have k2 : k < 16 := by omega
        have hv := nextCode_range xs k s (by omega)
        rw [hlen.out] at hv
        have e1 : codeAt xs s = rd nx k := by
          unfold codeAt
          rw [if_pos (by omega), hk, Hnx.out k k1 k2]
          rfl
        rw [← Hnx.out k k1 k2] at hv
        have E1 := Lib.hid e1
        have HK := Lib.hid hk
        have yc := HB.out.cell (j := k) (by omega)
        have yf := HB.out.frozen k
        have xc := Hown.out.cellAt s (by omega)
        rw [ints_get (by omega)] at xc
        have xf := Hown.out.frozenAt s
        have Hnx2 : Hid (∀ j, 0 < j → j < 16 → rd (nx.set k (rd nx k + 1)) j = nextCode xs j (s + 1)) := fun j h1 h2 => by
          rw [rd_set (by omega)]
          by_cases e : k = j
          · subst e
            rw [if_pos rfl, Hnx.out k h1 h2]
            unfold nextCode
            rw [before_hit xs k s (by rw [hlen.out]; exact hlt) HK.out]
            omega
          · rw [if_neg e, Hnx.out j h1 h2]
            unfold nextCode
            rw [before_miss xs j s (by rw [hlen.out]; exact hlt) (by rw [HK.out]; omega)]
        clear h0 hx hk e1
        go_wp2
        go_roundw
        case rel =>
          refine ⟨s + 1, nx.set k (rd nx k + 1), l.set s (rd nx k), by omega, by go_num, ?_, ?_, by rw [List.length_set]; exact hnl, Hnx2, ?_, (Hbel.out.setCell (p := ⟨w2.heap.size + 1, s, none⟩) (by show _ ≤ w2.heap.size + 1; omega) _).setCell (p := ⟨w2.heap.size, k, none⟩) hs2 _⟩
          · exact ownsRow_setCell_other (a := ⟨w2.heap.size, k, none⟩) (by rw [ints_set]; exact (Hown.out.stored s _).1) (by simp [Value.ownBlock]) _
          · exact (HB.out.other ⟨w2.heap.size + 1, s, none⟩ _ (by simp)).set k _
          · intro j hj
            rw [rd_set (by omega), Hl2.out j hj]
            by_cases g2 : s = j
            · subst g2; rw [if_pos rfl, if_pos (by omega), E1.out]
            · rw [if_neg g2]
              by_cases g : j < s
              · rw [if_pos g, if_pos (by omega)]
              · rw [if_neg g, if_neg (by omega)]
        case measure => simp [intOf]; omega
    · obtain rfl : s = n := by omega
      have e : l = codesOf xs := ext_rd (by rw [hll, codesOf_length, hlen.out]) (fun j hj => by rw [Hl2.out j (by omega), if_pos (by omega), rd_codesOf _ _ (by rw [hlen.out]; omega)])
      subst e
      go_wp2
      go_ret
      exact ⟨_, rfl, Hown.out, Hbel.out⟩
end Go.Proofs.YtendohnkhbgfbaaDoor
