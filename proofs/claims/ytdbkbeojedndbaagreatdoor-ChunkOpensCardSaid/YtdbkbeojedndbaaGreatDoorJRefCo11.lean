/-
  Texts joined into one file: Wts, CodesP, HuffT.
-/
import Derived.Test.YtdbkbeojedndbaaGreatDoorJRefCo8
import Derived.Test.YtdbkbeojedndbaaGreatDoorJRefCo4
import Derived.Deep.RegionHeld3
import Derived.BigQuiet
import Derived.IntWalk
import Derived.Test.YtdbkbeojedndbaaGreatDoorJRefCo1
namespace Go.Proofs.YtdbkbeojedndbaaGreatDoor
open Go.RowKit

def tokOk (l b d : Int) : Bool := (l == 0 && d == 0) || (b == 0 && (decide (2 < l) && (decide (l < 259) && (decide (0 < d) && decide (d < 32769)))))
def symA (l b : Int) : Int := if l = 0 then b else symS 257 lens l
def cntA (ts : List Tok) (j : Nat) : Int := ((ts.filter fun t => decide (symA t.2.1 t.1 = j)).length : Nat)
def cntD (ts : List Tok) (j : Nat) : Int := ((ts.filter fun t => decide (t.2.1 ≠ 0 ∧ symS 0 dists t.2.2 = j)).length : Nat)
theorem take_tok (ts : List Tok) (k : Nat) (h : k < ts.length) : ts.take (k + 1) = ts.take k ++ [(tokB ts k, tokL ts k, tokD ts k)] := by
 have e : ts[k] = (tokB ts k, tokL ts k, tokD ts k) := by simp [tokB, tokL, tokD, List.getD_eq_getElem?_getD, List.getElem?_eq_getElem h]
 rw [List.take_succ_eq_append_getElem h, e]
theorem filt_next (p : Tok → Bool) (l : List Tok) (x : Tok) : ((((l ++ [x]).filter p).length : Nat) : Int) = ((l.filter p).length : Nat) + if p x = true then 1 else 0 := by
 rw [List.filter_append, List.length_append]
 cases h : p x <;> simp [h]
theorem cntA_next (ts : List Tok) (k j : Nat) (h : k < ts.length) : cntA (ts.take (k + 1)) j = cntA (ts.take k) j + if symA (tokL ts k) (tokB ts k) = j then 1 else 0 := by
 rw [take_tok ts k h]
 unfold cntA
 rw [filt_next]
 simp only [decide_eq_true_eq]
theorem cntD_next (ts : List Tok) (k j : Nat) (h : k < ts.length) : cntD (ts.take (k + 1)) j = cntD (ts.take k) j + if tokL ts k ≠ 0 ∧ symS 0 dists (tokD ts k) = j then 1 else 0 := by
 rw [take_tok ts k h]
 unfold cntD
 rw [filt_next]
 simp only [decide_eq_true_eq]
theorem cntA_le (ts : List Tok) (k j : Nat) : 0 ≤ cntA (ts.take k) j ∧ cntA (ts.take k) j ≤ k := by
 have h1 := List.length_filter_le (fun t : Tok => decide (symA t.2.1 t.1 = j)) (ts.take k)
 have h2 := List.length_take_le k ts
 unfold cntA
 omega
theorem cntD_le (ts : List Tok) (k j : Nat) : 0 ≤ cntD (ts.take k) j ∧ cntD (ts.take k) j ≤ k := by
 have h1 := List.length_filter_le (fun t : Tok => decide (t.2.1 ≠ 0 ∧ symS 0 dists t.2.2 = j)) (ts.take k)
 have h2 := List.length_take_le k ts
 unfold cntD
 omega
theorem cntA_zero (ts : List Tok) (j : Nat) : cntA (ts.take 0) j = 0 := rfl
theorem cntD_zero (ts : List Tok) (j : Nat) : cntD (ts.take 0) j = 0 := rfl
theorem tokOk_cases {l b d : Int} (h : tokOk l b d = true) : (l = 0 ∧ d = 0) ∨ (b = 0 ∧ 3 ≤ l ∧ l ≤ 258 ∧ 1 ≤ d ∧ d ≤ 32768) := by
 unfold tokOk at h
 simp at h
 omega

theorem symField0 (x y z : Int) (w : World) : Sem.run Tryz.prog (Instr.field 118 (.agg #[.int .i64 x, .int .i64 y, .int .u64 z]) 0) w = .ok (.int .i64 x) w := by
 have h := run_underlying (w := w) Tryz.underlying118
 simp [Instr.field, h]
 go_simp
 simp [asAgg]
theorem rd_replicate (n j : Nat) : rd (List.replicate n 0) j = 0 := by
 unfold rd
 rw [List.getD_eq_getElem?_getD, List.getElem?_replicate]
 split <;> rfl
theorem symA_zero (b : Int) : symA 0 b = b := if_pos rfl
theorem symA_some {l : Int} (b : Int) (h : 3 ≤ l) : symA l b = symS 257 lens l := if_neg (by omega)
theorem count_next {l : List Int} {n p : Nat} {f g : Nat → Int} (hl : l.length = n) (hp : p < n) (h : ∀ j, j < n → rd l j = f j) (hg : ∀ j, j < n → g j = f j + if (p : Int) = j then 1 else 0) : ∀ j, j < n → rd (l.set p (rd l p + 1)) j = g j := by
 intro j hj
 rw [rd_set (by omega), hg j hj]
 by_cases e : p = j
 ·subst e
  rw [if_pos rfl, if_pos rfl, h p hj]
 ·rw [if_neg e, if_neg (by omega), h j hj]
  omega

set_option maxHeartbeats 2000000 in
set_option maxRecDepth 100000 in
theorem Weights_calls (A : Option Addr) (n c : Nat) (ts : List Tok) (w : World) (hK : Toks w A n ts) (hn : n ≤ 100000) (hwf : TokWf ts n) (hok : ∀ j, j < n → tokOk (tokL ts j) (tokB ts j) (tokD ts j) = true) (hT : Tabs w) :
  Calls Tryz.prog 55 #[.slice A n c] w fun e w' => ∃ (ga gb : Nat) (la lb : List Int), e = .returned (.tuple #[.slice (some ⟨ga, 0, none⟩) 286 286, .slice (some ⟨gb, 0, none⟩) 30 30]) ∧
   w'.ownsRow w.heap.size 3 1 (.slice (some ⟨ga, 0, none⟩) 286 286) 286 (ints .i64 la) ∧ w'.ownsRow w.heap.size 3 1 (.slice (some ⟨gb, 0, none⟩) 30 30) 30 (ints .i64 lb) ∧
   Hid (∀ j, j < 286 → rd la j = cntA ts j + if 256 = j then 1 else 0) ∧ Hid (∀ j, j < 30 → rd lb j = cntD ts j) ∧ Below w.heap.size w w' := by
 have Hlen := Lib.hid hK.1
 have HK := Lib.hid hK
 have Hwf := Lib.hid hwf
 have Hok := Lib.hid hok
 have HT := Lib.hid hT
 clear hK hwf hok hT
 have hF := symField0
 go_enter Tryz.func55, Tryz.ntmps55
 go_upto_region 1 with fail
 go_cut [4, 5] from 8 to 9 (fun a b wx => ∃ ga gb, ga ≠ gb ∧ a = .slice (some ⟨ga, 0, none⟩) 286 286 ∧ b = .slice (some ⟨gb, 0, none⟩) 30 30 ∧ (∃ la, Hid (∀ j, rd la j = 0) ∧ wx.ownsRow w.heap.size 3 1 a 286 (ints .i64 la)) ∧ (∃ lb, Hid (∀ j, rd lb j = 0) ∧ wx.ownsRow w.heap.size 3 1 b 30 (ints .i64 lb)) ∧ Below w.heap.size w wx)
 case first =>
  obtain ⟨oA, la, mA, lA, rA⟩ := make_rule elIntF 286 286 rfl (by decide)
  obtain ⟨oB, lb, mB, lB, rB⟩ := make_rule elIntF 30 30 rfl (by decide)
  have zA : Hid (∀ j, rd la j = 0) := fun j => by rw [lA.out]; exact rd_replicate _ _
  have zB : Hid (∀ j, rd lb j = 0) := fun j => by rw [lB.out]; exact rd_replicate _ _
  clear lA lB
  go_wp2
  go_region
  ·go_wp2
   go_meet
   exact ⟨w.heap.size, w.heap.size + 1, by omega, by simp, by simp, ⟨la, zA, (rA.out w.drew _ _ rfl (Nat.le_refl _)).alloc _⟩, ⟨lb, zB, rB.out (w.drew.alloc oA) _ _ (by simp) (by omega)⟩, below_new (below_new (Below.refl _ _).drew (Nat.le_refl _) _) (Nat.le_refl _) _⟩
  ·go_wp2
   go_meet
   exact ⟨w.heap.size + 1, w.heap.size, by omega, by simp, by simp, ⟨la, zA, rA.out (w.drew.alloc oB) _ _ (by simp) (by omega)⟩, ⟨lb, zB, (rB.out w.drew _ _ rfl (Nat.le_refl _)).alloc _⟩, below_new (below_new (Below.refl _ _).drew (Nat.le_refl _) _) (Nat.le_refl _) _⟩
 case rest =>
  obtain ⟨ga, gb, hne, rfl, rfl, ⟨la, zA, hownA⟩, ⟨lb, zB, hownB⟩, hb⟩ := hcut
  have HA := Lib.hid hownA
  have HB := Lib.hid hownB
  have Hb := Lib.hid hb
  clear hownA hownB hb
  go_wp2
  go_loopw [12] (fun i wr => ∃ (k : Nat) (la lb : List Int), k ≤ n ∧ i = .int .i64 k ∧ wr.ownsRow w.heap.size 3 1 (.slice (some ⟨ga, 0, none⟩) 286 286) 286 (ints .i64 la) ∧ wr.ownsRow w.heap.size 3 1 (.slice (some ⟨gb, 0, none⟩) 30 30) 30 (ints .i64 lb) ∧ Hid (∀ j, j < 286 → rd la j = cntA (ts.take k) j) ∧ Hid (∀ j, j < 30 → rd lb j = cntD (ts.take k) j) ∧ Below w.heap.size w wr) (fun i _ => n - (intOf i).toNat)
  case atStart => exact ⟨0, la, lb, by omega, rfl, HA.out, HB.out, (fun j _ => zA.out j), (fun j _ => zB.out j), Hb.out⟩
  case round =>
   obtain ⟨k, la, lb, hk, rfl, hA, hB, Hla, Hlb, hbel⟩ := hrel
   have hga := (hA.lt ga rfl).1
   have hgb := (hB.lt gb rfl).1
   have hga2 := (hA.lt ga rfl).2
   have hgb2 := (hB.lt gb rfl).2
   have hll : la.length = 286 := by have := hA.1; simpa [ints] using this
   have hlb : lb.length = 30 := by have := hB.1; simpa [ints] using this
   have HA := Lib.hid hA
   have HB := Lib.hid hB
   have Hbel := Lib.hid hbel
   have hsz := hbel.size
   clear hA hB hbel
   by_cases hlt : k < n
   ·obtain ⟨b, o, rfl, hc⟩ := HK.out.2 (by omega)
    obtain ⟨z0, z1, z2⟩ := hc k hlt
    have z0 := kept_cell Hbel.out z0
    have z1 := kept_cell Hbel.out z1
    have z2 := kept_cell Hbel.out z2
    have hw := Hwf.out k hlt
    have hca := fun j => cntA_next ts k j (by rw [Hlen.out]; exact hlt)
    have hcd := fun j => cntD_next ts k j (by rw [Hlen.out]; exact hlt)
    clear hc
    rcases tokOk_cases (Hok.out k hlt) with ⟨hl, hd⟩ | ⟨hb0, hl1, hl2, hd1, hd2⟩
    ·rw [hl] at z1
     obtain ⟨m, hm⟩ : ∃ m : Nat, tokB ts k = m := ⟨(tokB ts k).toNat, by omega⟩
     rw [hm] at z0 hw
     have hm2 : m < 286 := by omega
     have hnew := Lib.hid (count_next hll hm2 Hla.out (g := fun j => cntA (ts.take (k + 1)) j) (fun j _ => by show cntA (ts.take (k + 1)) j = _; rw [hca j, hl, symA_zero, hm]))
     have hnewd : Hid (∀ j, j < 30 → rd lb j = cntD (ts.take (k + 1)) j) := fun j hj => by rw [hcd j, if_neg (fun h => h.1 hl), Hlb.out j hj, Int.add_zero]
     have hv := cntA_le ts k m
     rw [← Hla.out m hm2] at hv
     have yc := HA.out.cellAt m (by omega)
     rw [ints_get (by omega)] at yc
     have yk := kept_new yc
     have yf : ∀ o : Obj, (wr.alloc o).frozen? ⟨ga, m, none⟩ = false := fun o => (HA.out.alloc o).frozenAt m
     have Hm := Lib.hid hm
     clear hca hcd hd hl hm yc
     go_wp2
     go_roundw
     case rel =>
      exact ⟨k + 1, la.set m (rd la m + 1), lb, by omega, by go_num, by rw [ints_set]; exact ((HA.out.stored m _).1).alloc _, (ownsRow_setCell_other (a := ⟨ga, m, none⟩) HB.out (by simpa [Value.ownBlock] using hne.symm) _).alloc _, hnew, hnewd, below_new (Hbel.out.setCell (p := ⟨ga, m, none⟩) hga _) (Nat.le_refl _) _⟩
     case measure => simp [intOf]; omega
    ·generalize tokB ts k = vb at *
     generalize tokL ts k = vl at *
     generalize tokD ts k = vd at *
     have hsl := symL_range vl hl1 hl2
     have hsd := symD_range vd hd1 hd2
     obtain ⟨p, hp⟩ : ∃ p : Nat, symS 257 lens vl = p := ⟨(symS 257 lens vl).toNat, by omega⟩
     obtain ⟨q, hq⟩ : ∃ q : Nat, symS 0 dists vd = q := ⟨(symS 0 dists vd).toNat, by omega⟩
     have hp2 : p < 286 := by omega
     have hq2 : q < 30 := by omega
     have hnew := Lib.hid (count_next hll hp2 Hla.out (g := fun j => cntA (ts.take (k + 1)) j) (fun j _ => by show cntA (ts.take (k + 1)) j = _; rw [hca j, symA_some _ hl1, hp]))
     have hnewd := Lib.hid (count_next hlb hq2 Hlb.out (g := fun j => cntD (ts.take (k + 1)) j) (fun j _ => by
      show cntD (ts.take (k + 1)) j = _
      rw [hcd j, hq]
      by_cases e : (q : Int) = j
      ·rw [if_pos ⟨by omega, e⟩, if_pos e]
      ·rw [if_neg (fun h => e h.2), if_neg e]))
     have hv := cntA_le ts k p
     rw [← Hla.out p hp2] at hv
     have hvd := cntD_le ts k q
     rw [← Hlb.out q hq2] at hvd
     have hl0 : (vl == 0) = false := by simp; omega
     have hcl : clampL vl = vl := clampL_in hl1 hl2
     have hcd2 : clampD vd = vd := clampD_in hd1 hd2
     have HCL := Lib.hid hcl
     have HCD := Lib.hid hcd2
     have HP := Lib.hid hp
     have HQ := Lib.hid hq
     clear hca hcd hcl hcd2 hp hq hsl hsd
     go_wp2_with fail
     refine (Length_calls vl _ (by omega) (by omega) (HT.out.below (below_new Hbel.out (Nat.le_refl _) _)).1).mono ?_
     rintro e w2 ⟨rfl, hb2⟩
     rw [HCL.out, HP.out]
     have t0 := (laid_kept hb2 0 _ rfl).1
     have t1 := (laid_kept hb2 1 _ rfl).1
     have t2 := (laid_kept hb2 2 _ rfl).1
     have HA2 := Lib.hid (own_below (HA.out.alloc _) hb2)
     have HB2 := Lib.hid (own_below (HB.out.alloc _) hb2)
     have Hb2 := Lib.hid (below_seq (below_new Hbel.out (Nat.le_refl _) _) (Nat.le_refl _) hb2)
     have hsz2 := hb2.size
     have yc := HA2.out.cellAt p (by omega)
     rw [ints_get (by omega)] at yc
     have yf := HA2.out.frozenAt p
     have hne1 : ga ≠ wr.heap.size := by omega
     have hne2 : wr.heap.size ≠ ga := by omega
     clear hb2
     go_wp2_with fail
     refine (Distance_calls vd _ (by omega) (by omega) (HT.out.below (Hb2.out.setCell (p := ⟨ga, p, none⟩) hga _)).2).mono ?_
     rintro e w3 ⟨rfl, hb3⟩
     rw [HCD.out, HQ.out]
     have HA3 := Lib.hid (own_below (HA2.out.stored p (.int .i64 (rd la p + 1))).1 hb3)
     have HB3 := Lib.hid (own_below (ownsRow_setCell_other (a := ⟨ga, p, none⟩) HB2.out (by simpa [Value.ownBlock] using hne.symm) (.int .i64 (rd la p + 1))) hb3)
     have Hb3 := Lib.hid (below_seq (Hb2.out.setCell (p := ⟨ga, p, none⟩) hga (.int .i64 (rd la p + 1))) (Nat.le_refl _) hb3)
     have xc := HB3.out.cellAt q (by omega)
     rw [ints_get (by omega)] at xc
     have xf := HB3.out.frozenAt q
     clear hb3
     go_wp2
     go_roundw
     case rel =>
      exact ⟨k + 1, la.set p (rd la p + 1), lb.set q (rd lb q + 1), by omega, by go_num, ownsRow_setCell_other (by rw [ints_set]; exact HA3.out) (by simpa [Value.ownBlock] using hne) _, by rw [ints_set]; exact (HB3.out.stored q _).1, hnew, hnewd, Hb3.out.setCell hgb _⟩
     case measure => simp [intOf]; omega
   ·obtain rfl : k = n := by omega
    have yc := HA.out.cellAt 256 (by omega)
    rw [ints_get (by omega)] at yc
    have yf := HA.out.frozenAt 256
    have hv := cntA_le ts k 256
    rw [← Hla.out 256 (by omega)] at hv
    have htk : ts.take k = ts := List.take_of_length_le (by rw [Hlen.out]; exact Nat.le_refl _)
    rw [htk] at Hla Hlb
    have hnew := Lib.hid (count_next hll (show 256 < 286 by omega) Hla.out (g := fun j => cntA ts j + if 256 = j then 1 else 0) (fun j _ => by
     show cntA ts j + _ = _
     by_cases e : 256 = j
     ·rw [if_pos e, if_pos (by omega)]
     ·rw [if_neg e, if_neg (by omega)]))
    clear htk
    go_wp2
    refine bodyPost_ret (v := .tuple #[.slice (some ⟨ga, 0, none⟩) 286 286, .slice (some ⟨gb, 0, none⟩) 30 30]) (by simp [results, Tryz.results55, go_sem]) rfl ⟨ga, gb, la.set 256 (rd la 256 + 1), lb, rfl, by rw [ints_set]; exact (HA.out.stored 256 _).1, ownsRow_setCell_other HB.out (by simpa [Value.ownBlock] using hne.symm) _, hnew, Hlb, Hbel.out.setCell hga _⟩
theorem held_step {w w1 w2 : World} {a : Addr} {v : Value} (h : w1.cell? a = some v ∧ Below w.heap.size w w1) (hb : Below w1.heap.size w1 w2) : w2.cell? a = some v ∧ Below w.heap.size w w2 :=
 ⟨kept_cell hb h.1, below_seq h.2 (Nat.le_refl _) hb⟩
set_option maxHeartbeats 2000000 in
set_option maxRecDepth 100000 in
theorem rWeights_calls (A : Option Addr) (n c : Nat) (ts : List Tok) (w : World) (hK : Toks w A n ts) (hn : n ≤ 100000) (hwf : TokWf ts n) (hok : ∀ j, j < n → tokOk (tokL ts j) (tokB ts j) (tokD ts j) = true) :
  Calls Tryz.prog 66 #[.slice A n c] w fun e w' => ∃ (ga gb : Nat) (la lb : List Int), e = .returned (.tuple #[.slice (some ⟨ga, 0, none⟩) 286 286, .slice (some ⟨gb, 0, none⟩) 30 30]) ∧
   w'.ownsRow w.heap.size 3 1 (.slice (some ⟨ga, 0, none⟩) 286 286) 286 (ints .i64 la) ∧ w'.ownsRow w.heap.size 3 1 (.slice (some ⟨gb, 0, none⟩) 30 30) 30 (ints .i64 lb) ∧
   Hid (∀ j, j < 286 → rd la j = cntA ts j + if 256 = j then 1 else 0) ∧ Hid (∀ j, j < 30 → rd lb j = cntD ts j) ∧ Below w.heap.size w w' := by
 have Hlen := Lib.hid hK.1
 have HK := Lib.hid hK
 have Hwf := Lib.hid hwf
 have Hok := Lib.hid hok
 clear hK hwf hok
 go_enter Tryz.func66, Tryz.ntmps66
 go_upto_region 1 with fail
 go_cut [4, 5] from 11 to 12 (fun a b wx => ∃ ga gb, ga ≠ gb ∧ a = .slice (some ⟨ga, 0, none⟩) 286 286 ∧ b = .slice (some ⟨gb, 0, none⟩) 30 30 ∧ (∃ la, Hid (∀ j, rd la j = 0) ∧ wx.ownsRow w.heap.size 3 1 a 286 (ints .i64 la)) ∧ (∃ lb, Hid (∀ j, rd lb j = 0) ∧ wx.ownsRow w.heap.size 3 1 b 30 (ints .i64 lb)) ∧ Below w.heap.size w wx)
 case first =>
  obtain ⟨oA, la, mA, lA, rA⟩ := make_rule elIntF 286 286 rfl (by decide)
  obtain ⟨oB, lb, mB, lB, rB⟩ := make_rule elIntF 30 30 rfl (by decide)
  have zA : Hid (∀ j, rd la j = 0) := fun j => by rw [lA.out]; exact rd_replicate _ _
  have zB : Hid (∀ j, rd lb j = 0) := fun j => by rw [lB.out]; exact rd_replicate _ _
  clear lA lB
  go_wp2
  go_region
  ·go_wp2
   go_meet
   exact ⟨w.heap.size, w.heap.size + 1, by omega, by simp, by simp, ⟨la, zA, (rA.out w.drew _ _ rfl (Nat.le_refl _)).alloc _⟩, ⟨lb, zB, rB.out (w.drew.alloc oA) _ _ (by simp) (by omega)⟩, below_new (below_new (Below.refl _ _).drew (Nat.le_refl _) _) (Nat.le_refl _) _⟩
  ·go_wp2
   go_meet
   exact ⟨w.heap.size + 1, w.heap.size, by omega, by simp, by simp, ⟨la, zA, rA.out (w.drew.alloc oB) _ _ (by simp) (by omega)⟩, ⟨lb, zB, (rB.out w.drew _ _ rfl (Nat.le_refl _)).alloc _⟩, below_new (below_new (Below.refl _ _).drew (Nat.le_refl _) _) (Nat.le_refl _) _⟩
 case rest =>
  obtain ⟨ga, gb, hne, rfl, rfl, ⟨la, zA, hownA⟩, ⟨lb, zB, hownB⟩, hb⟩ := hcut
  have hga := (hownA.lt ga rfl).1
  have hll : la.length = 286 := by have := hownA.1; simpa [ints] using this
  have yc := hownA.cellAt 256 (by omega)
  rw [ints_get (by omega)] at yc
  have yf := hownA.frozenAt 256
  have HA := Lib.hid hownA
  have HB := Lib.hid hownB
  have Hb := Lib.hid hb
  clear hownA hownB hb
  go_wp2
  go_loopw [6] (fun i wr => ∃ (k : Nat) (la lb : List Int), k ≤ n ∧ i = .int .i64 k ∧ wr.ownsRow w.heap.size 3 1 (.slice (some ⟨ga, 0, none⟩) 286 286) 286 (ints .i64 la) ∧ wr.ownsRow w.heap.size 3 1 (.slice (some ⟨gb, 0, none⟩) 30 30) 30 (ints .i64 lb) ∧ Hid (∀ j, j < 286 → rd la j = cntA (ts.take k) j + if 256 = j then 1 else 0) ∧ Hid (∀ j, j < 30 → rd lb j = cntD (ts.take k) j) ∧ Below w.heap.size w wr) (fun i _ => n - (intOf i).toNat)
  case atStart =>
   refine ⟨0, la.set 256 1, lb, by omega, rfl, by rw [ints_set]; exact (HA.out.stored 256 _).1, ownsRow_setCell_other HB.out (by simpa [Value.ownBlock] using hne.symm) _, ?_, (fun j _ => zB.out j), Hb.out.setCell hga _⟩
   intro j hj
   rw [rd_set (by omega), zA.out j, cntA_zero]
   split <;> rfl
  case round =>
   obtain ⟨k, la, lb, hk, rfl, hA, hB, Hla, Hlb, hbel⟩ := hrel
   have hga := (hA.lt ga rfl).1
   have hgb := (hB.lt gb rfl).1
   have hga2 := (hA.lt ga rfl).2
   have hgb2 := (hB.lt gb rfl).2
   have hll : la.length = 286 := by have := hA.1; simpa [ints] using this
   have hlb : lb.length = 30 := by have := hB.1; simpa [ints] using this
   have HA := Lib.hid hA
   have HB := Lib.hid hB
   have Hbel := Lib.hid hbel
   have hsz := hbel.size
   clear hA hB hbel yc yf
   by_cases hlt : k < n
   ·obtain ⟨b, o, rfl, hc⟩ := HK.out.2 (by omega)
    obtain ⟨z0, z1, z2⟩ := hc k hlt
    have z0 := kept_cell Hbel.out z0
    have z1 := kept_cell Hbel.out z1
    have z2 := kept_cell Hbel.out z2
    have hw := Hwf.out k hlt
    have hca := fun j => cntA_next ts k j (by rw [Hlen.out]; exact hlt)
    have hcd := fun j => cntD_next ts k j (by rw [Hlen.out]; exact hlt)
    clear hc
    rcases tokOk_cases (Hok.out k hlt) with ⟨hl, hd⟩ | ⟨hb0, hl1, hl2, hd1, hd2⟩
    ·rw [hl] at z1
     obtain ⟨m, hm⟩ : ∃ m : Nat, tokB ts k = m := ⟨(tokB ts k).toNat, by omega⟩
     rw [hm] at z0 hw
     have hm2 : m < 286 := by omega
     have hnew := Lib.hid (count_next hll hm2 Hla.out (g := fun j => cntA (ts.take (k + 1)) j + if 256 = j then 1 else 0) (fun j _ => by show cntA (ts.take (k + 1)) j + _ = _; rw [hca j, hl, symA_zero, hm]; omega))
     have hnewd : Hid (∀ j, j < 30 → rd lb j = cntD (ts.take (k + 1)) j) := fun j hj => by rw [hcd j, if_neg (fun h => h.1 hl), Hlb.out j hj, Int.add_zero]
     have hv := cntA_le ts k m
     have hv2 : 0 ≤ rd la m ∧ rd la m ≤ k + 1 := by rw [Hla.out m hm2]; split <;> omega
     have yc := HA.out.cellAt m (by omega)
     rw [ints_get (by omega)] at yc
     have yf := HA.out.frozenAt m
     have Hm := Lib.hid hm
     clear hca hcd hd hl hm hv
     go_wp2
     go_roundw
     case rel =>
      exact ⟨k + 1, la.set m (rd la m + 1), lb, by omega, by go_num, by rw [ints_set]; exact (HA.out.stored m _).1, ownsRow_setCell_other (a := ⟨ga, m, none⟩) HB.out (by simpa [Value.ownBlock] using hne.symm) _, hnew, hnewd, Hbel.out.setCell (p := ⟨ga, m, none⟩) hga _⟩
     case measure => simp [intOf]; omega
    ·generalize tokB ts k = vb at *
     generalize tokL ts k = vl at *
     generalize tokD ts k = vd at *
     have hsl := lastLe_lt lens vl lens.length (by decide)
     have hsd := lastLe_lt dists vd dists.length (by decide)
     rw [lens_length] at hsl
     rw [dists_length] at hsd
     have hp : symS 257 lens vl = 257 + (lastLe lens vl 29 : Nat) := rfl
     have hq : symS 0 dists vd = (lastLe dists vd 30 : Nat) := by unfold symS; rw [dists_length]; omega
     have hp2 : 257 + lastLe lens vl 29 < 286 := by omega
     have hnew := Lib.hid (count_next hll hp2 Hla.out (g := fun j => cntA (ts.take (k + 1)) j + if 256 = j then 1 else 0) (fun j _ => by
      show cntA (ts.take (k + 1)) j + _ = _
      rw [hca j, symA_some _ hl1, hp, Int.natCast_add]
      omega))
     have hnewd := Lib.hid (count_next hlb hsd Hlb.out (g := fun j => cntD (ts.take (k + 1)) j) (fun j _ => by
      show cntD (ts.take (k + 1)) j = _
      rw [hcd j, hq]
      by_cases e : ((lastLe dists vd 30 : Nat) : Int) = j
      ·rw [if_pos ⟨by omega, e⟩, if_pos e]
      ·rw [if_neg (fun h => e h.2), if_neg e]))
     have hv := cntA_le ts k (257 + lastLe lens vl 29)
     have hv2 : 0 ≤ rd la (257 + lastLe lens vl 29) ∧ rd la (257 + lastLe lens vl 29) ≤ k + 1 := by rw [Hla.out _ hp2]; split <;> omega
     have hvd := cntD_le ts k (lastLe dists vd 30)
     rw [← Hlb.out _ hsd] at hvd
     have hl0 : (vl == 0) = false := by simp; omega
     clear hca hcd hp hq hv
     obtain ⟨p, hp⟩ : ∃ p, p = lastLe lens vl 29 := ⟨_, rfl⟩
     obtain ⟨q, hq⟩ : ∃ q, q = lastLe dists vd 30 := ⟨_, rfl⟩
     have HP : Hid (lastLe lens vl 29 = p) := hp.symm
     have HQ : Hid (lastLe dists vd 30 = q) := hq.symm
     rw [← hp] at hsl hp2 hnew hv2
     rw [← hq] at hsd hnewd hvd
     clear hp hq
     have HZ2 := Lib.hid z2
     have Hw := Lib.hid hw
     have hz1 := z1
     go_upto_region 8 with fail
     go_cut [7, 8] from 38 to 47 (fun x _ wx => x = .int .i64 p ∧ Below wr.heap.size wr wx)
     case first =>
      have S0 : wr.drew.cell? ⟨b, o + k * 3 + 1, none⟩ = some (.int .i64 vl) ∧ Below wr.heap.size wr wr.drew := ⟨z1, (Below.refl _ _).drew⟩
      go_region_held3 (fun w' => w'.cell? ⟨b, o + k * 3 + 1, none⟩ = some (.int .i64 vl) ∧ Below wr.heap.size wr w')
       (first | exact S0 | exact S9 | exact S10)
       (first
       | (go_at_call 23; refine (rLengths_calls _).mono ?_; rintro e w9 ⟨v9, rfl, own9, hb9⟩; have S9 : w9.cell? ⟨b, o + k * 3 + 1, none⟩ = some (.int .i64 vl) ∧ Below wr.heap.size wr w9 := held_step (by assumption) hb9; obtain ⟨g9, c9, rfl, _, R9⟩ := rowsAt_own own9 (by decide); clear hb9)
       | (go_at_call 91; refine (rOf_calls _ lens _ 29 _ _ rfl (by omega) (by omega) (by omega) (by omega) (fun j hj => by have := lens_range j hj; omega) R9).mono ?_; rintro e w10 ⟨rfl, hb10⟩; have S10 : w10.cell? ⟨b, o + k * 3 + 1, none⟩ = some (.int .i64 vl) ∧ Below wr.heap.size wr w10 := held_step (by assumption) hb10; clear hb10))
      go_wp2
      go_meet
      exact ⟨by rw [HP.out], S10.2⟩
     case rest =>
     obtain ⟨rfl, hb5⟩ := hcut
     have z25 := kept_cell hb5 HZ2.out
     have HA5 := Lib.hid (own_below HA.out hb5)
     have HB5 := Lib.hid (own_below HB.out hb5)
     have Hb5 := Lib.hid (below_seq Hbel.out (Nat.le_refl _) hb5)
     have hsz5 := hb5.size
     clear hb5
     obtain ⟨wo, hwo⟩ : ∃ wo : World, wo = wc := ⟨_, rfl⟩
     subst hwo
     go_upto_region 9 with fail
     go_cut [9, 10] from 48 to 57 (fun x _ wx => x = .int .i64 q ∧ Below wo.heap.size wo wx)
     case first =>
      have S0 : wo.drew.cell? ⟨b, o + k * 3 + 2, none⟩ = some (.int .i64 vd) ∧ Below wo.heap.size wo wo.drew := ⟨z25, (Below.refl _ _).drew⟩
      go_region_held3 (fun w' => w'.cell? ⟨b, o + k * 3 + 2, none⟩ = some (.int .i64 vd) ∧ Below wo.heap.size wo w')
       (first | exact S0 | exact S9 | exact S10)
       (first
       | (go_at_call 24; refine (rDistances_calls _).mono ?_; rintro e w9 ⟨v9, rfl, own9, hb9⟩; have S9 : w9.cell? ⟨b, o + k * 3 + 2, none⟩ = some (.int .i64 vd) ∧ Below wo.heap.size wo w9 := held_step (by assumption) hb9; obtain ⟨g9, c9, rfl, _, R9⟩ := rowsAt_own own9 (by decide); clear hb9)
       | (go_at_call 91; refine (rOf_calls _ dists _ 30 _ _ rfl (by omega) (by omega) (by omega) (by omega) (fun j hj => by have := dists_range j hj; omega) R9).mono ?_; rintro e w10 ⟨rfl, hb10⟩; have S10 : w10.cell? ⟨b, o + k * 3 + 2, none⟩ = some (.int .i64 vd) ∧ Below wo.heap.size wo w10 := held_step (by assumption) hb10; clear hb10))
      go_wp2
      go_meet
      exact ⟨by rw [HQ.out], S10.2⟩
     case rest =>
     obtain ⟨rfl, hb6⟩ := hcut
     have HA6 := Lib.hid (own_below HA5.out hb6)
     have HB6 := Lib.hid (own_below HB5.out hb6)
     have Hb6 := Lib.hid (below_seq Hb5.out (Nat.le_refl _) hb6)
     have hsz6 := hb6.size
     clear hb6
     have yc := HA6.out.cellAt (257 + p) (by omega)
     rw [ints_get (by omega)] at yc
     have yf := HA6.out.frozenAt (257 + p)
     have xc := HB6.out.cellAt q (by omega)
     rw [ints_get (by omega)] at xc
     have xf := HB6.out.frozenAt q
     have t1 : ((257 : Int) + p).toNat = 257 + p := by omega
     have hne2 : gb ≠ ga := hne.symm
     go_wp2
     go_roundw
     case rel =>
      exact ⟨k + 1, la.set (257 + p) (rd la (257 + p) + 1), lb.set q (rd lb q + 1), by omega, by go_num,
       ownsRow_setCell_other (a := ⟨gb, q, none⟩) (by rw [ints_set]; exact (HA6.out.stored (257 + p) _).1) (by simpa [Value.ownBlock] using hne) _,
       by rw [ints_set]; exact ((ownsRow_setCell_other (a := ⟨ga, 257 + p, none⟩) HB6.out (by simpa [Value.ownBlock] using hne.symm) _).stored q _).1, hnew, hnewd, (Hb6.out.setCell (p := ⟨ga, 257 + p, none⟩) hga _).setCell (p := ⟨gb, q, none⟩) hgb _⟩
     case measure => simp [intOf]; omega
   ·obtain rfl : k = n := by omega
    have htk : ts.take k = ts := List.take_of_length_le (by rw [Hlen.out]; exact Nat.le_refl _)
    rw [htk] at Hla Hlb
    clear htk
    go_wp2
    refine bodyPost_ret (v := .tuple #[.slice (some ⟨ga, 0, none⟩) 286 286, .slice (some ⟨gb, 0, none⟩) 30 30]) (by simp [results, Tryz.results66, go_sem]) rfl ⟨ga, gb, la, lb, rfl, HA.out, HB.out, Hla, Hlb, Hbel.out⟩
end Go.Proofs.YtdbkbeojedndbaaGreatDoor
namespace Go.Proofs.YtdbkbeojedndbaaGreatDoor

def runLen (xs : List Int) (i : Nat) : Nat := ((xs.drop i).takeWhile fun x => x == rd xs i).length

theorem takeWhile_of {xs : List Int} {p : Int → Bool} (n : Nat) (hn : n ≤ xs.length) (h : ∀ j, j < n → p (rd xs j) = true) (he : n = xs.length ∨ p (rd xs n) = false) : (xs.takeWhile p).length = n := by
 induction xs generalizing n with
 | nil => simp at hn; subst hn; rfl
 | cons x xs ih =>
  cases n with
  | zero =>
   rcases he with he | he
   ·simp at he
   ·have : p x = false := by simpa [rd] using he
    simp [List.takeWhile, this]
  | succ n =>
   have hx : p x = true := by simpa [rd] using h 0 (by omega)
   simp only [List.takeWhile, hx, List.length_cons]
   rw [ih n (by simpa using hn) (fun j hj => by simpa [rd] using h (j + 1) (by omega)) ?_]
   rcases he with he | he
   ·left; simpa using he
   ·right; simpa [rd] using he
theorem rd_drop (xs : List Int) (i j : Nat) : rd (xs.drop i) j = rd xs (i + j) := by simp [rd, List.getD_eq_getElem?_getD, List.getElem?_drop]
theorem runLen_of {xs : List Int} {i : Nat} (n : Nat) (hn : i + n ≤ xs.length) (h : ∀ j, j < n → rd xs (i + j) = rd xs i) (he : i + n = xs.length ∨ rd xs (i + n) ≠ rd xs i) : runLen xs i = n := by
 unfold runLen
 refine takeWhile_of n (by simp; omega) (fun j hj => by rw [rd_drop]; simpa using h j hj) ?_
 rcases he with he | he
 ·left; simp; omega
 ·right; rw [rd_drop]; simpa using he
theorem runLen_pos {xs : List Int} {i : Nat} (h : i < xs.length) : 0 < runLen xs i ∧ i + runLen xs i ≤ xs.length := by
 have h1 : xs.drop i = xs[i] :: xs.drop (i + 1) := (List.getElem_cons_drop h).symm
 constructor
 ·unfold runLen; rw [h1, ← rd_getElem h]; simp [List.takeWhile]
 ·unfold runLen
  have := (List.takeWhile_sublist (fun x => x == rd xs i) (l := xs.drop i)).length_le
  simp at this
  omega
structure Item where
 s : Int
 bits : Int
 extra : Int
def itemAt (xs : List Int) (i : Nat) : Item × Nat :=
 if rd xs i = 0 ∧ 11 ≤ runLen xs i then (⟨18, 7, (min (runLen xs i) 138 : Nat) - 11⟩, min (runLen xs i) 138)
 else if rd xs i = 0 ∧ 3 ≤ runLen xs i then (⟨17, 3, (runLen xs i : Nat) - 3⟩, runLen xs i)
 else if rd xs i ≠ 0 ∧ 0 < i ∧ rd xs (i - 1) = rd xs i ∧ 3 ≤ runLen xs i then (⟨16, 2, (min (runLen xs i) 6 : Nat) - 3⟩, min (runLen xs i) 6)
 else (⟨rd xs i, 0, 0⟩, 1)
def itemsFrom (xs : List Int) : Nat → Nat → List Item
 | 0, _ => []
 | f + 1, i => if i < xs.length then (itemAt xs i).1 :: itemsFrom xs f (i + (itemAt xs i).2) else []
def items (xs : List Int) : List Item := itemsFrom xs xs.length 0
theorem itemAt_step (xs : List Int) (i : Nat) (h : i < xs.length) : 1 ≤ (itemAt xs i).2 ∧ i + (itemAt xs i).2 ≤ xs.length := by
 have := runLen_pos h
 unfold itemAt
 split
 ·simp; omega
 ·split
  ·simp; omega
  ·split
   ·simp; omega
   ·simp; omega
theorem itemsFrom_more (xs : List Int) (f g i : Nat) (hf : xs.length - i ≤ f) (hg : xs.length - i ≤ g) : itemsFrom xs f i = itemsFrom xs g i := by
 induction f generalizing g i with
 | zero =>
  cases g with
  | zero => rfl
  | succ g => simp only [itemsFrom]; rw [if_neg (by omega)]
 | succ f ih =>
  cases g with
  | zero => simp only [itemsFrom]; rw [if_neg (by omega)]
  | succ g =>
   simp only [itemsFrom]
   split
   ·rename_i h
    have := itemAt_step xs i h
    rw [ih g _ (by omega) (by omega)]
   ·rfl
theorem itemsFrom_step (xs : List Int) (i : Nat) (h : i < xs.length) : itemsFrom xs xs.length i = (itemAt xs i).1 :: itemsFrom xs xs.length (i + (itemAt xs i).2) := by
 have := itemAt_step xs i h
 rw [itemsFrom_more xs xs.length (xs.length + 1) i (by omega) (by omega)]
 simp only [itemsFrom]
 rw [if_pos h]
theorem itemsFrom_end (xs : List Int) (f i : Nat) (h : xs.length ≤ i) : itemsFrom xs f i = [] := by
 cases f with
 | zero => rfl
 | succ f => simp only [itemsFrom]; rw [if_neg (by omega)]
theorem items_next {xs : List Int} {k : Nat} {pre : List Item} {it : Item} {st : Nat} (hk : k < xs.length) (h : items xs = pre ++ itemsFrom xs xs.length k) (hit : itemAt xs k = (it, st)) : items xs = (pre ++ [it]) ++ itemsFrom xs xs.length (k + st) := by
 rw [h, itemsFrom_step xs k hk, hit, List.append_assoc]
 rfl
theorem itemAt_18 {xs : List Int} {k : Nat} (h1 : rd xs k = 0) (h2 : 11 ≤ runLen xs k) : itemAt xs k = (⟨18, 7, (min (runLen xs k) 138 : Nat) - 11⟩, min (runLen xs k) 138) := by
 unfold itemAt; rw [if_pos ⟨h1, h2⟩]
theorem itemAt_17 {xs : List Int} {k : Nat} (h1 : rd xs k = 0) (h2 : 3 ≤ runLen xs k) (h3 : runLen xs k < 11) : itemAt xs k = (⟨17, 3, (runLen xs k : Nat) - 3⟩, runLen xs k) := by
 unfold itemAt; rw [if_neg (by omega), if_pos ⟨h1, h2⟩]
theorem itemAt_16 {xs : List Int} {k : Nat} (h1 : rd xs k ≠ 0) (h2 : 0 < k) (h3 : rd xs (k - 1) = rd xs k) (h4 : 3 ≤ runLen xs k) : itemAt xs k = (⟨16, 2, (min (runLen xs k) 6 : Nat) - 3⟩, min (runLen xs k) 6) := by
 unfold itemAt; rw [if_neg (fun h => h1 h.1), if_neg (fun h => h1 h.1), if_pos ⟨h1, h2, h3, h4⟩]
theorem itemAt_one {xs : List Int} {k : Nat} (h : (rd xs k = 0 ∧ runLen xs k < 3) ∨ (rd xs k ≠ 0 ∧ (k = 0 ∨ rd xs (k - 1) ≠ rd xs k ∨ runLen xs k < 3))) : itemAt xs k = (⟨rd xs k, 0, 0⟩, 1) := by
 unfold itemAt
 rcases h with ⟨h1, h2⟩ | ⟨h1, h2⟩
 ·rw [if_neg (by omega), if_neg (by omega), if_neg (fun h => h.1 h1)]
 ·rw [if_neg (fun h => h1 h.1), if_neg (fun h => h1 h.1), if_neg]
  rintro ⟨_, g1, g2, g3⟩
  rcases h2 with h2 | h2 | h2
  ·omega
  ·exact h2 g2
  ·omega
def itemCells (l : List Item) : List Value := l.flatMap fun x => [.int .i64 x.s, .int .i64 x.bits, .int .u64 x.extra]
theorem itemCells_append (a b : List Item) : itemCells (a ++ b) = itemCells a ++ itemCells b := by simp [itemCells]
theorem itemCells_length (l : List Item) : (itemCells l).length = l.length * 3 := by
 induction l with
 | nil => rfl
 | cons x l ih => simp [itemCells] at *; omega
theorem itemsFrom_le (xs : List Int) (f i : Nat) : (itemsFrom xs f i).length ≤ xs.length - i := by
 induction f generalizing i with
 | zero => simp [itemsFrom]
 | succ f ih =>
  simp only [itemsFrom]
  split
  ·rename_i h
   have h1 := itemAt_step xs i h
   have h2 := ih (i + (itemAt xs i).2)
   simp
   omega
  ·simp
theorem items_le (xs : List Int) : (items xs).length ≤ xs.length := itemsFrom_le xs xs.length 0
theorem itemsFrom_few (xs : List Int) (v : Int) (hv : ∀ j, j < xs.length → rd xs j = v) (f i : Nat) (h0 : v = 0 ∨ 0 < i) : (itemsFrom xs f i).length ≤ 2 + (xs.length - i) / 6 := by
 induction f generalizing i with
 | zero => simp [itemsFrom]
 | succ f ih =>
  simp only [itemsFrom]
  split
  ·rename_i h
   have hr : runLen xs i = xs.length - i := runLen_of _ (by omega) (fun j hj => by rw [hv _ (by omega), hv i h]) (.inl (by omega))
   have hi := hv i h
   by_cases hz : v = 0
   ·by_cases h1 : 11 ≤ xs.length - i
    ·rw [itemAt_18 (by rw [hi, hz]) (by omega), hr]
     have h2 := ih (i + min (xs.length - i) 138) (.inl hz)
     have h3 := itemsFrom_le xs f (i + min (xs.length - i) 138)
     simp
     omega
    ·by_cases h2 : 3 ≤ xs.length - i
     ·rw [itemAt_17 (by rw [hi, hz]) (by omega) (by omega), hr]
      have h3 := itemsFrom_le xs f (i + (xs.length - i))
      simp
      omega
     ·rw [itemAt_one (.inl ⟨by rw [hi, hz], by omega⟩)]
      have h3 := itemsFrom_le xs f (i + 1)
      simp
      omega
   ·have hp : 0 < i := by omega
    by_cases h2 : 3 ≤ xs.length - i
    ·rw [itemAt_16 (by rw [hi]; exact hz) hp (by rw [hv _ (by omega), hi]) (by omega), hr]
     have h2 := ih (i + min (xs.length - i) 6) (.inr (by omega))
     have h3 := itemsFrom_le xs f (i + min (xs.length - i) 6)
     simp
     omega
    ·rw [itemAt_one (.inr ⟨by rw [hi]; exact hz, .inr (.inr (by omega))⟩)]
     have h3 := itemsFrom_le xs f (i + 1)
     simp
     omega
  ·simp
theorem items_few (xs : List Int) (v : Int) (hv : ∀ j, j < xs.length → rd xs j = v) : (items xs).length ≤ 4 + xs.length / 6 := by
 rcases Nat.eq_zero_or_pos xs.length with h | h
 ·have := items_le xs; omega
 ·unfold items
  rw [itemsFrom_step xs 0 h]
  have h1 := itemAt_step xs 0 h
  have h2 := itemsFrom_few xs v hv xs.length (0 + (itemAt xs 0).2) (.inr (by omega))
  simp at *
  omega
theorem itemCells_at (l : List Item) (j : Nat) (h : j < l.length) : (itemCells l)[j * 3]? = some (.int .i64 (l[j]).s) ∧ (itemCells l)[j * 3 + 1]? = some (.int .i64 (l[j]).bits) ∧ (itemCells l)[j * 3 + 2]? = some (.int .u64 (l[j]).extra) := by
 induction l generalizing j with
 | nil => simp at h
 | cons x l ih =>
  cases j with
  | zero => exact ⟨rfl, rfl, rfl⟩
  | succ j =>
   have := ih j (by simpa using h)
   have e0 : (itemCells (x :: l))[(j + 1) * 3]? = (itemCells l)[j * 3]? := by rw [show (j + 1) * 3 = j * 3 + 1 + 1 + 1 from by omega]; rfl
   have e1 : (itemCells (x :: l))[(j + 1) * 3 + 1]? = (itemCells l)[j * 3 + 1]? := by rw [show (j + 1) * 3 + 1 = j * 3 + 1 + 1 + 1 + 1 from by omega]; rfl
   have e2 : (itemCells (x :: l))[(j + 1) * 3 + 2]? = (itemCells l)[j * 3 + 2]? := by rw [show (j + 1) * 3 + 2 = j * 3 + 2 + 1 + 1 + 1 from by omega]; rfl
   rw [e0, e1, e2]
   exact this
def mod16 (l : List Int) : List Int := l.map fun x => x % 16
theorem mod16_length (l : List Int) : (mod16 l).length = l.length := by simp [mod16]
theorem rd_mod16 (l : List Int) (j : Nat) (h : j < l.length) : rd (mod16 l) j = rd l j % 16 := by
 rw [rd_getElem (by rw [mod16_length]; exact h), rd_getElem h]; simp [mod16]
theorem mod16_take (l : List Int) (k : Nat) (h : k < l.length) : mod16 (l.take (k + 1)) = mod16 (l.take k) ++ [rd l k % 16] := by
 rw [List.take_succ_eq_append_getElem h, ← rd_getElem h]; simp [mod16]
end Go.Proofs.YtdbkbeojedndbaaGreatDoor
namespace Go.Proofs.YtdbkbeojedndbaaGreatDoor

inductive HT where
 | leaf (w : Int) (s : Nat)
 | node (l r : HT)
def HT.wt : HT → Int
 | .leaf w _ => w
 | .node l r => l.wt + r.wt
def HT.syms : HT → List Nat
 | .leaf _ s => [s]
 | .node l r => l.syms ++ r.syms
def HT.dep : HT → List (Nat × Nat)
 | .leaf _ s => [(s, 0)]
 | .node l r => (l.dep ++ r.dep).map fun p => (p.1, p.2 + 1)
instance : Inhabited HT := ⟨.leaf 0 0⟩
theorem HT.dep_syms (t : HT) : t.dep.map Prod.fst = t.syms := by
 induction t with
 | leaf w s => rfl
 | node l r h1 h2 =>
  simp only [HT.dep, HT.syms, List.map_map]
  rw [← h1, ← h2, ← List.map_append]
  rfl
def minPos : List Int → Nat
 | [] => 0
 | [_] => 0
 | x :: y :: r => if rd (y :: r) (minPos (y :: r)) < x then minPos (y :: r) + 1 else 0
theorem rd_cons_succ (x : Int) (l : List Int) (j : Nat) : rd (x :: l) (j + 1) = rd l j := by simp [rd]
theorem rd_cons_zero (x : Int) (l : List Int) : rd (x :: l) 0 = x := by simp [rd]
theorem minPos_spec : ∀ l : List Int, 0 < l.length → minPos l < l.length ∧ (∀ i, i < l.length → rd l (minPos l) ≤ rd l i) ∧ ∀ i, i < minPos l → rd l (minPos l) < rd l i
 | [], h => by simp at h
 | [x], _ => by
  refine ⟨by simp [minPos], fun i hi => ?_, fun i hi => by simp [minPos] at hi⟩
  simp at hi
  subst hi
  exact Int.le_refl _
 | x :: y :: r, _ => by
  obtain ⟨h1, h2, h3⟩ := minPos_spec (y :: r) (by simp)
  unfold minPos
  split
  ·rename_i h
   refine ⟨by simp at h1 ⊢; omega, fun i hi => ?_, fun i hi => ?_⟩
   ·rw [rd_cons_succ]
    rcases i with _ | i
    ·rw [rd_cons_zero]; omega
    ·rw [rd_cons_succ]
     exact h2 i (by simp at hi ⊢; omega)
   ·rw [rd_cons_succ]
    rcases i with _ | i
    ·rw [rd_cons_zero]; omega
    ·rw [rd_cons_succ]
     exact h3 i (by omega)
  ·rename_i h
   refine ⟨by simp, fun i hi => ?_, fun i hi => by omega⟩
   rw [rd_cons_zero]
   rcases i with _ | i
   ·rw [rd_cons_zero]; omega
   ·rw [rd_cons_succ]
    have := h2 i (by simp at hi ⊢; omega)
    omega
theorem minPos_unique {l : List Int} {p : Nat} (hp : p < l.length) (h1 : ∀ i, i < l.length → rd l p ≤ rd l i) (h2 : ∀ i, i < p → rd l p < rd l i) : p = minPos l := by
 obtain ⟨q1, q2, q3⟩ := minPos_spec l (by omega)
 rcases Nat.lt_trichotomy p (minPos l) with h | h | h
 ·have := q3 p h
  have := h1 _ q1
  omega
 ·exact h
 ·have := h2 _ h
  have := q2 p hp
  omega
def hA (L : List HT) : Nat := minPos (L.map HT.wt)
def hB (L : List HT) : Nat := minPos ((L.eraseIdx (hA L)).map HT.wt)
def hstep (L : List HT) : List HT := ((L.eraseIdx (hA L)).eraseIdx (hB L)) ++ [.node (L.getD (hA L) default) ((L.eraseIdx (hA L)).getD (hB L) default)]
theorem minPos_lt (L : List HT) (h : 0 < L.length) : minPos (L.map HT.wt) < L.length := by
 have := (minPos_spec (L.map HT.wt) (by simpa using h)).1
 simpa using this
theorem hA_lt {L : List HT} (h : 0 < L.length) : hA L < L.length := minPos_lt L h
theorem hB_lt {L : List HT} (h : 1 < L.length) : hB L < L.length - 1 := by
 have h1 := minPos_lt (L.eraseIdx (hA L)) (by rw [List.length_eraseIdx_of_lt (hA_lt (by omega))]; omega)
 rw [List.length_eraseIdx_of_lt (hA_lt (by omega))] at h1
 exact h1
theorem hstep_length {L : List HT} (h : 1 < L.length) : (hstep L).length = L.length - 1 := by
 unfold hstep
 have h1 := hA_lt (L := L) (by omega)
 have h2 := hB_lt h
 rw [List.length_append, List.length_eraseIdx_of_lt (by rw [List.length_eraseIdx_of_lt h1]; exact h2), List.length_eraseIdx_of_lt h1]
 simp
 omega
def hrun : Nat → List HT → List HT
 | 0, L => L
 | f + 1, L => if L.length ≤ 1 then L else hrun f (hstep L)
theorem hrun_length : ∀ (f : Nat) (L : List HT), 0 < L.length → L.length ≤ f + 1 → (hrun f L).length = 1
 | 0, L, h0, h => by unfold hrun; omega
 | f + 1, L, h0, h => by
  unfold hrun
  split
  ·omega
  ·exact hrun_length f _ (by rw [hstep_length (by omega)]; omega) (by rw [hstep_length (by omega)]; omega)
theorem perm_cons_erase {α : Type} : ∀ (L : List α) (p : Nat) (h : p < L.length), L.Perm (L[p] :: L.eraseIdx p)
 | [], _, h => by simp at h
 | x :: L, 0, _ => by simp
 | x :: L, p + 1, h => by
  simp only [List.getElem_cons_succ, List.eraseIdx_cons_succ]
  exact ((perm_cons_erase L p (by simpa using h)).cons x).trans (List.Perm.swap _ _ _)
theorem getD_cons_erase {L : List HT} {p : Nat} (h : p < L.length) : L.Perm (L.getD p default :: L.eraseIdx p) := by
 rw [List.getD_eq_getElem?_getD, List.getElem?_eq_getElem h, Option.getD_some]
 exact perm_cons_erase L p h
theorem hstep_parts {L : List HT} (h : 1 < L.length) : ∃ a b rest, L.Perm (a :: b :: rest) ∧ hstep L = rest ++ [.node a b] ∧ a = L.getD (hA L) default ∧ b = (L.eraseIdx (hA L)).getD (hB L) default ∧ rest = (L.eraseIdx (hA L)).eraseIdx (hB L) ∧
  a.wt ≤ b.wt ∧ (∀ u ∈ rest, b.wt ≤ u.wt) := by
 have h1 := hA_lt (L := L) (by omega)
 have h2 := hB_lt h
 have hl : (L.eraseIdx (hA L)).length = L.length - 1 := List.length_eraseIdx_of_lt h1
 have p1 := getD_cons_erase h1
 have p2 := getD_cons_erase (L := L.eraseIdx (hA L)) (p := hB L) (by omega)
 obtain ⟨_, m1, _⟩ := minPos_spec (L.map HT.wt) (by simp; omega)
 obtain ⟨_, m2, _⟩ := minPos_spec ((L.eraseIdx (hA L)).map HT.wt) (by simp; omega)
 have rdw : ∀ (M : List HT) (j : Nat), j < M.length → rd (M.map HT.wt) j = (M.getD j default).wt := by
  intro M j hj
  rw [rd_getElem (by simpa using hj), List.getD_eq_getElem?_getD, List.getElem?_eq_getElem hj]
  simp
 refine ⟨_, _, _, p1.trans (p2.cons _), rfl, rfl, rfl, rfl, ?_, ?_⟩
 ·have hb : (L.eraseIdx (hA L)).getD (hB L) default ∈ L := by
   have h3 : (L.eraseIdx (hA L)).getD (hB L) default ∈ L.eraseIdx (hA L) := by
    rw [List.getD_eq_getElem?_getD, List.getElem?_eq_getElem (by omega), Option.getD_some]
    exact List.getElem_mem _
   exact List.mem_of_mem_eraseIdx h3
  obtain ⟨i, hi, e⟩ := List.getElem_of_mem hb
  have h3 := m1 i (by simpa using hi)
  rw [rdw L i hi, rdw L (minPos (L.map HT.wt)) h1, List.getD_eq_getElem?_getD (l := L) (i := i), List.getElem?_eq_getElem hi, Option.getD_some, e] at h3
  exact h3
 ·intro u hu
  have h3 : u ∈ L.eraseIdx (hA L) := List.mem_of_mem_eraseIdx hu
  obtain ⟨i, hi, e⟩ := List.getElem_of_mem h3
  have h4 := m2 i (by simpa using hi)
  rw [rdw _ i hi, rdw _ (minPos ((L.eraseIdx (hA L)).map HT.wt)) (by rw [hl]; exact h2), List.getD_eq_getElem?_getD (i := i), List.getElem?_eq_getElem hi, Option.getD_some, e] at h4
  exact h4
def leavesTo (ws : List Int) (k : Nat) : List HT := ((List.range k).filter fun s => decide (0 < rd ws s)).map fun s => .leaf (rd ws s) s
def leavesOf (ws : List Int) : List HT := leavesTo ws ws.length
def rootOf (ws : List Int) : List HT := hrun (leavesOf ws).length (leavesOf ws)
def depIn (L : List HT) (s : Nat) : Option Nat := (L.flatMap HT.dep).lookup s
def onceM (ws : List Int) : List Int := (List.range ws.length).map fun s => match depIn (rootOf ws) s with | some k => (max k 1 : Nat) | none => 0
theorem onceM_length (ws : List Int) : (onceM ws).length = ws.length := by simp [onceM]
def halve (ws : List Int) : List Int := ws.map fun x => (x + 1) / 2
end Go.Proofs.YtdbkbeojedndbaaGreatDoor
