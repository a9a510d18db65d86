/-
  Texts joined into one file: Ref07W, Wts, HuffP, HuffC.
-/
import Derived.Test.YtendohnkhbgfbaaDoorJRefPk7
import Derived.Test.YtendohnkhbgfbaaDoorJRefPk1
import Derived.Deep.RegionHeld3
import Derived.BigQuiet
import Derived.IntWalk
import Derived.Test.YtendohnkhbgfbaaDoorJRefPk2
namespace Go.Proofs.YtendohnkhbgfbaaDoor
open Go.RowKit

def rowCells (rows : List (Int × Int)) : List Value := rows.flatMap fun r => [.int .i64 r.1, .int .i64 r.2]
theorem rowCells_length (rows : List (Int × Int)) : (rowCells rows).length = rows.length * 2 := by
  induction rows with
  | nil => rfl
  | cons r rows ih => simp [rowCells] at *; omega
theorem rowCells_append (r s : List (Int × Int)) : rowCells (r ++ s) = rowCells r ++ rowCells s := by simp [rowCells]
theorem elRow : ElT Tryd.prog 153 158 (.agg #[.int .i64 0, .int .i64 0]) 2 16 := ⟨Tryd.underlying153, by kernel_rfl, rfl, by decide, by decide⟩

theorem take_rows (rows : List (Int × Int)) (k : Nat) (h : k < rows.length) : rowCells (rows.take (k + 1)) = rowCells (rows.take k) ++ [.int .i64 (rowL rows k), .int .i64 (rowB rows k)] := by
  rw [List.take_succ_eq_append_getElem h, rowCells_append]
  simp [rowCells, rowL, rowB, List.getD_eq_getElem?_getD, List.getElem?_eq_getElem h]
theorem lens_bits : ∀ k : Nat, k < 28 → (if (k : Int) / 4 - 1 < 0 then 0 else (k : Int) / 4 - 1) = rowB lens k := by decide
theorem lens_next : ∀ k : Nat, k < 28 → k + 1 < 28 → wrap64 (rowL lens k + wrap64 (2 ^ (if (k : Int) / 4 - 1 < 0 then 0 else (k : Int) / 4 - 1).toNat)) = rowL lens (k + 1) := by decide +kernel
theorem dists_bits : ∀ k : Nat, k < 30 → (if (k : Int) / 2 - 1 < 0 then 0 else (k : Int) / 2 - 1) = rowB dists k := by decide
theorem dists_next : ∀ k : Nat, k < 30 → k + 1 < 30 → wrap64 (rowL dists k + wrap64 (2 ^ (if (k : Int) / 2 - 1 < 0 then 0 else (k : Int) / 2 - 1).toNat)) = rowL dists (k + 1) := by decide +kernel

set_option maxHeartbeats 400000 in
set_option maxRecDepth 100000 in
theorem rLengths_calls (w : World) :
    Calls Tryd.prog 92 #[] w fun e w' => ∃ v, e = .returned v ∧ w'.ownsRow w.heap.size 158 2 v 29 (rowCells lens) ∧ Below w.heap.size w w' := by
  go_enter Tryd.func92, Tryd.ntmps92
  go_wp2
  go_loopw [1, 2, 3] (fun v l i wr => ∃ k : Nat, k ≤ 28 ∧ i = .int .i64 k ∧ (k < 28 → l = .int .i64 (rowL lens k)) ∧ wr.ownsRow w.heap.size 158 2 v k (rowCells (lens.take k)) ∧ Below w.heap.size w wr) (fun _ _ i _ => 28 - (intOf i).toNat)
  case atStart => exact ⟨0, by omega, rfl, fun _ => rfl, World.ownsRow_nil _ _ _ _, Below.refl _ _⟩
  case round =>
    obtain ⟨k, hk, rfl, hl, hown, hbel⟩ := hrel
    have Hown := Lib.hid hown
    have Hbel := Lib.hid hbel
    have hsz := hbel.size
    clear hown hbel
    by_cases hlt : k < 28
    · obtain rfl := hl hlt
      have hr := lens_range k (by omega)
      clear hl
      go_wp2_with (at_builtin; refine wpList_app1 rfl _ _ rfl elRow Hown.out rfl rfl rfl rfl (by omega) (by omega) ?_; intro v' w' hown' hbel' _)
      go_roundw
      case rel =>
        rw [lens_bits k hlt] at hown'
        exact ⟨k + 1, by omega, by go_num, fun h => by rw [lens_next k hlt h], by rw [take_rows lens k (by rw [lens_length]; omega)]; exact hown', Hbel.out.trans hbel'⟩
      case measure => simp [intOf]; omega
    · obtain rfl : k = 28 := by omega
      clear hl
      go_wp2_with (at_builtin; refine wpList_app1 rfl _ _ rfl elRow Hown.out rfl rfl rfl rfl (by omega) (by omega) ?_; intro v' w' hown' hbel' _)
      go_ret
      exact ⟨v', rfl, hown', Hbel.out.trans hbel'⟩

set_option maxHeartbeats 400000 in
set_option maxRecDepth 100000 in
theorem rDistances_calls (w : World) :
    Calls Tryd.prog 93 #[] w fun e w' => ∃ v, e = .returned v ∧ w'.ownsRow w.heap.size 158 2 v 30 (rowCells dists) ∧ Below w.heap.size w w' := by
  go_enter Tryd.func93, Tryd.ntmps93
  go_wp2
  go_loopw [1, 2, 3] (fun v l i wr => ∃ k : Nat, k ≤ 30 ∧ i = .int .i64 k ∧ (k < 30 → l = .int .i64 (rowL dists k)) ∧ wr.ownsRow w.heap.size 158 2 v k (rowCells (dists.take k)) ∧ Below w.heap.size w wr) (fun _ _ i _ => 30 - (intOf i).toNat)
  case atStart => exact ⟨0, by omega, rfl, fun _ => rfl, World.ownsRow_nil _ _ _ _, Below.refl _ _⟩
  case round =>
    obtain ⟨k, hk, rfl, hl, hown, hbel⟩ := hrel
    have Hown := Lib.hid hown
    have Hbel := Lib.hid hbel
    have hsz := hbel.size
    clear hown hbel
    by_cases hlt : k < 30
    · obtain rfl := hl hlt
      have hr := dists_range k (by omega)
      clear hl
      go_wp2_with (at_builtin; refine wpList_app1 rfl _ _ rfl elRow Hown.out rfl rfl rfl rfl (by omega) (by omega) ?_; intro v' w' hown' hbel' _)
      go_roundw
      case rel =>
        rw [dists_bits k hlt] at hown'
        exact ⟨k + 1, by omega, by go_num, fun h => by rw [dists_next k hlt h], by rw [take_rows dists k (by rw [dists_length]; omega)]; exact hown', Hbel.out.trans hbel'⟩
      case measure => simp [intOf]; omega
    · obtain rfl : k = 30 := by omega
      clear hl
      go_wp2_with fail
      go_ret
      exact ⟨_, rfl, Hown.out, Hbel.out⟩

theorem rowsAt_own {w : World} {base n : Nat} {e : TypeId} {v : Value} {rows : List (Int × Int)} (h : w.ownsRow base e 2 v n (rowCells rows)) (h0 : 0 < n) : ∃ g c, v = .slice (some ⟨g, 0, none⟩) n c ∧ n ≤ c ∧ RowsAt w g rows := by
  obtain ⟨g, c, hv, _, _, hc, hcell, _⟩ := own_form h h0
  refine ⟨g, c, hv, hc, fun j hj => ?_⟩
  have key : ∀ (l : List (Int × Int)) (j : Nat), j < l.length → (rowCells l)[j * 2]? = some (.int .i64 (rowL l j)) ∧ (rowCells l)[j * 2 + 1]? = some (.int .i64 (rowB l j)) := by
    intro l
    induction l with
    | nil => intro j hj; simp at hj
    | cons r l ih =>
      intro j hj
      cases j with
      | zero => exact ⟨rfl, rfl⟩
      | succ j =>
        have := ih j (by simpa using hj)
        have e1 : (rowCells (r :: l))[(j + 1) * 2]? = (rowCells l)[j * 2]? := by rw [show (j + 1) * 2 = j * 2 + 1 + 1 from by omega]; rfl
        have e2 : (rowCells (r :: l))[(j + 1) * 2 + 1]? = (rowCells l)[j * 2 + 1]? := by rw [show (j + 1) * 2 + 1 = j * 2 + 1 + 1 + 1 from by omega]; rfl
        rw [e1, e2]
        exact this
  obtain ⟨k1, k2⟩ := key rows j hj
  exact ⟨hcell _ _ k1, hcell _ _ k2⟩

set_option maxHeartbeats 400000 in
theorem rOf_calls (n : Int) (rows : List (Int × Int)) (g len c : Nat) (w : World) (hlen : rows.length = len) (hn : 0 ≤ n) (hn2 : n ≤ 40000) (hl : 0 < len) (hl2 : len ≤ 100)
   (hr : ∀ j, j < len → 0 ≤ rowL rows j ∧ rowL rows j ≤ 40000) (hc : RowsAt w g rows) :
    Calls Tryd.prog 95 #[.int .i64 n, .slice (some ⟨g, 0, none⟩) len c] w fun e w' =>
      e = .returned (.tuple #[.int .i64 (lastLe rows n len), .int .i64 (symX rows n)]) ∧ Below w.heap.size w w' := by
  have Hc := Lib.hid hc
  have Hr := Lib.hid hr
  have Hlen := Lib.hid hlen
  clear hc hr hlen
  go_enter Tryd.func95, Tryd.ntmps95
  go_wp2
  go_loop [6, 7] (fun at_ i => ∃ k m : Nat, k ≤ len ∧ i = .int .i64 k ∧ at_ = .int .i64 m ∧ m < len ∧ Hid (m = lastLe rows n k)) (fun _ i => len - (intOf i).toNat)
  case atStart => exact ⟨0, 0, by omega, rfl, rfl, hl, rfl⟩
  case round =>
    obtain ⟨k, m, hk, rfl, rfl, hm, Hm⟩ := hrel
    by_cases hlt : k < len
    · have hz := (Hc.out k (Hlen.out ▸ hlt)).1
      have hb := Hr.out k hlt
      go_wp2
      all_goals
        go_round
        case rel =>
          first
          | exact ⟨k + 1, k, by omega, by go_num, by go_num, hlt, (lastLe_hit rows n k (by assumption)).symm⟩
          | exact ⟨k + 1, m, by omega, by go_num, rfl, hm, Hm.out.trans (lastLe_miss rows n k (by assumption)).symm⟩
        case measure => simp [intOf]; omega
    · have hk2 : k = len := by omega
      have hz := (Hc.out m (Hlen.out ▸ hm)).1
      have hb := Hr.out m hm
      have Hk := Lib.hid hk2
      have hk3 : len ≤ k := by omega
      clear hk2
      go_wp2
      go_region
      go_wp2
      go_ret2
      refine ⟨?_, (Below.refl _ _).drew⟩
      have e := Hm.out
      rw [Hk.out] at e
      unfold symX
      rw [Hlen.out, ← e]
      rfl
end Go.Proofs.YtendohnkhbgfbaaDoor
namespace Go.Proofs.YtendohnkhbgfbaaDoor
open Go.RowKit

def tokOk (l b d : Int) : Bool := (l == 0 && d == 0) || (b == 0 && (decide (2 < l) && (decide (l < 259) && (decide (0 < d) && decide (d < 32769)))))
def symA (l b : Int) : Int := if l = 0 then b else symS 257 lens l
def cntA (ts : List Tok) (j : Nat) : Int := ((ts.filter fun t => decide (symA t.2.1 t.1 = j)).length : Nat)
def cntD (ts : List Tok) (j : Nat) : Int := ((ts.filter fun t => decide (t.2.1 ≠ 0 ∧ symS 0 dists t.2.2 = j)).length : Nat)
theorem take_tok (ts : List Tok) (k : Nat) (h : k < ts.length) : ts.take (k + 1) = ts.take k ++ [(tokB ts k, tokL ts k, tokD ts k)] := by
 have e : ts[k] = (tokB ts k, tokL ts k, tokD ts k) := by simp [tokB, tokL, tokD, List.getD_eq_getElem?_getD, List.getElem?_eq_getElem h]
 rw [List.take_succ_eq_append_getElem h, e]
theorem filt_next (p : Tok → Bool) (l : List Tok) (x : Tok) : ((((l ++ [x]).filter p).length : Nat) : Int) = ((l.filter p).length : Nat) + if p x = true then 1 else 0 := by
 rw [List.filter_append, List.length_append]
 cases h : p x <;> simp [h]
theorem cntA_next (ts : List Tok) (k j : Nat) (h : k < ts.length) : cntA (ts.take (k + 1)) j = cntA (ts.take k) j + if symA (tokL ts k) (tokB ts k) = j then 1 else 0 := by
 rw [take_tok ts k h]
 unfold cntA
 rw [filt_next]
 simp only [decide_eq_true_eq]
theorem cntD_next (ts : List Tok) (k j : Nat) (h : k < ts.length) : cntD (ts.take (k + 1)) j = cntD (ts.take k) j + if tokL ts k ≠ 0 ∧ symS 0 dists (tokD ts k) = j then 1 else 0 := by
 rw [take_tok ts k h]
 unfold cntD
 rw [filt_next]
 simp only [decide_eq_true_eq]
theorem cntA_le (ts : List Tok) (k j : Nat) : 0 ≤ cntA (ts.take k) j ∧ cntA (ts.take k) j ≤ k := by
 have h1 := List.length_filter_le (fun t : Tok => decide (symA t.2.1 t.1 = j)) (ts.take k)
 have h2 := List.length_take_le k ts
 unfold cntA
 omega
theorem cntD_le (ts : List Tok) (k j : Nat) : 0 ≤ cntD (ts.take k) j ∧ cntD (ts.take k) j ≤ k := by
 have h1 := List.length_filter_le (fun t : Tok => decide (t.2.1 ≠ 0 ∧ symS 0 dists t.2.2 = j)) (ts.take k)
 have h2 := List.length_take_le k ts
 unfold cntD
 omega
theorem cntA_zero (ts : List Tok) (j : Nat) : cntA (ts.take 0) j = 0 := rfl
theorem cntD_zero (ts : List Tok) (j : Nat) : cntD (ts.take 0) j = 0 := rfl
theorem tokOk_cases {l b d : Int} (h : tokOk l b d = true) : (l = 0 ∧ d = 0) ∨ (b = 0 ∧ 3 ≤ l ∧ l ≤ 258 ∧ 1 ≤ d ∧ d ≤ 32768) := by
 unfold tokOk at h
 simp at h
 omega

theorem symField0 (x y z : Int) (w : World) : Sem.run Tryd.prog (Instr.field 137 (.agg #[.int .i64 x, .int .i64 y, .int .u64 z]) 0) w = .ok (.int .i64 x) w := by
 have h := run_underlying (w := w) Tryd.underlying137
 simp [Instr.field, h]
 go_simp
 simp [asAgg]
theorem rd_replicate (n j : Nat) : rd (List.replicate n 0) j = 0 := by
 unfold rd
 rw [List.getD_eq_getElem?_getD, List.getElem?_replicate]
 split <;> rfl
theorem symA_zero (b : Int) : symA 0 b = b := if_pos rfl
theorem symA_some {l : Int} (b : Int) (h : 3 ≤ l) : symA l b = symS 257 lens l := if_neg (by omega)
theorem count_next {l : List Int} {n p : Nat} {f g : Nat → Int} (hl : l.length = n) (hp : p < n) (h : ∀ j, j < n → rd l j = f j) (hg : ∀ j, j < n → g j = f j + if (p : Int) = j then 1 else 0) : ∀ j, j < n → rd (l.set p (rd l p + 1)) j = g j := by
 intro j hj
 rw [rd_set (by omega), hg j hj]
 by_cases e : p = j
 ·subst e
  rw [if_pos rfl, if_pos rfl, h p hj]
 ·rw [if_neg e, if_neg (by omega), h j hj]
  omega

set_option maxHeartbeats 2000000 in
set_option maxRecDepth 100000 in
theorem Weights_calls (A : Option Addr) (n c : Nat) (ts : List Tok) (w : World) (hK : Toks w A n ts) (hn : n ≤ 100000) (hwf : TokWf ts n) (hok : ∀ j, j < n → tokOk (tokL ts j) (tokB ts j) (tokD ts j) = true) (hT : Tabs w) :
  Calls Tryd.prog 56 #[.slice A n c] w fun e w' => ∃ (ga gb : Nat) (la lb : List Int), e = .returned (.tuple #[.slice (some ⟨ga, 0, none⟩) 286 286, .slice (some ⟨gb, 0, none⟩) 30 30]) ∧
   w'.ownsRow w.heap.size 3 1 (.slice (some ⟨ga, 0, none⟩) 286 286) 286 (ints .i64 la) ∧ w'.ownsRow w.heap.size 3 1 (.slice (some ⟨gb, 0, none⟩) 30 30) 30 (ints .i64 lb) ∧
   Hid (∀ j, j < 286 → rd la j = cntA ts j + if 256 = j then 1 else 0) ∧ Hid (∀ j, j < 30 → rd lb j = cntD ts j) ∧ Below w.heap.size w w' := by
 have Hlen := Lib.hid hK.1
 have HK := Lib.hid hK
 have Hwf := Lib.hid hwf
 have Hok := Lib.hid hok
 have HT := Lib.hid hT
 clear hK hwf hok hT
 have hF := symField0
 go_enter Tryd.func56, Tryd.ntmps56
 go_upto_region 1 with fail
 go_cut [4, 5] from 8 to 9 (fun a b wx => ∃ ga gb, ga ≠ gb ∧ a = .slice (some ⟨ga, 0, none⟩) 286 286 ∧ b = .slice (some ⟨gb, 0, none⟩) 30 30 ∧ (∃ la, Hid (∀ j, rd la j = 0) ∧ wx.ownsRow w.heap.size 3 1 a 286 (ints .i64 la)) ∧ (∃ lb, Hid (∀ j, rd lb j = 0) ∧ wx.ownsRow w.heap.size 3 1 b 30 (ints .i64 lb)) ∧ Below w.heap.size w wx)
 case first =>
  obtain ⟨oA, la, mA, lA, rA⟩ := make_rule elIntF 286 286 rfl (by decide)
  obtain ⟨oB, lb, mB, lB, rB⟩ := make_rule elIntF 30 30 rfl (by decide)
  have zA : Hid (∀ j, rd la j = 0) := fun j => by rw [lA.out]; exact rd_replicate _ _
  have zB : Hid (∀ j, rd lb j = 0) := fun j => by rw [lB.out]; exact rd_replicate _ _
  clear lA lB
  go_wp2
  go_region
  ·go_wp2
   go_meet
   exact ⟨w.heap.size, w.heap.size + 1, by omega, by simp, by simp, ⟨la, zA, (rA.out w.drew _ _ rfl (Nat.le_refl _)).alloc _⟩, ⟨lb, zB, rB.out (w.drew.alloc oA) _ _ (by simp) (by omega)⟩, below_new (below_new (Below.refl _ _).drew (Nat.le_refl _) _) (Nat.le_refl _) _⟩
  ·go_wp2
   go_meet
   exact ⟨w.heap.size + 1, w.heap.size, by omega, by simp, by simp, ⟨la, zA, rA.out (w.drew.alloc oB) _ _ (by simp) (by omega)⟩, ⟨lb, zB, (rB.out w.drew _ _ rfl (Nat.le_refl _)).alloc _⟩, below_new (below_new (Below.refl _ _).drew (Nat.le_refl _) _) (Nat.le_refl _) _⟩
 case rest =>
  obtain ⟨ga, gb, hne, rfl, rfl, ⟨la, zA, hownA⟩, ⟨lb, zB, hownB⟩, hb⟩ := hcut
  have HA := Lib.hid hownA
  have HB := Lib.hid hownB
  have Hb := Lib.hid hb
  clear hownA hownB hb
  go_wp2
  go_loopw [12] (fun i wr => ∃ (k : Nat) (la lb : List Int), k ≤ n ∧ i = .int .i64 k ∧ wr.ownsRow w.heap.size 3 1 (.slice (some ⟨ga, 0, none⟩) 286 286) 286 (ints .i64 la) ∧ wr.ownsRow w.heap.size 3 1 (.slice (some ⟨gb, 0, none⟩) 30 30) 30 (ints .i64 lb) ∧ Hid (∀ j, j < 286 → rd la j = cntA (ts.take k) j) ∧ Hid (∀ j, j < 30 → rd lb j = cntD (ts.take k) j) ∧ Below w.heap.size w wr) (fun i _ => n - (intOf i).toNat)
  case atStart => exact ⟨0, la, lb, by omega, rfl, HA.out, HB.out, (fun j _ => zA.out j), (fun j _ => zB.out j), Hb.out⟩
  case round =>
   obtain ⟨k, la, lb, hk, rfl, hA, hB, Hla, Hlb, hbel⟩ := hrel
   have hga := (hA.lt ga rfl).1
   have hgb := (hB.lt gb rfl).1
   have hga2 := (hA.lt ga rfl).2
   have hgb2 := (hB.lt gb rfl).2
   have hll : la.length = 286 := by have := hA.1; simpa [ints] using this
   have hlb : lb.length = 30 := by have := hB.1; simpa [ints] using this
   have HA := Lib.hid hA
   have HB := Lib.hid hB
   have Hbel := Lib.hid hbel
   have hsz := hbel.size
   clear hA hB hbel
   by_cases hlt : k < n
   ·obtain ⟨b, o, rfl, hc⟩ := HK.out.2 (by omega)
    obtain ⟨z0, z1, z2⟩ := hc k hlt
    have z0 := kept_cell Hbel.out z0
    have z1 := kept_cell Hbel.out z1
    have z2 := kept_cell Hbel.out z2
    have hw := Hwf.out k hlt
    have hca := fun j => cntA_next ts k j (by rw [Hlen.out]; exact hlt)
    have hcd := fun j => cntD_next ts k j (by rw [Hlen.out]; exact hlt)
    clear hc
    rcases tokOk_cases (Hok.out k hlt) with ⟨hl, hd⟩ | ⟨hb0, hl1, hl2, hd1, hd2⟩
    ·rw [hl] at z1
     obtain ⟨m, hm⟩ : ∃ m : Nat, tokB ts k = m := ⟨(tokB ts k).toNat, by omega⟩
     rw [hm] at z0 hw
     have hm2 : m < 286 := by omega
     have hnew := Lib.hid (count_next hll hm2 Hla.out (g := fun j => cntA (ts.take (k + 1)) j) (fun j _ => by show cntA (ts.take (k + 1)) j = _; rw [hca j, hl, symA_zero, hm]))
     have hnewd : Hid (∀ j, j < 30 → rd lb j = cntD (ts.take (k + 1)) j) := fun j hj => by rw [hcd j, if_neg (fun h => h.1 hl), Hlb.out j hj, Int.add_zero]
     have hv := cntA_le ts k m
     rw [← Hla.out m hm2] at hv
     have yc := HA.out.cellAt m (by omega)
     rw [ints_get (by omega)] at yc
     have yk := kept_new yc
     have yf : ∀ o : Obj, (wr.alloc o).frozen? ⟨ga, m, none⟩ = false := fun o => (HA.out.alloc o).frozenAt m
     have Hm := Lib.hid hm
     clear hca hcd hd hl hm yc
     go_wp2
     go_roundw
     case rel =>
      exact ⟨k + 1, la.set m (rd la m + 1), lb, by omega, by go_num, by rw [ints_set]; exact ((HA.out.stored m _).1).alloc _, (ownsRow_setCell_other (a := ⟨ga, m, none⟩) HB.out (by simpa [Value.ownBlock] using hne.symm) _).alloc _, hnew, hnewd, below_new (Hbel.out.setCell (p := ⟨ga, m, none⟩) hga _) (Nat.le_refl _) _⟩
     case measure => simp [intOf]; omega
    ·generalize tokB ts k = vb at *
     generalize tokL ts k = vl at *
     generalize tokD ts k = vd at *
     have hsl := symL_range vl hl1 hl2
     have hsd := symD_range vd hd1 hd2
     obtain ⟨p, hp⟩ : ∃ p : Nat, symS 257 lens vl = p := ⟨(symS 257 lens vl).toNat, by omega⟩
     obtain ⟨q, hq⟩ : ∃ q : Nat, symS 0 dists vd = q := ⟨(symS 0 dists vd).toNat, by omega⟩
     have hp2 : p < 286 := by omega
     have hq2 : q < 30 := by omega
     have hnew := Lib.hid (count_next hll hp2 Hla.out (g := fun j => cntA (ts.take (k + 1)) j) (fun j _ => by show cntA (ts.take (k + 1)) j = _; rw [hca j, symA_some _ hl1, hp]))
     have hnewd := Lib.hid (count_next hlb hq2 Hlb.out (g := fun j => cntD (ts.take (k + 1)) j) (fun j _ => by
      show cntD (ts.take (k + 1)) j = _
      rw [hcd j, hq]
      by_cases e : (q : Int) = j
      ·rw [if_pos ⟨by omega, e⟩, if_pos e]
      ·rw [if_neg (fun h => e h.2), if_neg e]))
     have hv := cntA_le ts k p
     rw [← Hla.out p hp2] at hv
     have hvd := cntD_le ts k q
     rw [← Hlb.out q hq2] at hvd
     have hl0 : (vl == 0) = false := by simp; omega
     have hcl : clampL vl = vl := clampL_in hl1 hl2
     have hcd2 : clampD vd = vd := clampD_in hd1 hd2
     have HCL := Lib.hid hcl
     have HCD := Lib.hid hcd2
     have HP := Lib.hid hp
     have HQ := Lib.hid hq
     clear hca hcd hcl hcd2 hp hq hsl hsd
     go_wp2_with fail
     refine (Length_calls vl _ (by omega) (by omega) (HT.out.below (below_new Hbel.out (Nat.le_refl _) _)).1).mono ?_
     rintro e w2 ⟨rfl, hb2⟩
     rw [HCL.out, HP.out]
     have t0 := (laid_kept hb2 0 _ rfl).1
     have t1 := (laid_kept hb2 1 _ rfl).1
     have t2 := (laid_kept hb2 2 _ rfl).1
     have HA2 := Lib.hid (own_below (HA.out.alloc _) hb2)
     have HB2 := Lib.hid (own_below (HB.out.alloc _) hb2)
     have Hb2 := Lib.hid (below_seq (below_new Hbel.out (Nat.le_refl _) _) (Nat.le_refl _) hb2)
     have hsz2 := hb2.size
     have yc := HA2.out.cellAt p (by omega)
     rw [ints_get (by omega)] at yc
     have yf := HA2.out.frozenAt p
     have hne1 : ga ≠ wr.heap.size := by omega
     have hne2 : wr.heap.size ≠ ga := by omega
     clear hb2
     go_wp2_with fail
     refine (Distance_calls vd _ (by omega) (by omega) (HT.out.below (Hb2.out.setCell (p := ⟨ga, p, none⟩) hga _)).2).mono ?_
     rintro e w3 ⟨rfl, hb3⟩
     rw [HCD.out, HQ.out]
     have HA3 := Lib.hid (own_below (HA2.out.stored p (.int .i64 (rd la p + 1))).1 hb3)
     have HB3 := Lib.hid (own_below (ownsRow_setCell_other (a := ⟨ga, p, none⟩) HB2.out (by simpa [Value.ownBlock] using hne.symm) (.int .i64 (rd la p + 1))) hb3)
     have Hb3 := Lib.hid (below_seq (Hb2.out.setCell (p := ⟨ga, p, none⟩) hga (.int .i64 (rd la p + 1))) (Nat.le_refl _) hb3)
     have xc := HB3.out.cellAt q (by omega)
     rw [ints_get (by omega)] at xc
     have xf := HB3.out.frozenAt q
     clear hb3
     go_wp2
     go_roundw
     case rel =>
      exact ⟨k + 1, la.set p (rd la p + 1), lb.set q (rd lb q + 1), by omega, by go_num, ownsRow_setCell_other (by rw [ints_set]; exact HA3.out) (by simpa [Value.ownBlock] using hne) _, by rw [ints_set]; exact (HB3.out.stored q _).1, hnew, hnewd, Hb3.out.setCell hgb _⟩
     case measure => simp [intOf]; omega
   ·obtain rfl : k = n := by omega
    have yc := HA.out.cellAt 256 (by omega)
    rw [ints_get (by omega)] at yc
    have yf := HA.out.frozenAt 256
    have hv := cntA_le ts k 256
    rw [← Hla.out 256 (by omega)] at hv
    have htk : ts.take k = ts := List.take_of_length_le (by rw [Hlen.out]; exact Nat.le_refl _)
    rw [htk] at Hla Hlb
    have hnew := Lib.hid (count_next hll (show 256 < 286 by omega) Hla.out (g := fun j => cntA ts j + if 256 = j then 1 else 0) (fun j _ => by
     show cntA ts j + _ = _
     by_cases e : 256 = j
     ·rw [if_pos e, if_pos (by omega)]
     ·rw [if_neg e, if_neg (by omega)]))
    clear htk
    go_wp2
    refine bodyPost_ret (v := .tuple #[.slice (some ⟨ga, 0, none⟩) 286 286, .slice (some ⟨gb, 0, none⟩) 30 30]) (by simp [results, Tryd.results56, go_sem]) rfl ⟨ga, gb, la.set 256 (rd la 256 + 1), lb, rfl, by rw [ints_set]; exact (HA.out.stored 256 _).1, ownsRow_setCell_other HB.out (by simpa [Value.ownBlock] using hne.symm) _, hnew, Hlb, Hbel.out.setCell hga _⟩
theorem held_step {w w1 w2 : World} {a : Addr} {v : Value} (h : w1.cell? a = some v ∧ Below w.heap.size w w1) (hb : Below w1.heap.size w1 w2) : w2.cell? a = some v ∧ Below w.heap.size w w2 :=
 ⟨kept_cell hb h.1, below_seq h.2 (Nat.le_refl _) hb⟩
set_option maxHeartbeats 2000000 in
set_option maxRecDepth 100000 in
theorem rWeights_calls (A : Option Addr) (n c : Nat) (ts : List Tok) (w : World) (hK : Toks w A n ts) (hn : n ≤ 100000) (hwf : TokWf ts n) (hok : ∀ j, j < n → tokOk (tokL ts j) (tokB ts j) (tokD ts j) = true) :
  Calls Tryd.prog 62 #[.slice A n c] w fun e w' => ∃ (ga gb : Nat) (la lb : List Int), e = .returned (.tuple #[.slice (some ⟨ga, 0, none⟩) 286 286, .slice (some ⟨gb, 0, none⟩) 30 30]) ∧
   w'.ownsRow w.heap.size 3 1 (.slice (some ⟨ga, 0, none⟩) 286 286) 286 (ints .i64 la) ∧ w'.ownsRow w.heap.size 3 1 (.slice (some ⟨gb, 0, none⟩) 30 30) 30 (ints .i64 lb) ∧
   Hid (∀ j, j < 286 → rd la j = cntA ts j + if 256 = j then 1 else 0) ∧ Hid (∀ j, j < 30 → rd lb j = cntD ts j) ∧ Below w.heap.size w w' := by
 have Hlen := Lib.hid hK.1
 have HK := Lib.hid hK
 have Hwf := Lib.hid hwf
 have Hok := Lib.hid hok
 clear hK hwf hok
 go_enter Tryd.func62, Tryd.ntmps62
 go_upto_region 1 with fail
 go_cut [4, 5] from 11 to 12 (fun a b wx => ∃ ga gb, ga ≠ gb ∧ a = .slice (some ⟨ga, 0, none⟩) 286 286 ∧ b = .slice (some ⟨gb, 0, none⟩) 30 30 ∧ (∃ la, Hid (∀ j, rd la j = 0) ∧ wx.ownsRow w.heap.size 3 1 a 286 (ints .i64 la)) ∧ (∃ lb, Hid (∀ j, rd lb j = 0) ∧ wx.ownsRow w.heap.size 3 1 b 30 (ints .i64 lb)) ∧ Below w.heap.size w wx)
 case first =>
  obtain ⟨oA, la, mA, lA, rA⟩ := make_rule elIntF 286 286 rfl (by decide)
  obtain ⟨oB, lb, mB, lB, rB⟩ := make_rule elIntF 30 30 rfl (by decide)
  have zA : Hid (∀ j, rd la j = 0) := fun j => by rw [lA.out]; exact rd_replicate _ _
  have zB : Hid (∀ j, rd lb j = 0) := fun j => by rw [lB.out]; exact rd_replicate _ _
  clear lA lB
  go_wp2
  go_region
  ·go_wp2
   go_meet
   exact ⟨w.heap.size, w.heap.size + 1, by omega, by simp, by simp, ⟨la, zA, (rA.out w.drew _ _ rfl (Nat.le_refl _)).alloc _⟩, ⟨lb, zB, rB.out (w.drew.alloc oA) _ _ (by simp) (by omega)⟩, below_new (below_new (Below.refl _ _).drew (Nat.le_refl _) _) (Nat.le_refl _) _⟩
  ·go_wp2
   go_meet
   exact ⟨w.heap.size + 1, w.heap.size, by omega, by simp, by simp, ⟨la, zA, rA.out (w.drew.alloc oB) _ _ (by simp) (by omega)⟩, ⟨lb, zB, (rB.out w.drew _ _ rfl (Nat.le_refl _)).alloc _⟩, below_new (below_new (Below.refl _ _).drew (Nat.le_refl _) _) (Nat.le_refl _) _⟩
 case rest =>
  obtain ⟨ga, gb, hne, rfl, rfl, ⟨la, zA, hownA⟩, ⟨lb, zB, hownB⟩, hb⟩ := hcut
  have hga := (hownA.lt ga rfl).1
  have hll : la.length = 286 := by have := hownA.1; simpa [ints] using this
  have yc := hownA.cellAt 256 (by omega)
  rw [ints_get (by omega)] at yc
  have yf := hownA.frozenAt 256
  have HA := Lib.hid hownA
  have HB := Lib.hid hownB
  have Hb := Lib.hid hb
  clear hownA hownB hb
  go_wp2
  go_loopw [6] (fun i wr => ∃ (k : Nat) (la lb : List Int), k ≤ n ∧ i = .int .i64 k ∧ wr.ownsRow w.heap.size 3 1 (.slice (some ⟨ga, 0, none⟩) 286 286) 286 (ints .i64 la) ∧ wr.ownsRow w.heap.size 3 1 (.slice (some ⟨gb, 0, none⟩) 30 30) 30 (ints .i64 lb) ∧ Hid (∀ j, j < 286 → rd la j = cntA (ts.take k) j + if 256 = j then 1 else 0) ∧ Hid (∀ j, j < 30 → rd lb j = cntD (ts.take k) j) ∧ Below w.heap.size w wr) (fun i _ => n - (intOf i).toNat)
  case atStart =>
   refine ⟨0, la.set 256 1, lb, by omega, rfl, by rw [ints_set]; exact (HA.out.stored 256 _).1, ownsRow_setCell_other HB.out (by simpa [Value.ownBlock] using hne.symm) _, ?_, (fun j _ => zB.out j), Hb.out.setCell hga _⟩
   intro j hj
   rw [rd_set (by omega), zA.out j, cntA_zero]
   split <;> rfl
  case round =>
   obtain ⟨k, la, lb, hk, rfl, hA, hB, Hla, Hlb, hbel⟩ := hrel
   have hga := (hA.lt ga rfl).1
   have hgb := (hB.lt gb rfl).1
   have hga2 := (hA.lt ga rfl).2
   have hgb2 := (hB.lt gb rfl).2
   have hll : la.length = 286 := by have := hA.1; simpa [ints] using this
   have hlb : lb.length = 30 := by have := hB.1; simpa [ints] using this
   have HA := Lib.hid hA
   have HB := Lib.hid hB
   have Hbel := Lib.hid hbel
   have hsz := hbel.size
   clear hA hB hbel yc yf
   by_cases hlt : k < n
   ·obtain ⟨b, o, rfl, hc⟩ := HK.out.2 (by omega)
    obtain ⟨z0, z1, z2⟩ := hc k hlt
    have z0 := kept_cell Hbel.out z0
    have z1 := kept_cell Hbel.out z1
    have z2 := kept_cell Hbel.out z2
    have hw := Hwf.out k hlt
    have hca := fun j => cntA_next ts k j (by rw [Hlen.out]; exact hlt)
    have hcd := fun j => cntD_next ts k j (by rw [Hlen.out]; exact hlt)
    clear hc
    rcases tokOk_cases (Hok.out k hlt) with ⟨hl, hd⟩ | ⟨hb0, hl1, hl2, hd1, hd2⟩
    ·rw [hl] at z1
     obtain ⟨m, hm⟩ : ∃ m : Nat, tokB ts k = m := ⟨(tokB ts k).toNat, by omega⟩
     rw [hm] at z0 hw
     have hm2 : m < 286 := by omega
     have hnew := Lib.hid (count_next hll hm2 Hla.out (g := fun j => cntA (ts.take (k + 1)) j + if 256 = j then 1 else 0) (fun j _ => by show cntA (ts.take (k + 1)) j + _ = _; rw [hca j, hl, symA_zero, hm]; omega))
     have hnewd : Hid (∀ j, j < 30 → rd lb j = cntD (ts.take (k + 1)) j) := fun j hj => by rw [hcd j, if_neg (fun h => h.1 hl), Hlb.out j hj, Int.add_zero]
     have hv := cntA_le ts k m
     have hv2 : 0 ≤ rd la m ∧ rd la m ≤ k + 1 := by rw [Hla.out m hm2]; split <;> omega
     have yc := HA.out.cellAt m (by omega)
     rw [ints_get (by omega)] at yc
     have yf := HA.out.frozenAt m
     have Hm := Lib.hid hm
     clear hca hcd hd hl hm hv
     go_wp2
     go_roundw
     case rel =>
      exact ⟨k + 1, la.set m (rd la m + 1), lb, by omega, by go_num, by rw [ints_set]; exact (HA.out.stored m _).1, ownsRow_setCell_other (a := ⟨ga, m, none⟩) HB.out (by simpa [Value.ownBlock] using hne.symm) _, hnew, hnewd, Hbel.out.setCell (p := ⟨ga, m, none⟩) hga _⟩
     case measure => simp [intOf]; omega
    ·generalize tokB ts k = vb at *
     generalize tokL ts k = vl at *
     generalize tokD ts k = vd at *
     have hsl := lastLe_lt lens vl lens.length (by decide)
     have hsd := lastLe_lt dists vd dists.length (by decide)
     rw [lens_length] at hsl
     rw [dists_length] at hsd
     have hp : symS 257 lens vl = 257 + (lastLe lens vl 29 : Nat) := rfl
     have hq : symS 0 dists vd = (lastLe dists vd 30 : Nat) := by unfold symS; rw [dists_length]; omega
     have hp2 : 257 + lastLe lens vl 29 < 286 := by omega
     have hnew := Lib.hid (count_next hll hp2 Hla.out (g := fun j => cntA (ts.take (k + 1)) j + if 256 = j then 1 else 0) (fun j _ => by
      show cntA (ts.take (k + 1)) j + _ = _
      rw [hca j, symA_some _ hl1, hp, Int.natCast_add]
      omega))
     have hnewd := Lib.hid (count_next hlb hsd Hlb.out (g := fun j => cntD (ts.take (k + 1)) j) (fun j _ => by
      show cntD (ts.take (k + 1)) j = _
      rw [hcd j, hq]
      by_cases e : ((lastLe dists vd 30 : Nat) : Int) = j
      ·rw [if_pos ⟨by omega, e⟩, if_pos e]
      ·rw [if_neg (fun h => e h.2), if_neg e]))
     have hv := cntA_le ts k (257 + lastLe lens vl 29)
     have hv2 : 0 ≤ rd la (257 + lastLe lens vl 29) ∧ rd la (257 + lastLe lens vl 29) ≤ k + 1 := by rw [Hla.out _ hp2]; split <;> omega
     have hvd := cntD_le ts k (lastLe dists vd 30)
     rw [← Hlb.out _ hsd] at hvd
     have hl0 : (vl == 0) = false := by simp; omega
     clear hca hcd hp hq hv
     obtain ⟨p, hp⟩ : ∃ p, p = lastLe lens vl 29 := ⟨_, rfl⟩
     obtain ⟨q, hq⟩ : ∃ q, q = lastLe dists vd 30 := ⟨_, rfl⟩
     have HP : Hid (lastLe lens vl 29 = p) := hp.symm
     have HQ : Hid (lastLe dists vd 30 = q) := hq.symm
     rw [← hp] at hsl hp2 hnew hv2
     rw [← hq] at hsd hnewd hvd
     clear hp hq
     have HZ2 := Lib.hid z2
     have Hw := Lib.hid hw
     have hz1 := z1
     go_upto_region 8 with fail
     go_cut [7, 8] from 38 to 47 (fun x _ wx => x = .int .i64 p ∧ Below wr.heap.size wr wx)
     case first =>
      have S0 : wr.drew.cell? ⟨b, o + k * 3 + 1, none⟩ = some (.int .i64 vl) ∧ Below wr.heap.size wr wr.drew := ⟨z1, (Below.refl _ _).drew⟩
      go_region_held3 (fun w' => w'.cell? ⟨b, o + k * 3 + 1, none⟩ = some (.int .i64 vl) ∧ Below wr.heap.size wr w')
       (first | exact S0 | exact S9 | exact S10)
       (first
       | (go_at_call 92; refine (rLengths_calls _).mono ?_; rintro e w9 ⟨v9, rfl, own9, hb9⟩; have S9 : w9.cell? ⟨b, o + k * 3 + 1, none⟩ = some (.int .i64 vl) ∧ Below wr.heap.size wr w9 := held_step (by assumption) hb9; obtain ⟨g9, c9, rfl, _, R9⟩ := rowsAt_own own9 (by decide); clear hb9)
       | (go_at_call 95; refine (rOf_calls _ lens _ 29 _ _ rfl (by omega) (by omega) (by omega) (by omega) (fun j hj => by have := lens_range j hj; omega) R9).mono ?_; rintro e w10 ⟨rfl, hb10⟩; have S10 : w10.cell? ⟨b, o + k * 3 + 1, none⟩ = some (.int .i64 vl) ∧ Below wr.heap.size wr w10 := held_step (by assumption) hb10; clear hb10))
      go_wp2
      go_meet
      exact ⟨by rw [HP.out], S10.2⟩
     case rest =>
     obtain ⟨rfl, hb5⟩ := hcut
     have z25 := kept_cell hb5 HZ2.out
     have HA5 := Lib.hid (own_below HA.out hb5)
     have HB5 := Lib.hid (own_below HB.out hb5)
     have Hb5 := Lib.hid (below_seq Hbel.out (Nat.le_refl _) hb5)
     have hsz5 := hb5.size
     clear hb5
     obtain ⟨wo, hwo⟩ : ∃ wo : World, wo = wc := ⟨_, rfl⟩
     subst hwo
     go_upto_region 9 with fail
     go_cut [9, 10] from 48 to 57 (fun x _ wx => x = .int .i64 q ∧ Below wo.heap.size wo wx)
     case first =>
      have S0 : wo.drew.cell? ⟨b, o + k * 3 + 2, none⟩ = some (.int .i64 vd) ∧ Below wo.heap.size wo wo.drew := ⟨z25, (Below.refl _ _).drew⟩
      go_region_held3 (fun w' => w'.cell? ⟨b, o + k * 3 + 2, none⟩ = some (.int .i64 vd) ∧ Below wo.heap.size wo w')
       (first | exact S0 | exact S9 | exact S10)
       (first
       | (go_at_call 93; refine (rDistances_calls _).mono ?_; rintro e w9 ⟨v9, rfl, own9, hb9⟩; have S9 : w9.cell? ⟨b, o + k * 3 + 2, none⟩ = some (.int .i64 vd) ∧ Below wo.heap.size wo w9 := held_step (by assumption) hb9; obtain ⟨g9, c9, rfl, _, R9⟩ := rowsAt_own own9 (by decide); clear hb9)
       | (go_at_call 95; refine (rOf_calls _ dists _ 30 _ _ rfl (by omega) (by omega) (by omega) (by omega) (fun j hj => by have := dists_range j hj; omega) R9).mono ?_; rintro e w10 ⟨rfl, hb10⟩; have S10 : w10.cell? ⟨b, o + k * 3 + 2, none⟩ = some (.int .i64 vd) ∧ Below wo.heap.size wo w10 := held_step (by assumption) hb10; clear hb10))
      go_wp2
      go_meet
      exact ⟨by rw [HQ.out], S10.2⟩
     case rest =>
     obtain ⟨rfl, hb6⟩ := hcut
     have HA6 := Lib.hid (own_below HA5.out hb6)
     have HB6 := Lib.hid (own_below HB5.out hb6)
     have Hb6 := Lib.hid (below_seq Hb5.out (Nat.le_refl _) hb6)
     have hsz6 := hb6.size
     clear hb6
     have yc := HA6.out.cellAt (257 + p) (by omega)
     rw [ints_get (by omega)] at yc
     have yf := HA6.out.frozenAt (257 + p)
     have xc := HB6.out.cellAt q (by omega)
     rw [ints_get (by omega)] at xc
     have xf := HB6.out.frozenAt q
     have t1 : ((257 : Int) + p).toNat = 257 + p := by omega
     have hne2 : gb ≠ ga := hne.symm
     go_wp2
     go_roundw
     case rel =>
      exact ⟨k + 1, la.set (257 + p) (rd la (257 + p) + 1), lb.set q (rd lb q + 1), by omega, by go_num,
       ownsRow_setCell_other (a := ⟨gb, q, none⟩) (by rw [ints_set]; exact (HA6.out.stored (257 + p) _).1) (by simpa [Value.ownBlock] using hne) _,
       by rw [ints_set]; exact ((ownsRow_setCell_other (a := ⟨ga, 257 + p, none⟩) HB6.out (by simpa [Value.ownBlock] using hne.symm) _).stored q _).1, hnew, hnewd, (Hb6.out.setCell (p := ⟨ga, 257 + p, none⟩) hga _).setCell (p := ⟨gb, q, none⟩) hgb _⟩
     case measure => simp [intOf]; omega
   ·obtain rfl : k = n := by omega
    have htk : ts.take k = ts := List.take_of_length_le (by rw [Hlen.out]; exact Nat.le_refl _)
    rw [htk] at Hla Hlb
    clear htk
    go_wp2
    refine bodyPost_ret (v := .tuple #[.slice (some ⟨ga, 0, none⟩) 286 286, .slice (some ⟨gb, 0, none⟩) 30 30]) (by simp [results, Tryd.results62, go_sem]) rfl ⟨ga, gb, la, lb, rfl, HA.out, HB.out, Hla, Hlb, Hbel.out⟩
end Go.Proofs.YtendohnkhbgfbaaDoor
namespace Go.Proofs.YtendohnkhbgfbaaDoor

def firstAt (c : List Int) : Nat → Int
 | 0 => 0
 | k + 1 => 2 * (firstAt c k + rd c k)
theorem firstAt_range (c : List Int) (n : Int) (hc : ∀ j, j < 16 → 0 ≤ rd c j ∧ rd c j ≤ n) (k : Nat) (hk : k ≤ 16) : 0 ≤ firstAt c k ∧ firstAt c k + 2 * n ≤ 2 * n * 2 ^ k := by
 induction k with
 | zero => simp [firstAt]
 | succ k ih =>
  have h1 := ih (by omega)
  have h2 := hc k (by omega)
  have e : 2 * n * 2 ^ (k + 1) = 2 * (2 * n * 2 ^ k) := by rw [Int.pow_succ, ← Int.mul_assoc, Int.mul_comm _ 2]
  rw [e]
  simp only [firstAt]
  omega
theorem firstAt_le (c : List Int) (n : Int) (hn : 0 ≤ n) (hc : ∀ j, j < 16 → 0 ≤ rd c j ∧ rd c j ≤ n) (k : Nat) (hk : k ≤ 16) : 0 ≤ firstAt c k ∧ firstAt c k ≤ 131072 * n := by
 have h1 := firstAt_range c n hc k hk
 have h2 : 2 * n * 2 ^ k ≤ 2 * n * 2 ^ 16 := by
  refine Int.mul_le_mul_of_nonneg_left ?_ (by omega)
  have : (2 : Nat) ^ k ≤ 2 ^ 16 := Nat.pow_le_pow_right (by omega) hk
  exact_mod_cast this
 have h3 : 2 * n * 2 ^ 16 = 131072 * n := by
  rw [show ((2 : Int) ^ 16) = 65536 from by decide +kernel]
  omega
 omega
def firstsOf (c : List Int) : List Int := (List.range 16).map (firstAt c)
theorem firstsOf_length (c : List Int) : (firstsOf c).length = 16 := by simp [firstsOf]
theorem rd_firstsOf (c : List Int) (j : Nat) (h : j < 16) : rd (firstsOf c) j = firstAt c j := by
 rw [rd_getElem (by rw [firstsOf_length]; exact h)]
 simp [firstsOf]
def before (xs : List Int) (k : Int) (s : Nat) : Nat := ((xs.take s).filter fun x => x == k).length
theorem before_zero (xs : List Int) (k : Int) : before xs k 0 = 0 := by simp [before]
theorem before_hit (xs : List Int) (k : Int) (s : Nat) (hs : s < xs.length) (h : rd xs s = k) : before xs k (s + 1) = before xs k s + 1 := by
 unfold before
 rw [List.take_succ_eq_append_getElem hs, ← rd_getElem hs, List.filter_append, h]
 simp
theorem before_miss (xs : List Int) (k : Int) (s : Nat) (hs : s < xs.length) (h : rd xs s ≠ k) : before xs k (s + 1) = before xs k s := by
 unfold before
 rw [List.take_succ_eq_append_getElem hs, ← rd_getElem hs, List.filter_append]
 have : (rd xs s == k) = false := by simpa using h
 simp [this]
theorem before_le (xs : List Int) (k : Int) (s : Nat) : before xs k s ≤ s := by
 have h1 := List.length_filter_le (fun x => x == k) (xs.take s)
 have h2 := List.length_take_le s xs
 unfold before
 omega
theorem rd_cntOf_pos (xs : List Int) (k : Nat) (h : 0 < k) (h2 : k < 16) : rd (cntOf xs) k = (before xs k xs.length : Nat) := by
 unfold cntOf
 rw [rd_set (by rw [cntTo_length]; omega), if_neg (by omega), rd_cntTo _ _ _ h2]
 rfl
theorem rd_cntOf_zero (xs : List Int) : rd (cntOf xs) 0 = 0 := by
 unfold cntOf
 rw [rd_set (by rw [cntTo_length]; omega), if_pos rfl]
def nextCode (xs : List Int) (k s : Nat) : Int := firstAt (cntOf xs) k + (before xs k s : Nat)
theorem nextCode_over (xs : List Int) (k : Nat) (h : 0 < k) (h2 : k < 16) : nextCode xs (k + 1) 0 = 2 * nextCode xs k xs.length := by
 unfold nextCode
 rw [before_zero]
 simp only [firstAt]
 rw [rd_cntOf_pos xs k h h2]
 omega
theorem nextCode_one (xs : List Int) : nextCode xs 1 0 = 0 := by
 unfold nextCode
 rw [before_zero]
 simp only [firstAt]
 rw [rd_cntOf_zero]
 rfl
theorem nextCode_range (xs : List Int) (k s : Nat) (hk : k ≤ 16) : 0 ≤ nextCode xs k s ∧ nextCode xs k s ≤ 131072 * xs.length + s := by
 have h1 := firstAt_le (cntOf xs) xs.length (by omega) (rd_cntOf xs) k hk
 have h2 := before_le xs k s
 unfold nextCode
 omega
def codeAt (xs : List Int) (s : Nat) : Int := if 0 < rd xs s ∧ rd xs s ≤ 15 then nextCode xs (rd xs s).toNat s else 0
def codesOf (xs : List Int) : List Int := (List.range xs.length).map (codeAt xs)
theorem codesOf_length (xs : List Int) : (codesOf xs).length = xs.length := by simp [codesOf]
theorem rd_codesOf (xs : List Int) (j : Nat) (h : j < xs.length) : rd (codesOf xs) j = codeAt xs j := by
 rw [rd_getElem (by rw [codesOf_length]; exact h)]
 simp [codesOf]
end Go.Proofs.YtendohnkhbgfbaaDoor
namespace Go.Proofs.YtendohnkhbgfbaaDoor
open Go.RowKit

def firstsTo (c : List Int) (k : Nat) : List Int := (List.range 16).map fun j => if j < k then firstAt c j else 0
theorem firstsTo_length (c : List Int) (k : Nat) : (firstsTo c k).length = 16 := by simp [firstsTo]
theorem rd_firstsTo (c : List Int) (k j : Nat) (h : j < 16) : rd (firstsTo c k) j = if j < k then firstAt c j else 0 := by
 rw [rd_getElem (by rw [firstsTo_length]; exact h)]
 simp [firstsTo]
theorem firstsTo_next (c : List Int) (k : Nat) (h : k < 16) : firstsTo c (k + 1) = (firstsTo c k).set k (firstAt c k) := by
 apply ext_rd (by simp [firstsTo_length])
 intro j hj
 rw [firstsTo_length] at hj
 rw [rd_set (by rw [firstsTo_length]; exact h), rd_firstsTo _ _ _ hj, rd_firstsTo _ _ _ hj]
 by_cases e : k = j
 ·subst e; rw [if_pos rfl, if_pos (by omega)]
 ·rw [if_neg e]
  by_cases g : j < k
  ·rw [if_pos g, if_pos (by omega)]
  ·rw [if_neg g, if_neg (by omega)]
theorem firstsTo_all (c : List Int) : firstsTo c 16 = firstsOf c := by
 apply ext_rd (by rw [firstsTo_length, firstsOf_length])
 intro j hj
 rw [firstsTo_length] at hj
 rw [rd_firstsTo _ _ _ hj, rd_firstsOf _ _ hj, if_pos hj]
theorem firstsTo_one (c : List Int) : firstsTo c 1 = List.replicate 16 0 := by
 apply ext_rd (by rw [firstsTo_length, List.length_replicate])
 intro j hj
 rw [firstsTo_length] at hj
 rw [rd_firstsTo _ _ _ hj]
 have : rd (List.replicate 16 (0 : Int)) j = 0 := by
  rw [rd_getElem (by rw [List.length_replicate]; exact hj), List.getElem_replicate]
 rw [this]
 split
 ·have : j = 0 := by omega
  subst this; rfl
 ·rfl

set_option maxHeartbeats 1000000 in
set_option maxRecDepth 200000 in
theorem firsts_calls (c : List Int) (n : Nat) (w : World) (hl : c.length = 16) (hn : n ≤ 1000000) (hc : ∀ j, j < 16 → 0 ≤ rd c j ∧ rd c j ≤ n) :
  Calls Tryd.prog 110 #[.agg (ints .i64 c).toArray] w fun e w' => e = .returned (.agg (ints .u64 (firstsOf c)).toArray) ∧ Below w.heap.size w w' := by
 have Hl := Lib.hid hl
 have Hc := Lib.hid hc
 clear hc
 go_enter Tryd.func110, Tryd.ntmps110
 go_wp2
 go_loopw [4, 5] (fun x i wr => ∃ k : Nat, k ≤ 15 ∧ i = .int .i64 (1 + k) ∧ x = .int .u64 (firstAt c k) ∧ Blk wr w.heap.size 175 .i64 c ∧ Blk wr (w.heap.size + 1) 178 .u64 (List.replicate 16 0) ∧ Blk wr (w.heap.size + 1 + 1) 178 .u64 (firstsTo c (1 + k)) ∧ Below w.heap.size w wr) (fun _ i _ => 16 - (intOf i).toNat)
 case atStart =>
  refine ⟨0, by omega, rfl, rfl, ?_, ?_, ?_, below_new (below_new (below_new (Below.refl _ _) (Nat.le_refl _) _) (Nat.le_refl _) _) (Nat.le_refl _) _⟩
  ·exact Blk.alloc (Blk.alloc (heap_alloc_new w _) _) _
  ·have h1 : Blk ((w.alloc (Obj.cells (ints .i64 c).toArray 175)).alloc (Obj.cells #[Value.int IntKind.u64 0, Value.int IntKind.u64 0, Value.int IntKind.u64 0, Value.int IntKind.u64 0, Value.int IntKind.u64 0, Value.int IntKind.u64 0, Value.int IntKind.u64 0, Value.int IntKind.u64 0, Value.int IntKind.u64 0, Value.int IntKind.u64 0, Value.int IntKind.u64 0, Value.int IntKind.u64 0, Value.int IntKind.u64 0, Value.int IntKind.u64 0, Value.int IntKind.u64 0, Value.int IntKind.u64 0] 178)) (w.heap.size + 1) 178 .u64 (List.replicate 16 0) := heap_alloc2_new _ _ _
   exact h1.alloc _
  ·rw [firstsTo_one]
   have h1 : Blk (((w.alloc (Obj.cells (ints .i64 c).toArray 175)).alloc (Obj.cells #[Value.int IntKind.u64 0, Value.int IntKind.u64 0, Value.int IntKind.u64 0, Value.int IntKind.u64 0, Value.int IntKind.u64 0, Value.int IntKind.u64 0, Value.int IntKind.u64 0, Value.int IntKind.u64 0, Value.int IntKind.u64 0, Value.int IntKind.u64 0, Value.int IntKind.u64 0, Value.int IntKind.u64 0, Value.int IntKind.u64 0, Value.int IntKind.u64 0, Value.int IntKind.u64 0, Value.int IntKind.u64 0] 178)).alloc (Obj.cells #[Value.int IntKind.u64 0, Value.int IntKind.u64 0, Value.int IntKind.u64 0, Value.int IntKind.u64 0, Value.int IntKind.u64 0, Value.int IntKind.u64 0, Value.int IntKind.u64 0, Value.int IntKind.u64 0, Value.int IntKind.u64 0, Value.int IntKind.u64 0, Value.int IntKind.u64 0, Value.int IntKind.u64 0, Value.int IntKind.u64 0, Value.int IntKind.u64 0, Value.int IntKind.u64 0, Value.int IntKind.u64 0] 178)) ((w.alloc (Obj.cells (ints .i64 c).toArray 175)).heap.size + 1) 178 .u64 (List.replicate 16 0) := heap_alloc2_new _ _ _
   rw [show (w.alloc (Obj.cells (ints .i64 c).toArray 175)).heap.size = w.heap.size + 1 from by simp] at h1
   exact h1
 case round =>
  obtain ⟨k, hk, rfl, rfl, hB0, hB1, hB2, hbel⟩ := hrel
  have HB0 := Lib.hid hB0
  have HB1 := Lib.hid hB1
  have HB2 := Lib.hid hB2
  have Hbel := Lib.hid hbel
  clear hB0 hB1 hB2 hbel
  by_cases hlt : k < 15
  ·have hck := HB0.out.cell (j := k) (by omega)
   have hr := Hc.out k (by omega)
   have hf := firstAt_le c n (by omega) Hc.out k (by omega)
   have hst := HB2.out.frozen (1 + k)
   have hcl := HB2.out.cell (j := 1 + k) (by rw [firstsTo_length]; omega)
   have El := Lib.hid (show firstAt c (1 + k) = 2 * (firstAt c k + rd c k) from by rw [Nat.add_comm]; rfl)
   have s1 : ((1 : Int) + k).toNat = 1 + k := by omega
   have s2 : IntKind.i64.wrap (1 + (k : Int) - 1) = k := by rw [IntWalk.i64_in _ (by omega)]; omega
   go_wp2
   go_roundw
   case rel =>
    have e1 : (firstAt c k + rd c k) * 2 = firstAt c (1 + k) := by rw [El.out]; omega
    refine ⟨k + 1, by omega, by go_num, by rw [e1, Nat.add_comm], HB0.out.other _ _ (by simp; omega), HB1.out.other _ _ (by simp), ?_, Hbel.out.setCell (by simp; omega) _⟩
    rw [show 1 + (k + 1) = 1 + k + 1 from by omega, firstsTo_next c (1 + k) (by omega), ← e1]
    exact HB2.out.set _ _
   case measure => simp [intOf]; omega
  ·have hk15 : k = 15 := by omega
   rw [hk15, show 1 + 15 = 16 from rfl, firstsTo_all] at HB2
   clear hk15
   have hs : (ints .u64 (firstsOf c)).toArray.size = 16 := by rw [ints_size, firstsOf_length]
   have Hs := Lib.hid hs
   clear hs
   go_wp2_with (first
    | (refine wpList_load_row rfl 178 _ rfl (w.heap.size + 1 + 1) rfl 178 _ (0, 0) _ HB2.out Tryd.underlying178 rfl (by rw [Hs.out]; kernel_rfl) ?_)
    | (refine wpList_store_row rfl 178 _ _ rfl (w.heap.size + 1) _ rfl rfl 178 _ HB1.out (by rw [Hs.out]; kernel_rfl) (by rw [Hs.out]; simp [ints]) (ints_one _ _) ?_))
   have hrow := setRow_heap _ (w.heap.size + 1) _ (ints .u64 (firstsOf c)).toArray 178 _ HB1.out
   have hl := run_loadVar_row (P := Tryd.prog) _ (w.heap.size + 1) 178 178 _ _ _ hrow Tryd.underlying178 rfl (by rw [Hs.out]; kernel_rfl)
   refine bodyPost_ret (v := .agg (ints .u64 (firstsOf c)).toArray) ?_ rfl ⟨rfl, ?_⟩
   ·simp [results, Tryd.results110, asAddr, hl, Act.put]
   ·exact Hbel.out.trans ⟨rfl, rfl, rfl, by simp, fun i hi => setRow_other _ (w.heap.size + 1) i _ (by omega)⟩
end Go.Proofs.YtendohnkhbgfbaaDoor
