/-
  Texts joined into one file: Laid22, SlK, ChunkL, ChunkMany.
-/
import Derived.Test.YtendohnkhbgfbaaDoorJChunkMany4
import Derived.Test.YtendohnkhbgfbaaDoorJBytK5
import Derived.Test.YtendohnkhbgfbaaDoorJChunkMany3
import Derived.Test.YtendohnkhbgfbaaDoorJBytK25
import Derived.ProofKit
import Derived.OpenShut
import Derived.ChangeSame
import Derived.ChangeSlices
import Derived.Test.YtendohnkhbgfbaaDoorJGetW1
import Derived.Deep.RegionHeld3
/-
  What the rows' condition on the six listed tables gives the walks.
-/
namespace Go.Proofs.YtendohnkhbgfbaaDoor
open Go.RowKit

/-- An array of numbers of a kind that reads as these holds them. -/
theorem ints_of_trodK {H : Type} {enc : TypeId × Value → H} {P : Program} {w : World} {base : Nat} {sp : Nat → Bool} {held : Bool} {fuel t e n : Nat} {k : IntKind} {cs : List Value} {nums : List Int} {p : List MemPlace}
    (ht : P.underlying t = some (.array n e)) (k0 : P.underlying e = some (.int k)) (ce : P.cellsOf e = 1)
    (h : DataW.trod enc P w base sp held fuel t cs = some (.agg (nums.map fun r => .lit (.int k r)), p)) :
    ∀ j, j < nums.length → cs[j]? = some (.int k (rd nums j)) := by
  obtain ⟨xs, m, rfl, hx, hlen, hn, hel⟩ := DataW.trod_array ht h
  simp only [Prod.mk.injEq, DataW.agg.injEq] at hx
  intro j hj
  have hxl : xs.length = nums.length := by have := congrArg List.length hx.1; simpa using this.symm
  have hz := hel j (by omega)
  obtain ⟨x, hxj⟩ : ∃ x, xs[j]? = some x := ⟨xs[j]'(by omega), by simp [List.getElem?_eq_getElem (show j < xs.length by omega)]⟩
  rw [hxj, ce, Nat.mul_one] at hz
  obtain ⟨r0, e0, f0', _⟩ := DataW.trod_int k0 hz
  have hx1 : x.1 = (DataW.lit (.int k (rd nums j)) : DataW H) := by
    have := congrArg (·[j]?) hx.1
    simp only [List.getElem?_map, hxj, Option.map_some, List.getElem?_eq_getElem hj] at this
    rw [rd_getElem hj]
    exact (Option.some.inj this).symm
  rw [f0'] at hx1
  simp at hx1
  subst hx1
  have g0 := congrArg (·[0]?) e0
  simp [List.getElem?_drop] at g0
  exact g0
theorem gKeys : Tryd.prog.globalNamed "inkwell/sha.keys" = some 3 := by kernel_rfl
theorem gBegin : Tryd.prog.globalNamed "inkwell/sha.begin" = some 2 := by kernel_rfl
theorem gMagic : Tryd.prog.globalNamed "inkwell/chunk.magic" = some 0 := by kernel_rfl
theorem tKeys : (Tryd.prog.globals[3]?).map (·.type) = some 174 := by kernel_rfl
theorem tBegin : (Tryd.prog.globals[2]?).map (·.type) = some 82 := by kernel_rfl
theorem tMagic : (Tryd.prog.globals[0]?).map (·.type) = some 46 := by kernel_rfl
theorem key_wv : ∀ j, j < 64 → wv (keyS j) = rd keyL j := fun j hj => by
  have h : ∀ j, j < 64 → 0 ≤ rd keyL j ∧ rd keyL j < 4294967296 := by decide
  exact wv_w32 (h j hj)
theorem first_wv : ∀ j, j < 8 → wv (firstS.at j) = rd firstL j := fun j hj => by
  have h : ∀ j, j < 8 → 0 ≤ rd firstL j ∧ rd firstL j < 4294967296 := by decide
  rcases (show j = 0 ∨ j = 1 ∨ j = 2 ∨ j = 3 ∨ j = 4 ∨ j = 5 ∨ j = 6 ∨ j = 7 by omega) with rfl | rfl | rfl | rfl | rfl | rfl | rfl | rfl <;> exact wv_w32 (h _ (by omega))
structure Tabs22 (w : World) : Prop where
  tabs : Tabs w
  ord : OrdAt w
  keys : KeysAt w
  beg : BeginAt w
  mag : MagicAt w
theorem Tabs22.below {w w' : World} (h : Tabs22 w) (hb : Below w.heap.size w w') : Tabs22 w' :=
  ⟨h.tabs.below hb, fun j hj => kept_cell hb (h.ord j hj), fun j hj => kept_cell hb (h.keys j hj), fun j hj => kept_cell hb (h.beg j hj), fun j hj => kept_cell hb (h.mag j hj)⟩
theorem tabs22_of_laid {W : World} (h : laidMetH Tryd.prog [("inkwell/syms.lengths", Rows.laid_inkwell_syms_lengths), ("inkwell/syms.distances", Rows.laid_inkwell_syms_distances), ("inkwell/sha.keys", Rows.laid_inkwell_sha_keys), ("inkwell/sha.begin", Rows.laid_inkwell_sha_begin), ("inkwell/codes.order", Rows.laid_inkwell_codes_order), ("inkwell/chunk.magic", Rows.laid_inkwell_chunk_magic)] W) : Tabs22 W := by
  rw [MakeChecks.laidMetH_plain _ _ _ (by kernel_rfl)] at h
  obtain ⟨ps, ⟨g0, t0, cs0, n0, p0, q0, hg0, ht0, hv0, hd0, ⟨g1, t1, cs1, n1, p1, q1, hg1, ht1, hv1, hd1, ⟨g2, t2, cs2, n2, p2, q2, hg2, ht2, hv2, hd2, ⟨g3, t3, cs3, n3, p3, q3, hg3, ht3, hv3, hd3, ⟨g4, t4, cs4, n4, p4, q4, hg4, ht4, hv4, hd4, ⟨g5, t5, cs5, n5, p5, q5, hg5, ht5, hv5, hd5, _, _⟩, _⟩, _⟩, _⟩, _⟩, _⟩, _, _⟩ := h
  obtain rfl := Option.some.inj (gLens.symm.trans hg0)
  obtain rfl := Option.some.inj (gDists.symm.trans hg1)
  obtain rfl := Option.some.inj (gKeys.symm.trans hg2)
  obtain rfl := Option.some.inj (gBegin.symm.trans hg3)
  obtain rfl := Option.some.inj (gOrd.symm.trans hg4)
  obtain rfl := Option.some.inj (gMagic.symm.trans hg5)
  obtain rfl := Option.some.inj (tLens.symm.trans ht0)
  obtain rfl := Option.some.inj (tDists.symm.trans ht1)
  obtain rfl := Option.some.inj (tKeys.symm.trans ht2)
  obtain rfl := Option.some.inj (tBegin.symm.trans ht3)
  obtain rfl := Option.some.inj (tOrd.symm.trans ht4)
  obtain rfl := Option.some.inj (tMagic.symm.trans ht5)
  have u0 := pairs_of_trod (rows := lens) Tryd.underlying184 Tryd.underlying183 rfl rfl Tryd.underlying3 Tryd.underlying3 (by kernel_rfl) (by kernel_rfl) (by kernel_rfl) hd0
  have u1 := pairs_of_trod (rows := dists) Tryd.underlying185 Tryd.underlying183 rfl rfl Tryd.underlying3 Tryd.underlying3 (by kernel_rfl) (by kernel_rfl) (by kernel_rfl) hd1
  have u2 := ints_of_trodK (nums := keyL) Tryd.underlying174 Tryd.underlying81 (by kernel_rfl) hd2
  have u3 := ints_of_trodK (nums := firstL) Tryd.underlying82 Tryd.underlying81 (by kernel_rfl) hd3
  have u4 := ints_of_trod (nums := ordI) Tryd.underlying151 Tryd.underlying3 (by kernel_rfl) hd4
  have u5 := ints_of_trodK (nums := magicL) Tryd.underlying46 Tryd.underlying5 (by kernel_rfl) hd5
  refine ⟨⟨fun j hj => ?_, fun j hj => ?_⟩, fun j hj => ?_, fun j hj => ?_, fun j hj => ?_, fun j hj => ?_⟩
  · have := u0 j hj
    simp only [Array.getElem?_toList] at this
    rw [World.var?_cell hg0 hv0, World.var?_cell hg0 hv0]
    exact this
  · have := u1 j hj
    simp only [Array.getElem?_toList] at this
    rw [World.var?_cell hg1 hv1, World.var?_cell hg1 hv1]
    exact this
  · have := u4 j hj
    simp only [Array.getElem?_toList] at this
    rw [World.var?_cell hg4 hv4, this, rd_ordI j hj]
  · have := u2 j hj
    simp only [Array.getElem?_toList] at this
    rw [World.var?_cell hg2 hv2, this, key_wv j hj]
  · have := u3 j hj
    simp only [Array.getElem?_toList] at this
    rw [World.var?_cell hg3 hv3, this, first_wv j hj]
  · have := u5 j hj
    simp only [Array.getElem?_toList] at this
    rw [World.var?_cell hg5 hv5, this]
end Go.Proofs.YtendohnkhbgfbaaDoor
/-
  Slices of slices of bytes, as rows hold them.
-/
namespace Go.Proofs.YtendohnkhbgfbaaDoor
open Go.RowKit

/-- Slices of bytes behind each other. -/
def Slices (w : World) (A : Option Addr) (n : Nat) (L : List (List Int)) : Prop :=
  L.length = n ∧ (0 < n → ∃ b o, A = some ⟨b, o, none⟩ ∧ ∀ j, j < n → ∃ A' n' c', w.cell? ⟨b, o + j, none⟩ = some (.slice A' n' c') ∧ Rd w .u8 A' n' (L.getD j []) ∧ (A' = none → n' = 0 ∧ c' = 0) ∧ n' ≤ c' ∧ n' ≤ maxLen ∧ ∀ x ∈ L.getD j [], 0 ≤ x ∧ x ≤ 255)
theorem lists_choice {P : Nat → List Int → Prop} (n : Nat) (h : ∀ j, j < n → ∃ x, P j x) : ∃ l : List (List Int), l.length = n ∧ ∀ j, j < n → P j (l.getD j []) := by
  have h' : ∀ j, ∃ x, j < n → P j x := fun j => by
    by_cases hj : j < n
    · obtain ⟨x, hx⟩ := h j hj; exact ⟨x, fun _ => hx⟩
    · exact ⟨[], fun hh => absurd hh hj⟩
  have ⟨f, hf⟩ := Classical.axiomOfChoice h'
  refine ⟨(List.range n).map f, by simp, fun j hj => ?_⟩
  have : ((List.range n).map f).getD j [] = f j := by simp [List.getD_eq_getElem?_getD, List.getElem?_range hj]
  rw [this]
  exact hf j hj
theorem slices_of_trod {H : Type} {enc : TypeId × Value → H} {P : Program} {w : World} {base : Nat} {sp : Nat → Bool} {held : Bool} {t e u : TypeId} {v : Value} {d : DataW H} {p : List MemPlace}
    (ht : P.underlying t = some (.slice e)) (he : P.underlying e = some (.slice u)) (hu : P.underlying u = some (.int .u8)) (ce : P.cellsOf e = 1) (cu : P.cellsOf u = 1) (hv : ∃ A n c, v = .slice A n c)
    (h : DataW.Trod enc P w base sp held t v d p) :
    ∃ A n c L, v = .slice A n c ∧ n ≤ maxLen ∧ Slices w A n L := by
  obtain ⟨fuel, hf⟩ := h
  obtain ⟨A, n, c, rfl⟩ := hv
  rcases DataW.trod_slice ht hf with ⟨hcs, _⟩ | ⟨a, len, cap, elems, rest, m, _, hcs, _, hb, hl, hm, hlen, hel, _, _⟩
  · simp [Value.cells] at hcs
    obtain ⟨rfl, rfl, rfl⟩ := hcs
    exact ⟨none, 0, 0, [], rfl, by simp [maxLen], ⟨rfl, fun hh => by omega⟩⟩
  · simp [Value.cells] at hcs
    obtain ⟨rfl, rfl, rfl⟩ := hcs
    have each : ∀ j, j < n → ∃ l : List Int, ∃ A' n' c', w.cell? (a.add j) = some (.slice A' n' c') ∧ Rd w .u8 A' n' l ∧ (A' = none → n' = 0 ∧ c' = 0) ∧ n' ≤ c' ∧ n' ≤ maxLen ∧ ∀ x ∈ l, 0 ≤ x ∧ x ≤ 255 := by
      intro j hj
      have hz := hel j hj
      rw [ce, Nat.mul_one, List.getElem?_eq_getElem (show j < elems.length by omega)] at hz
      obtain ⟨cs, hcs, hz⟩ := Option.bind_eq_some_iff.1 hz
      obtain ⟨_, hcl, hcc⟩ := World.cells?_some hcs
      rcases Go.ChangeShapes.open_ints he hu cu hz with ⟨rfl, _⟩ | ⟨x, l, c', zs, rfl, _, hl', hm', hzl, _, hcell, hwf⟩
      · have := hcc 0 (by simp)
        exact ⟨[], none, 0, 0, by simpa [Addr.add] using this, ⟨rfl, fun hh => by omega⟩, fun _ => ⟨rfl, rfl⟩, Nat.le_refl _, by simp, fun x hx => by cases hx⟩
      · have h0 := hcc 0 (by simp)
        have hzl' : l ≤ zs.length := by rw [hzl]; split <;> omega
        refine ⟨zs.take l, some x, l, c', by simpa [Addr.add] using h0, ⟨by rw [List.length_take]; omega, fun hn => ?_⟩, (fun e => by cases e), hl', by omega, fun y hy => ?_⟩
        · obtain ⟨b, o, s⟩ := x
          have hs : s = none := by simpa [Addr.add] using World.cell?_spot (hcell 0 (by omega))
          subst hs
          refine ⟨b, o, rfl, fun i hi => ?_⟩
          have := hcell i (by omega)
          rw [addr_add] at this
          rw [this, take_rd hi]
          rfl
        · exact u8_of_wf (hwf y (List.mem_of_mem_take hy))
    obtain ⟨L, hL, hLs⟩ := lists_choice n each
    refine ⟨_, n, c, L, rfl, by omega, hL, fun hn => ?_⟩
    obtain ⟨b, o, s⟩ := a
    have hs : s = none := by
      obtain ⟨A', n', c', h1, _⟩ := hLs 0 hn
      simpa [Addr.add] using World.cell?_spot h1
    subst hs
    refine ⟨b, o, rfl, fun j hj => ?_⟩
    have := hLs j hj
    rw [addr_add] at this
    exact this
theorem takeL_next {L : List (List Int)} {j : Nat} (h : j < L.length) : L.take (j + 1) = L.take j ++ [L.getD j []] := by
  rw [List.take_succ_eq_append_getElem h, List.getD_eq_getElem?_getD, List.getElem?_eq_getElem h]
  rfl
theorem strOfNums_app (a b : List Int) : strOfNums (a ++ b) = strOfNums a ++ strOfNums b := by
  apply ByteArray.ext
  simp [strOfNums]
end Go.Proofs.YtendohnkhbgfbaaDoor
/-
  What is packed opens as it was; the walk of chapter 22's awake.
-/
namespace Go.Proofs.YtendohnkhbgfbaaDoor
open Go.RowKit

theorem body_pack {bs : List Int} (hb : ∀ x ∈ bs, 0 ≤ x ∧ x ≤ 255) (hl : bs.length ≤ 65535) : bodyK (packK bs).1 (packK bs).2 = some bs := by
  by_cases h : 256 ≤ bs.length ∧ (pressB bs).length < bs.length
  · rw [packK_pos h.1 h.2]
    obtain ⟨q, h1, h2⟩ := openS_one (Z := []) (most := 1048576) (opens_press (rd_bytes hb) hl) (by omega)
    rw [List.append_nil] at h1
    unfold bodyK
    rw [if_pos rfl, h1]
    show (if (q + 7) / 8 = (pressB bs).length then some bs else none) = some bs
    rw [if_pos h2]
  · rw [packK_neg h]
    rfl
theorem open_pack {bs : List Int} (hb : ∀ x ∈ bs, 0 ≤ x ∧ x ≤ 255) (hl : bs.length ≤ 65535) : openK (packK bs).1 (packK bs).2 = some bs := openK_pos (body_pack hb hl) rfl
theorem isRow_byte {w : World} {a : Option Addr} {len cap : Nat} {zs : List Int} (h : IsRow .u8 w a len cap zs) : ∀ x ∈ zs.take len, 0 ≤ x ∧ x ≤ 255 := all_of_rd (fun j hj => h.u8 j (by rw [← h.rd.1]; exact hj))
theorem chunkB_byte {k : Int} {c : List Int} (hk : 0 ≤ k ∧ k ≤ 255) (hc : ∀ x ∈ c, 0 ≤ x ∧ x ≤ 255) : ∀ x ∈ chunkB k c, 0 ≤ x ∧ x ≤ 255 := by
  intro x hx
  unfold chunkB tailB at hx
  rcases List.mem_append.1 hx with h | h
  · simp only [magicL, List.mem_cons, List.not_mem_nil, or_false] at h
    omega
  · rcases List.mem_append.1 h with h | h
    · exact sumB_byte _ _ x h
    · rcases List.mem_cons.1 h with h | h
      · subst h; exact hk
      · rcases List.mem_append.1 h with h | h
        · exact lebU_byte _ x h
        · exact hc x h
theorem packK_nil : packK [] = (1, []) := packK_neg (by simp)
set_option maxHeartbeats 1000000 in
set_option maxRecDepth 100000 in
theorem awake22_calls (w : World) (hT : Tabs22 w) : Calls Tryd.prog 8 #[] w fun e w' => e = .returned (.bool true) ∧ Below w.heap.size w w' := by
  have HT := Lib.hid hT
  clear hT
  go_enter Tryd.func8, Tryd.ntmps8
  go_wp2_with fail
  refine (ChPack_calls none 0 0 [] w ⟨rfl, fun h => by omega⟩ (fun x hx => by cases hx) (fun _ => ⟨rfl, rfl⟩) (by omega) (by omega) HT.out.tabs HT.out.ord).mono ?_
  rintro e w1 ⟨A1, n1, c1, rfl, HO1, hb1⟩
  rw [packK_nil] at HO1 ⊢
  have h0 : n1 = 0 := by have := HO1.out.1; simpa [ints] using this.symm
  subst h0
  have HB1 := Lib.hid hb1
  clear hb1 HO1
  go_wp2
  go_ret
  exact ⟨rfl, HB1.out.alloc HB1.out.size _⟩
end Go.Proofs.YtendohnkhbgfbaaDoor
/-
  The walk of the law ChunkMany.
-/
namespace Go.Proofs.YtendohnkhbgfbaaDoor
open Go.RowKit

/-- What the law adds up. -/
def fewC (L : List (List Int)) (len j : Nat) : Nat := len + ((L.take j).map fun l => min l.length 901).sum
theorem fewC_zero (L : List (List Int)) (len : Nat) : fewC L len 0 = len := by simp [fewC]
theorem fewC_succ {L : List (List Int)} {len j : Nat} (h : j < L.length) : fewC L len (j + 1) = fewC L len j + min (L.getD j []).length 901 := by
  unfold fewC
  rw [takeL_next h, List.map_append, List.sum_append]
  simp
  omega
theorem fewC_all : ∀ {L : List (List Int)} {n : Nat}, n + (L.map fun l => min l.length 901).sum ≤ 900 → ∀ l ∈ L, l.length ≤ 900 := by
  intro L
  induction L with
  | nil => intro n _ l hl; cases hl
  | cons a L ih =>
    intro n h l hl
    rw [List.map_cons, List.sum_cons] at h
    rcases List.mem_cons.1 hl with rfl | hl
    · omega
    · exact ih (n := n + min a.length 901) (by omega) l hl
theorem elChunk : ElT Tryd.prog 44 26 (.agg #[.int .i64 0, .slice none 0 0]) 2 32 := ⟨Tryd.underlying44, by kernel_rfl, rfl, by decide, by decide⟩
/-- A row of chunks, each content a row of its own. -/
structure ChRow (B : Nat) (W : World) (v : Value) (k : Nat) (vs : List Value) (Lk : List (Int × List Int)) : Prop where
  own : W.ownsRow B 26 2 v k vs
  len : Lk.length = k
  at' : ∀ i, i < k → ∃ A n c, vs[i * 2]? = some (.int .i64 (Lk.getD i (0, [])).1) ∧ vs[i * 2 + 1]? = some (.slice A n c) ∧ W.ownsRow 0 5 1 (.slice A n c) n (ints .u8 (Lk.getD i (0, [])).2)
theorem ChRow.below {B : Nat} {W W' : World} {v : Value} {k : Nat} {vs : List Value} {Lk : List (Int × List Int)} (h : ChRow B W v k vs Lk) (hb : Below W.heap.size W W') : ChRow B W' v k vs Lk :=
  ⟨own_below h.own hb, h.len, fun i hi => by
    obtain ⟨A, n, c, h1, h2, h3⟩ := h.at' i hi
    exact ⟨A, n, c, h1, h2, own_below h3 hb⟩⟩
theorem ChRow.next {B : Nat} {W W' : World} {v v' : Value} {k n c : Nat} {vs : List Value} {Lk : List (Int × List Int)} {K : Int} {A : Option Addr} {l : List Int} (h : ChRow B W v k vs Lk) (hr : W.ownsRow 0 5 1 (.slice A n c) n (ints .u8 l))
    (ho : W'.ownsRow B 26 2 v' (k + 1) (vs ++ #[Value.int .i64 K, .slice A n c].toList)) (hf : Fr W W' [v.ownBlock]) : ChRow B W' v' (k + 1) (vs ++ #[Value.int .i64 K, .slice A n c].toList) (Lk ++ [(K, l)]) := by
  have hl := h.own.1
  have keep : ∀ {A2 : Option Addr} {n2 c2 : Nat} {l2 : List Int}, W.ownsRow 0 5 1 (.slice A2 n2 c2) n2 (ints .u8 l2) → W'.ownsRow 0 5 1 (.slice A2 n2 c2) n2 (ints .u8 l2) := fun h2 => own_fr h2 hf (fun o ho => by simp at ho; subst ho; exact own_apart2 (by decide) h2 h.own)
  refine ⟨ho, by rw [List.length_append, h.len]; rfl, fun i hi => ?_⟩
  rcases Nat.lt_or_ge i k with hik | hik
  · obtain ⟨A2, n2, c2, h1, h2, h3⟩ := h.at' i hik
    refine ⟨A2, n2, c2, ?_, ?_, ?_⟩
    · rw [List.getElem?_append_left (by omega), h1, List.getD_eq_getElem?_getD, List.getD_eq_getElem?_getD, List.getElem?_append_left (by rw [h.len]; exact hik)]
    · rw [List.getElem?_append_left (by omega), h2]
    · rw [List.getD_eq_getElem?_getD, List.getElem?_append_left (by rw [h.len]; exact hik), ← List.getD_eq_getElem?_getD]
      exact keep h3
  · obtain rfl : i = k := by omega
    have e : (Lk ++ [(K, l)]).getD i (0, []) = (K, l) := by rw [List.getD_eq_getElem?_getD, List.getElem?_append_right (by rw [h.len]; exact Nat.le_refl _), h.len]; simp
    rw [e]
    refine ⟨A, n, c, ?_, ?_, keep hr⟩
    · rw [List.getElem?_append_right (by omega), hl, Nat.sub_self]; rfl
    · rw [List.getElem?_append_right (by omega), hl, show i * 2 + 1 - i * 2 = 1 by omega]; rfl
theorem ChRow.chunks {B : Nat} {W : World} {A : Option Addr} {k c : Nat} {vs : List Value} {Lk : List (Int × List Int)} (h : ChRow B W (.slice A k c) k vs Lk) : ChunksAt W A k Lk := by
  refine ⟨h.len, fun hk => ?_⟩
  obtain ⟨A2, c2, e, _, hr, _⟩ := own_rdV h.own
  cases e
  obtain ⟨b, o, rfl, hc⟩ := hr.2 hk
  refine ⟨b, o, rfl, fun j hj => ?_⟩
  obtain ⟨A3, n3, c3, h1, h2, h3⟩ := h.at' j hj
  obtain ⟨_, _, e, hcc, hr3⟩ := own_rd h3
  cases e
  exact ⟨A3, n3, c3, hc _ _ h1, by rw [Nat.add_assoc]; exact hc _ _ h2, hr3, own_none h3, hcc⟩
/-- The bytes of the chunks from a place on. -/
def restB (L : List (List Int)) (i : Nat) : List Int := (L.drop i).flatMap fun l => putK (packK l)
theorem restB_next {L : List (List Int)} {i : Nat} (h : i < L.length) : restB L i = chunkB (packK (L.getD i [])).1 (packK (L.getD i [])).2 ++ restB L (i + 1) := by
  unfold restB
  rw [List.drop_eq_getElem_cons h, List.flatMap_cons, List.getD_eq_getElem?_getD, List.getElem?_eq_getElem h]
  rfl
theorem restB_all (L : List (List Int)) : putsB (L.map packK) (L.map packK).length = restB L 0 := by
  unfold putsB restB
  rw [List.take_length, List.drop_zero, List.flatMap_map]
theorem restB_end (L : List (List Int)) : restB L L.length = [] := by unfold restB; rw [List.drop_length]; rfl
theorem restB_len {L : List (List Int)} (h : ∀ l ∈ L, l.length ≤ 900) (i : Nat) : (restB L i).length ≤ 919 * (L.length - i) := by
  unfold restB
  rw [← List.length_drop]
  have h2 : ∀ l ∈ L.drop i, l.length ≤ 900 := fun l hl => h l (List.mem_of_mem_drop hl)
  revert h2
  generalize L.drop i = M
  intro h2
  induction M with
  | nil => simp
  | cons a M ih =>
    rw [List.flatMap_cons, List.length_append, List.length_cons]
    have h3 := ih (fun l hl => h2 l (List.mem_cons_of_mem _ hl))
    have h4 := packK_le a
    have h5 := h2 a List.mem_cons_self
    have h6 := lebU_10 (n := (packK a).2.length) (by omega)
    have h7 : (putK (packK a)).length = 9 + (lebU (packK a).2.length).length + (packK a).2.length := chunkB_length _ _
    omega
theorem restB_byte {L : List (List Int)} (h : ∀ l ∈ L, ∀ x ∈ l, 0 ≤ x ∧ x ≤ 255) (i : Nat) : ∀ x ∈ restB L i, 0 ≤ x ∧ x ≤ 255 := by
  intro x hx
  obtain ⟨l, hl, hx⟩ := List.mem_flatMap.1 hx
  exact chunkB_byte (by rcases packK_kind l with e | e <;> omega) (packK_byte (h l (List.mem_of_mem_drop hl))) x hx
set_option maxHeartbeats 1000000 in
set_option maxRecDepth 100000 in
theorem ChunkMany_calls (B : Option Addr) (nl cl : Nat) (L : List (List Int)) (w : World) (hL2 : Slices w B nl L) (hnl : nl ≤ maxLen) (hL : Tabs22 w) :
    Calls Tryd.prog 7 #[.slice B nl cl] w fun e w' => e = .returned (.bool true) ∧ Below w.heap.size w w' := by
  unfold maxLen at hnl
  have HT := Lib.hid hL
  have HLl := Lib.hid hL2.1
  have HL2 := Lib.hid hL2.2
  clear hL hL2
  go_enter Tryd.func7, Tryd.ntmps7
  go_wp2_with fail
  go_loopw [3, 4] (fun v i wr => ∃ j s : Nat, j ≤ nl ∧ i = .int .i64 j ∧ v = .int .i64 s ∧ Hid (s = fewC L nl j) ∧ s ≤ 9223372036854775807 ∧ wr = w) (fun _ i _ => nl - (intOf i).toNat)
  case atStart => exact ⟨0, nl, by omega, rfl, rfl, Lib.hid (fewC_zero L nl).symm, by omega, rfl⟩
  case round =>
    obtain ⟨j, s, hj, rfl, rfl, Hs, hs9, rfl⟩ := hrel
    obtain ⟨W0, hW0⟩ : ∃ W, W = wr := ⟨_, rfl⟩
    subst hW0
    by_cases hs : s ≤ 900
    · by_cases hlt : j < nl
      · obtain ⟨b, o, hBa, hc⟩ := HL2.out (by omega)
        subst hBa
        obtain ⟨A', n', c', hc1, hr1, hN1, hcc1, hm1, hx1⟩ := hc j hlt
        unfold maxLen at hm1
        have Hr1 := Lib.hid hr1.1
        clear hc hr1 hx1 hN1
        go_wp2
        go_roundw
        case rel =>
          refine ⟨j + 1, s + min n' 901, by omega, by go_num, ?_, ?_, by omega, trivial⟩
          · have : ((s : Int) + if (901 : Int) < n' then 901 else (n' : Int)) = ((s + min n' 901 : Nat) : Int) := by split <;> omega
            rw [this]
          · have h9 := fewC_succ (len := nl) (show j < L.length by rw [HLl.out]; exact hlt)
            rw [Hr1.out, ← Hs.out] at h9
            exact h9.symm
        case measure => simp [intOf]; omega
      · obtain rfl : j = nl := by omega
        have hL9 : ∀ l ∈ L, l.length ≤ 900 := fewC_all (n := j) (by have h1 := Hs.out; unfold fewC at h1; rw [List.take_of_length_le (by rw [HLl.out]; exact Nat.le_refl _)] at h1; omega)
        have hnl9 : j ≤ 900 := by have h1 := Hs.out; unfold fewC at h1; omega
        have HL9 := Lib.hid hL9
        have HLx : Hid (∀ l ∈ L, ∀ x ∈ l, 0 ≤ x ∧ x ≤ 255) := by
          refine Lib.hid (fun l hl => ?_)
          obtain ⟨i, hi, rfl⟩ := List.getElem_of_mem hl
          have hi' : i < j := by rw [← HLl.out]; exact hi
          obtain ⟨_, _, _, hcc⟩ := HL2.out (by omega)
          obtain ⟨_, _, _, _, _, _, _, _, hxx⟩ := hcc i hi'
          rw [List.getD_eq_getElem?_getD, List.getElem?_eq_getElem hi] at hxx
          exact hxx
        clear hL9 hj hlt
        go_wp2_with fail
        refine (awake22_calls _ HT.out).mono ?_
        rintro e w1 ⟨rfl, hb1⟩
        have HB1 := Lib.hid hb1
        clear hb1
        go_wp2_with fail
        go_loopw [5, 6] (fun va i w2 => ∃ (k : Nat) (vs : List Value), k ≤ j ∧ i = .int .i64 k ∧ Hid (ChRow w1.heap.size w2 va k vs ((L.take k).map packK)) ∧ Hid (Below w1.heap.size w1 w2)) (fun _ i _ => j - (intOf i).toNat)
        case atStart => exact ⟨0, [], by omega, rfl, Lib.hid ⟨World.ownsRow_nil _ _ _ _, by simp, fun i hi => by omega⟩, Lib.hid (Below.refl _ _)⟩
        case round =>
          obtain ⟨k, vs, hk, rfl, HO, HB2⟩ := hrel
          obtain ⟨w2, hw2⟩ : ∃ W, W = wr := ⟨_, rfl⟩
          subst hw2
          have HB20 := Lib.hid (below_seq HB1.out (Nat.le_refl _) HB2.out)
          obtain ⟨Ac, cc, hvc⟩ := own_slice HO.out.own
          subst hvc
          by_cases hlt : k < j
          · obtain ⟨b, o, hBa, hc⟩ := HL2.out (by omega)
            subst hBa
            obtain ⟨A', n', c', hc1, hr1, hN1, hcc1, hm1, hx1⟩ := hc k hlt
            obtain ⟨X, hX⟩ : ∃ X, X = L.getD k [] := ⟨_, rfl⟩
            rw [← hX] at hr1 hx1
            have hkl : k < L.length := by rw [HLl.out]; exact hlt
            have hX9 : X.length ≤ 900 := HL9.out X (by rw [hX, List.getD_eq_getElem?_getD, List.getElem?_eq_getElem hkl]; exact List.getElem_mem hkl)
            have hn9 : n' ≤ 900 := by rw [← hr1.1]; exact hX9
            have htk : (L.take (k + 1)).map packK = (L.take k).map packK ++ [((packK X).1, (packK X).2)] := by rw [takeL_next hkl, List.map_append, hX]; rfl
            have Htk := Lib.hid htk
            have Hr1 := Lib.hid hr1
            have HN1 := Lib.hid hN1
            have Hx1 := Lib.hid hx1
            have hc2 := kept_cell HB20.out hc1
            clear hc hX hr1 hN1 hx1 hX9 hm1 hc1 htk hkl
            go_wp2_with fail
            refine (ChPack_calls A' n' c' X w2 (Hr1.out.below HB20.out) Hx1.out HN1.out hcc1 (by omega) (HT.out.below HB20.out).tabs (HT.out.below HB20.out).ord).mono ?_
            rintro e w3 ⟨A3, n3, c3, rfl, HO3, hb3⟩
            have H3 := Lib.hid (HO.out.below hb3)
            have HB3 := Lib.hid (below_seq HB2.out (Nat.le_refl _) hb3)
            have hs3 : w1.heap.size ≤ w3.heap.size := HB3.out.size
            obtain ⟨K, hK⟩ : ∃ K, K = (packK X).1 := ⟨_, rfl⟩
            rw [← hK]
            have HK := Lib.hid hK
            clear hb3 hK
            go_wp2_with (at_builtin; refine wpList_app3 rfl _ _ rfl elChunk H3.out.own rfl rfl rfl rfl rfl (by omega) hs3 ?_; intro g5 c5 w5 ho5 hf5 _ _; have H5 := Lib.hid (H3.out.next (own_mono HO3.out (Nat.zero_le _)) ho5 hf5); have HB5 := Lib.hid (HB3.out.trans (hf5.below hs3 (fun o ho i e => by simp at ho; subst ho; exact (H3.out.own.lt i e).1))); clear ho5 hf5)
            go_roundw
            case rel =>
              exact ⟨k + 1, vs ++ #[Value.int .i64 K, .slice A3 n3 c3].toList, by omega, by go_num, by rw [Htk.out, ← HK.out]; exact H5, HB5⟩
            case measure => simp [intOf]; omega
          · obtain rfl : k = j := by omega
            have hLk : L.take k = L := List.take_of_length_le (by rw [HLl.out]; exact Nat.le_refl _)
            rw [hLk] at HO
            have hrl := restB_len HL9.out 0
            rw [HLl.out] at hrl
            have hput := restB_all L
            have hmem : ∀ x ∈ L.map packK, (0 ≤ x.1 ∧ x.1 ≤ 255) ∧ x.2.length ≤ 100000000 ∧ ∀ y ∈ x.2, 0 ≤ y ∧ y ≤ 255 := by
              intro x hx
              obtain ⟨l, hl, rfl⟩ := List.mem_map.1 hx
              refine ⟨by rcases packK_kind l with e | e <;> omega, ?_, packK_byte (HLx.out l hl)⟩
              have h1 := packK_le l
              have h2 := HL9.out l hl
              omega
            have Hput := Lib.hid hput
            have Hmem := Lib.hid hmem
            have Hlen : Hid ((putsB (L.map packK) (L.map packK).length).length ≤ 1000000000) := Lib.hid (by rw [hput]; omega)
            clear hLk hput hmem
            go_wp2_with fail
            refine (ChPut_calls Ac k cc (L.map packK) w2 HO.out.chunks Hmem.out Hlen.out (by omega) (HT.out.below HB20.out).keys (HT.out.below HB20.out).beg (HT.out.below HB20.out).mag).mono ?_
            rintro e w3 ⟨v3, rfl, HO3, hb3⟩
            rw [Hput.out] at HO3
            obtain ⟨m3, hm3⟩ : ∃ m, m = (restB L 0).length := ⟨_, rfl⟩
            rw [← hm3] at HO3 hrl
            obtain ⟨A3, c3, e3, hc3, hr3⟩ := own_rd HO3.out
            subst e3
            have Hr3 := Lib.hid hr3
            have Hn3 := Lib.hid (own_none HO3.out)
            have HB3 := Lib.hid (below_seq HB20.out (Nat.le_refl _) hb3)
            clear hr3 hb3 HO3 hm3
            go_wp2_with fail
            go_loopw [7, 8] (fun vb i w4 => ∃ (q m : Nat) (Ab : Option Addr) (cb : Nat), q ≤ k ∧ i = .int .i64 q ∧ vb = .slice Ab m cb ∧ m ≤ cb ∧ m ≤ 1000000 ∧ Hid (Ab = none → m = 0 ∧ cb = 0) ∧ Hid (Rd w4 .u8 Ab m (restB L q)) ∧ Hid (Below w3.heap.size w3 w4)) (fun _ i _ => k - (intOf i).toNat)
            case atStart => exact ⟨0, m3, A3, c3, by omega, rfl, rfl, hc3, by omega, Hn3, Hr3, Lib.hid (Below.refl _ _)⟩
            case round =>
              obtain ⟨q, m, Ab, cb, hq, rfl, rfl, hmc, hm9, HNb, HRb, HB4⟩ := hrel
              obtain ⟨w4, hw4⟩ : ∃ W, W = wr := ⟨_, rfl⟩
              subst hw4
              have HB40 := Lib.hid (below_seq HB3.out (Nat.le_refl _) HB4.out)
              by_cases hlt : q < k
              · obtain ⟨b, o, hBa, hc⟩ := HL2.out (by omega)
                subst hBa
                obtain ⟨A', n', c', hc1, hr1, hN1, hcc1, hm1, hx1⟩ := hc q hlt
                obtain ⟨X, hX⟩ : ∃ X, X = L.getD q [] := ⟨_, rfl⟩
                have hql : q < L.length := by rw [HLl.out]; exact hlt
                have hnx := restB_next hql
                rw [← hX] at hr1 hx1 hnx
                have hX9 : X.length ≤ 900 := HL9.out X (by rw [hX, List.getD_eq_getElem?_getD, List.getElem?_eq_getElem hql]; exact List.getElem_mem hql)
                have hn9 : n' ≤ 900 := by rw [← hr1.1]; exact hX9
                have hopn := open_pack (bs := X) hx1 (by omega)
                have hbod := body_pack (bs := X) hx1 (by omega)
                have hKd := packK_kind X
                have hple := packK_le X
                have hCb := packK_byte (bs := X) hx1
                obtain ⟨K, hK⟩ : ∃ K, K = (packK X).1 := ⟨_, rfl⟩
                obtain ⟨CC, hCC⟩ : ∃ CC, CC = (packK X).2 := ⟨_, rfl⟩
                rw [← hK, ← hCC] at hopn hbod hnx
                rw [← hK] at hKd
                rw [← hCC] at hple hCb
                obtain ⟨ck, hck⟩ : ∃ ck, ck = (chunkB K CC).length := ⟨_, rfl⟩
                have hckl := chunkB_length K CC
                rw [← hck] at hckl
                have hmck : m = ck + (restB L (q + 1)).length := by rw [← HRb.out.1, hnx, List.length_append, ← hck]
                have hcc9 : CC.length ≤ 900 := by omega
                have Hck := Lib.hid hck
                have Hnx := Lib.hid hnx
                have Hopn := Lib.hid hopn
                have Hbod := Lib.hid hbod
                have HKd := Lib.hid hKd
                have HCb := Lib.hid hCb
                have Hr1 := Lib.hid hr1
                have Hx1 := Lib.hid hx1
                have Hc1 := Lib.hid hc1
                have Hccl := Lib.hid hcc9
                have Hmck := Lib.hid hmck
                have hck9 : 9 ≤ ck ∧ ck ≤ m := by omega
                clear hc hX hr1 hN1 hx1 hX9 hm1 hc1 hnx hopn hbod hKd hCb hK hCC hck hckl hple hql hcc9 hmck
                go_wp2_with fail
                refine (ChNext_calls Ab m cb (restB L q) w4 HRb.out HNb.out hmc (restB_byte HLx.out q) hm9 (HT.out.below HB40.out).keys (HT.out.below HB40.out).beg (HT.out.below HB40.out).mag).mono ?_
                rintro e w5 ⟨K', A5, n5, c5, C', M, E, rfl, HNx, HO5, hb5⟩
                obtain ⟨rfl, rfl, rfl, rfl⟩ := HNx.out.same (by rw [Hnx.out]; exact next_put _ HKd.out (by have := Hccl.out; omega))
                rw [← Hck.out]
                obtain ⟨_, _, ea, hc5, hr5⟩ := own_rd HO5.out
                cases ea
                have hnn5 := own_none HO5.out
                have hn5 : n5 ≤ 900 := by have h1 := hr5.1; have h2 := Hccl.out; omega
                have HB5 := Lib.hid (below_seq HB4.out (Nat.le_refl _) hb5)
                have HY5 := Lib.hid hb5
                have Hr5 := Lib.hid hr5
                have Hnn5 := Lib.hid hnn5
                clear HNx HO5 hb5 hr5 hnn5
                go_upto_region 18 with fail
                obtain ⟨g9, hg9⟩ : ∃ g9, g9 = w5.heap.size := ⟨_, rfl⟩
                obtain ⟨w6, hw6⟩ : ∃ X, X = w5.alloc (.cells #[.int .i64 K', .slice A5 n5 c5] 26) := ⟨_, rfl⟩
                rw [← hw6, ← hg9]
                have hb6 : Below w5.heap.size w5 w6 := by rw [hw6]; exact (Below.refl _ _).alloc (Nat.le_refl _) _
                have hrow9 : w6.heap[g9]? = some (.cells #[.int .i64 K', .slice A5 n5 c5] 26 (0, 0)) := by rw [hw6, hg9]; exact heap_alloc_new w5 _
                have k0 := two_c0 hrow9
                have k1 := two_c1 hrow9
                have HB6 := Lib.hid (below_seq HB5.out (Nat.le_refl _) hb6)
                have HY6 := Lib.hid (below_seq HY5.out (Nat.le_refl _) hb6)
                have Hr6 := Lib.hid (Hr5.out.below hb6)
                have HB60 := Lib.hid (below_seq HB3.out (Nat.le_refl _) HB6.out)
                clear hw6 hg9 hb6 hrow9
                go_wp2_with fail
                refine (ChOpen_calls K' A5 n5 c5 C' w6 HKd.out Hr6.out Hnn5.out hc5 HCb.out (by omega) (fun b hb => by
                  rw [Hbod.out] at hb
                  cases hb
                  exact ⟨by rw [Hr1.out.1]; omega, Hx1.out⟩) (HT.out.below HB60.out).tabs (HT.out.below HB60.out).ord).mono ?_
                rintro e w7 ⟨Hx, hb7⟩
                rcases Hx.out with ⟨b7, v7, hop, rfl, ho7⟩ | ⟨hop, _⟩
                · rw [Hopn.out] at hop
                  cases hop
                  obtain ⟨A7, c7, rfl⟩ := own_slice ho7
                  obtain ⟨_, _, ea, hc7, hr7⟩ := own_rd ho7
                  cases ea
                  rw [Hr1.out.1] at hr7 ⊢
                  have HB7 := Lib.hid (below_seq HB6.out (Nat.le_refl _) hb7)
                  have HY7 := Lib.hid (below_seq HY6.out (Nat.le_refl _) hb7)
                  have HB70 := Lib.hid (below_seq HB3.out (Nat.le_refl _) HB7.out)
                  have z1 := kept_cell HB70.out Hc1.out
                  obtain ⟨sB, hsB⟩ : ∃ s, s = strOfNums X := ⟨_, rfl⟩
                  have cv1 : ∀ W : World, (∀ a : Addr, W.cell? a = w7.cell? a) → (convert 22 9 (.slice A7 n' c7)).run Tryd.prog W = .ok (.string sB) W := fun W hW => by
                    rw [hsB]
                    exact conv_all ⟨hr7.1, fun h0 => by obtain ⟨b', o', e', hcx⟩ := hr7.2 h0; exact ⟨b', o', e', fun j hj => (hW _).trans (hcx j hj)⟩⟩
                  have hrX := Hr1.out.below HB70.out
                  have cv2 : ∀ W : World, (∀ a : Addr, W.cell? a = w7.cell? a) → (convert 22 9 (.slice A' n' c')).run Tryd.prog W = .ok (.string sB) W := fun W hW => by
                    rw [hsB]
                    exact conv_all ⟨hrX.1, fun h0 => by obtain ⟨b', o', e', hcx⟩ := hrX.2 h0; exact ⟨b', o', e', fun j hj => (hW _).trans (hcx j hj)⟩⟩
                  have d1 := cv1 w7.drew (fun _ => rfl)
                  have d2 := cv2 w7.drew (fun _ => rfl)
                  have qB : (sB.toList == sB.toList) = true := by rw [tl_beq]; exact decide_eq_true rfl
                  have i1 : decide ((ck : Int) < 1) = false := by simp; omega
                  have i2 : decide ((m : Int) < (ck : Int)) = false := by simp; omega
                  have i3 : decide (m < ck) = false := decide_eq_false (by omega)
                  have i4 : ¬ m < ck := by omega
                  clear Hx hb7 ho7 hc7 hr7 k0 k1 hsB cv1 cv2 hrX
                  go_wp2_with fail
                  refine wp_region_noPanic ?_
                  refine wp_region_held_drew (S := fun W => W.cell? ⟨b, o + q, none⟩ = some (.slice A' n' c') ∧ (convert 22 9 (.slice A7 n' c7)).run Tryd.prog W = .ok (.string sB) W ∧ (convert 22 9 (.slice A' n' c')).run Tryd.prog W = .ok (.string sB) W) (by kernel_rfl) (⟨z1, d1, d2⟩) (fun hHeld => ?_)
                  refine' wpAnyH_take (i := 0) (oi := ⟨_, _, _, _, _, _⟩) (v := _) rfl (by kernel_rfl) (by kernel_rfl) (by kernel_rfl) (fun _ _ _ h => h) (Or.inl ⟨by rfl, ?hyr0⟩) (by assumption) ?restr0
                  case hyr0 => (intro w hSw; (try dsimp only at hSw); go_simp; try with_reducible rfl)
                  try simp only [Act.put, List.setIfInBounds_toArray, List.set_cons_zero, List.set_cons_succ]
                  refine' wpAnyH_take (i := 1) (oi := ⟨_, _, _, _, _, _⟩) (v := _) rfl (by kernel_rfl) (by kernel_rfl) (by kernel_rfl) (fun _ _ _ h => h) (Or.inl ⟨by rfl, ?hyr1⟩) (by assumption) ?restr1
                  case hyr1 => (intro w hSw; (try dsimp only at hSw); go_simp; try with_reducible rfl)
                  try simp only [Act.put, List.setIfInBounds_toArray, List.set_cons_zero, List.set_cons_succ]
                  refine' wpAnyH_take (i := 2) (oi := ⟨_, _, _, _, _, _⟩) (v := _) rfl (by kernel_rfl) (by kernel_rfl) (by kernel_rfl) (fun _ _ _ h => h) (Or.inl ⟨by rfl, ?hyr2⟩) (by assumption) ?restr2
                  case hyr2 => (intro w hSw; (try dsimp only at hSw); go_simp; try with_reducible rfl)
                  try simp only [Act.put, List.setIfInBounds_toArray, List.set_cons_zero, List.set_cons_succ]
                  refine' wpAnyH_take (i := 3) (oi := ⟨_, _, _, _, _, _⟩) (v := _) rfl (by kernel_rfl) (by kernel_rfl) (by kernel_rfl) (fun _ _ _ h => h) (Or.inl ⟨by rfl, ?hyr3⟩) (by assumption) ?restr3
                  case hyr3 => (intro w hSw; (try dsimp only at hSw); go_simp; try with_reducible rfl)
                  try simp only [Act.put, List.setIfInBounds_toArray, List.set_cons_zero, List.set_cons_succ]
                  refine' wpAnyH_take (i := 4) (oi := ⟨_, _, _, _, _, _⟩) (v := _) rfl (by kernel_rfl) (by kernel_rfl) (by kernel_rfl) (fun _ _ _ h => h) (Or.inl ⟨by rfl, ?hyr4⟩) (by assumption) ?restr4
                  case hyr4 => (intro w hSw; (try dsimp only at hSw); go_simp; try with_reducible rfl)
                  try simp only [Act.put, List.setIfInBounds_toArray, List.set_cons_zero, List.set_cons_succ]
                  refine' wpAnyH_take (i := 5) (oi := ⟨_, _, _, _, _, _⟩) (v := _) rfl (by kernel_rfl) (by kernel_rfl) (by kernel_rfl) (fun _ _ _ h => h) (Or.inl ⟨by rfl, ?hyr5⟩) (by assumption) ?restr5
                  case hyr5 => (intro w hSw; (try dsimp only at hSw); go_simp; try with_reducible rfl)
                  try simp only [Act.put, List.setIfInBounds_toArray, List.set_cons_zero, List.set_cons_succ]
                  refine' wpAnyH_take (i := 6) (oi := ⟨_, _, _, _, _, _⟩) (v := _) rfl (by kernel_rfl) (by kernel_rfl) (by kernel_rfl) (fun _ _ _ h => h) (Or.inl ⟨by rfl, ?hyr6⟩) (by assumption) ?restr6
                  case hyr6 => (intro w hSw; (try dsimp only at hSw); go_simp; try with_reducible rfl)
                  try simp only [Act.put, List.setIfInBounds_toArray, List.set_cons_zero, List.set_cons_succ]
                  refine' wpAnyH_take (i := 7) (oi := ⟨_, _, _, _, _, _⟩) (v := _) rfl (by kernel_rfl) (by kernel_rfl) (by kernel_rfl) (fun _ _ _ h => h) (Or.inl ⟨by rfl, ?hyr7⟩) (by assumption) ?restr7
                  case hyr7 => (intro w hSw; (try dsimp only at hSw); go_simp; try with_reducible rfl)
                  try simp only [Act.put, List.setIfInBounds_toArray, List.set_cons_zero, List.set_cons_succ]
                  refine' wpAnyH_take (i := 8) (oi := ⟨_, _, _, _, _, _⟩) (v := _) rfl (by kernel_rfl) (by kernel_rfl) (by kernel_rfl) (fun _ _ _ h => h) (Or.inl ⟨by rfl, ?hyr8⟩) (by assumption) ?restr8
                  case hyr8 => (intro w hSw; (try dsimp only at hSw); go_simp; try with_reducible rfl)
                  try simp only [Act.put, List.setIfInBounds_toArray, List.set_cons_zero, List.set_cons_succ]
                  refine' wpAnyH_take (i := 9) (oi := ⟨_, _, _, _, _, _⟩) (v := _) rfl (by kernel_rfl) (by kernel_rfl) (by kernel_rfl) (fun _ _ _ h => h) (Or.inl ⟨by rfl, ?hyr9⟩) (by assumption) ?restr9
                  case hyr9 => (intro w hSw; (try dsimp only at hSw); go_simp; try with_reducible rfl)
                  try simp only [Act.put, List.setIfInBounds_toArray, List.set_cons_zero, List.set_cons_succ]
                  refine' wpAnyH_take (i := 10) (oi := ⟨_, _, _, _, _, _⟩) (v := _) rfl (by kernel_rfl) (by kernel_rfl) (by kernel_rfl) (fun _ _ _ h => h) (Or.inl ⟨by rfl, ?hyr10⟩) (by assumption) ?restr10
                  case hyr10 => (intro w hSw; (try dsimp only at hSw); go_simp; try with_reducible rfl)
                  try simp only [Act.put, List.setIfInBounds_toArray, List.set_cons_zero, List.set_cons_succ]
                  refine' wpAnyH_take (i := 11) (oi := ⟨_, _, _, _, _, _⟩) (v := _) rfl (by kernel_rfl) (by kernel_rfl) (by kernel_rfl) (fun _ _ _ h => h) (Or.inl ⟨by rfl, ?hyr11⟩) (by assumption) ?restr11
                  case hyr11 => (intro w hSw; (try dsimp only at hSw); go_simp; try with_reducible rfl)
                  try simp only [Act.put, List.setIfInBounds_toArray, List.set_cons_zero, List.set_cons_succ]
                  refine' wpAnyH_take (i := 12) (oi := ⟨_, _, _, _, _, _⟩) (v := _) rfl (by kernel_rfl) (by kernel_rfl) (by kernel_rfl) (fun _ _ _ h => h) (Or.inl ⟨by rfl, ?hyr12⟩) (by assumption) ?restr12
                  case hyr12 => (intro w hSw; (try dsimp only at hSw); go_simp; try with_reducible rfl)
                  try simp only [Act.put, List.setIfInBounds_toArray, List.set_cons_zero, List.set_cons_succ]
                  refine' wpAnyH_take (i := 13) (oi := ⟨_, _, _, _, _, _⟩) (v := _) rfl (by kernel_rfl) (by kernel_rfl) (by kernel_rfl) (fun _ _ _ h => h) (Or.inl ⟨by rfl, ?hyr13⟩) (by assumption) ?restr13
                  case hyr13 => (intro w hSw; (try dsimp only at hSw); go_simp; try with_reducible rfl)
                  try simp only [Act.put, List.setIfInBounds_toArray, List.set_cons_zero, List.set_cons_succ]
                  refine' wpAnyH_take (i := 14) (oi := ⟨_, _, _, _, _, _⟩) (v := _) rfl (by kernel_rfl) (by kernel_rfl) (by kernel_rfl) (fun _ _ _ h => h) (Or.inl ⟨by rfl, ?hyr14⟩) (by assumption) ?restr14
                  case hyr14 => (intro w hSw; (try dsimp only at hSw); go_simp; try with_reducible rfl)
                  try simp only [Act.put, List.setIfInBounds_toArray, List.set_cons_zero, List.set_cons_succ]
                  refine' wpAnyH_take (i := 15) (oi := ⟨_, _, _, _, _, _⟩) (v := _) rfl (by kernel_rfl) (by kernel_rfl) (by kernel_rfl) (fun _ _ _ h => h) (Or.inl ⟨by rfl, ?hyr15⟩) (by assumption) ?restr15
                  case hyr15 => (intro w hSw; (try dsimp only at hSw); go_simp; try with_reducible rfl)
                  try simp only [Act.put, List.setIfInBounds_toArray, List.set_cons_zero, List.set_cons_succ]
                  refine' wpAnyH_take (i := 16) (oi := ⟨_, _, _, _, _, _⟩) (v := _) rfl (by kernel_rfl) (by kernel_rfl) (by kernel_rfl) (fun _ _ _ h => h) (Or.inl ⟨by rfl, ?hyr16⟩) (by assumption) ?restr16
                  case hyr16 => (intro w hSw; (try dsimp only at hSw); go_simp; try with_reducible rfl)
                  try simp only [Act.put, List.setIfInBounds_toArray, List.set_cons_zero, List.set_cons_succ]
                  refine' wpAnyH_take (i := 17) (oi := ⟨_, _, _, _, _, _⟩) (v := _) rfl (by kernel_rfl) (by kernel_rfl) (by kernel_rfl) (fun _ _ _ h => h) (Or.inl ⟨by rfl, ?hyr17⟩) (by assumption) ?restr17
                  case hyr17 => (intro w hSw; (try dsimp only at hSw); go_simp; try with_reducible rfl)
                  try simp only [Act.put, List.setIfInBounds_toArray, List.set_cons_zero, List.set_cons_succ]
                  refine' wpAnyH_take (i := 18) (oi := ⟨_, _, _, _, _, _⟩) (v := _) rfl (by kernel_rfl) (by kernel_rfl) (by kernel_rfl) (fun _ _ _ h => h) (Or.inl ⟨by rfl, ?hyr18⟩) (by assumption) ?restr18
                  case hyr18 => (intro w hSw; (try dsimp only at hSw); go_simp; try with_reducible rfl)
                  try simp only [Act.put, List.setIfInBounds_toArray, List.set_cons_zero, List.set_cons_succ]
                  refine' wpAnyH_take (i := 19) (oi := ⟨_, _, _, _, _, _⟩) (v := _) rfl (by kernel_rfl) (by kernel_rfl) (by kernel_rfl) (fun _ _ _ h => h) (Or.inl ⟨by rfl, ?hyr19⟩) (by assumption) ?restr19
                  case hyr19 => (intro w hSw; (try dsimp only at hSw); go_simp; try with_reducible rfl)
                  try simp only [Act.put, List.setIfInBounds_toArray, List.set_cons_zero, List.set_cons_succ]
                  refine' wpAnyH_take (i := 20) (oi := ⟨_, _, _, _, _, _⟩) (v := _) rfl (by kernel_rfl) (by kernel_rfl) (by kernel_rfl) (fun _ _ _ h => h) (Or.inl ⟨by rfl, ?hyr20⟩) (by assumption) ?restr20
                  case hyr20 => (intro w hSw; (try dsimp only at hSw); go_simp; try with_reducible rfl)
                  try simp only [Act.put, List.setIfInBounds_toArray, List.set_cons_zero, List.set_cons_succ]
                  refine' wpAnyH_take (i := 21) (oi := ⟨_, _, _, _, _, _⟩) (v := _) rfl (by kernel_rfl) (by kernel_rfl) (by kernel_rfl) (fun _ _ _ h => h) (Or.inl ⟨by rfl, ?hyr21⟩) (by assumption) ?restr21
                  case hyr21 => (intro w hSw; (try dsimp only at hSw); go_simp; try with_reducible rfl)
                  try simp only [Act.put, List.setIfInBounds_toArray, List.set_cons_zero, List.set_cons_succ]
                  refine' wpAnyH_take (i := 22) (oi := ⟨_, _, _, _, _, _⟩) (v := _) rfl (by kernel_rfl) (by kernel_rfl) (by kernel_rfl) (fun _ _ _ h => h) (Or.inl ⟨by rfl, ?hyr22⟩) (by assumption) ?restr22
                  case hyr22 => (intro w hSw; (try dsimp only at hSw); go_simp; try with_reducible rfl)
                  try simp only [Act.put, List.setIfInBounds_toArray, List.set_cons_zero, List.set_cons_succ]
                  refine' wpAnyH_take (i := 23) (oi := ⟨_, _, _, _, _, _⟩) (v := _) rfl (by kernel_rfl) (by kernel_rfl) (by kernel_rfl) (fun _ _ _ h => h) (Or.inl ⟨by rfl, ?hyr23⟩) (by assumption) ?restr23
                  case hyr23 => (intro w hSw; (try dsimp only at hSw); go_simp; try with_reducible rfl)
                  try simp only [Act.put, List.setIfInBounds_toArray, List.set_cons_zero, List.set_cons_succ]
                  refine' wpAnyH_take (i := 24) (oi := ⟨_, _, _, _, _, _⟩) (v := _) rfl (by kernel_rfl) (by kernel_rfl) (by kernel_rfl) (fun _ _ _ h => h) (Or.inl ⟨by rfl, ?hyr24⟩) (by assumption) ?restr24
                  case hyr24 => (intro w hSw; (try dsimp only at hSw); go_simp; try with_reducible rfl)
                  try simp only [Act.put, List.setIfInBounds_toArray, List.set_cons_zero, List.set_cons_succ]
                  refine' wpAnyH_take (i := 25) (oi := ⟨_, _, _, _, _, _⟩) (v := _) rfl (by kernel_rfl) (by kernel_rfl) (by kernel_rfl) (fun _ _ _ h => h) (Or.inl ⟨by rfl, ?hyr25⟩) (by assumption) ?restr25
                  case hyr25 => (intro w hSw; (try dsimp only at hSw); go_simp; try with_reducible rfl)
                  try simp only [Act.put, List.setIfInBounds_toArray, List.set_cons_zero, List.set_cons_succ]
                  refine wpAnyH_done (by kernel_rfl) ?_ _
                  refine NoPanic.normal ?_
                  go_wp2_with fail
                  go_roundw
                  case rel =>
                    have hnn : Ab ≠ none := fun e => by have := HNb.out e; omega
                    refine ⟨q + 1, m - ck, if cb = ck then Ab else Option.map (fun x => x.add ck) Ab, cb - ck, by omega, by go_num, rfl, by omega, by omega, Lib.hid (fun e => ?_), Lib.hid ?_, Lib.hid HB7.out.drew⟩
                    · exfalso
                      split at e
                      · exact hnn e
                      · exact hnn (by simpa using e)
                    · have hr := HRb.out.below HY7.out
                      have hd : (restB L q).drop ck = restB L (q + 1) := by rw [Hnx.out, Hck.out, List.drop_left]
                      by_cases hcb : cb = ck
                      · have hm0 : m - ck = 0 := by omega
                        have hl0 := Hmck.out
                        exact ⟨by omega, fun h => by omega⟩
                      · rw [if_neg hcb]
                        obtain ⟨b1, o1, e1, _⟩ := hr.2 (by omega)
                        rw [e1] at hr ⊢
                        have h9 := rd_drop_w hr (by omega) (k := ck) hck9.2
                        rw [hd] at h9
                        show Rd w7.drew .u8 (some ((⟨b1, o1, none⟩ : Addr).add ck)) (m - ck) (restB L (q + 1))
                        rw [addr_add]
                        exact rd_drew h9
                  case measure => simp [intOf]; omega
                · rw [Hopn.out] at hop
                  cases hop
              · obtain rfl : q = k := by omega
                have hm0 : m = 0 := by
                  have h1 := HRb.out.1
                  rw [show restB L q = [] by rw [← HLl.out]; exact restB_end L] at h1
                  exact h1.symm
                subst hm0
                go_wp2_with fail
                go_ret
                exact ⟨rfl, HB40.out⟩
    · have hs' : ¬ (s : Int) ≤ 900 := by omega
      by_cases hlt : j < nl
      · go_wp2_with fail
        refine (awake22_calls _ HT.out).mono ?_
        rintro e w2 ⟨rfl, hb2⟩
        have H2 := Lib.hid hb2
        clear hb2
        go_wp2_with fail
        refine (awake22_calls _ (HT.out.below H2.out)).mono ?_
        rintro e w3 ⟨rfl, hb3⟩
        have H3 := Lib.hid (below_seq H2.out (Nat.le_refl _) hb3)
        clear hb3
        go_wp2
        go_ret
        exact ⟨rfl, H3.out⟩
      · obtain rfl : j = nl := by omega
        go_wp2_with fail
        refine (awake22_calls _ HT.out).mono ?_
        rintro e w2 ⟨rfl, hb2⟩
        have H2 := Lib.hid hb2
        clear hb2
        go_wp2_with fail
        refine (awake22_calls _ (HT.out.below H2.out)).mono ?_
        rintro e w3 ⟨rfl, hb3⟩
        have H3 := Lib.hid (below_seq H2.out (Nat.le_refl _) hb3)
        clear hb3
        go_wp2
        go_ret
        exact ⟨rfl, H3.out⟩
theorem ChunkMany_walk (B : Option Addr) (nl cl : Nat) (L : List (List Int)) (w : World) (hs : Slices w B nl L) (hn : nl ≤ maxLen) (hL : Tabs22 w) :
    Calls Tryd.prog 7 #[.slice B nl cl] w fun e w' => e = .returned (.bool true) ∧ Below w.heap.size w w' :=
  ChunkMany_calls B nl cl L w hs hn hL
end Go.Proofs.YtendohnkhbgfbaaDoor
