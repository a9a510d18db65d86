/-
  Texts joined into one file: Laid22, SlK, ChunkL, ChunkBack.
-/
import Derived.Test.YtendohnkhbgfbaaDoorJChunkBack4
import Derived.Test.YtendohnkhbgfbaaDoorJBytK5
import Derived.Test.YtendohnkhbgfbaaDoorJChunkBack3
import Derived.Test.YtendohnkhbgfbaaDoorJBytK25
import Derived.ProofKit
import Derived.OpenShut
import Derived.ChangeSame
import Derived.ChangeSlices
/-
  What the rows' condition on the six listed tables gives the walks.
-/
namespace Go.Proofs.YtendohnkhbgfbaaDoor
open Go.RowKit

/-- An array of numbers of a kind that reads as these holds them. -/
theorem ints_of_trodK {H : Type} {enc : TypeId × Value → H} {P : Program} {w : World} {base : Nat} {sp : Nat → Bool} {held : Bool} {fuel t e n : Nat} {k : IntKind} {cs : List Value} {nums : List Int} {p : List MemPlace}
    (ht : P.underlying t = some (.array n e)) (k0 : P.underlying e = some (.int k)) (ce : P.cellsOf e = 1)
    (h : DataW.trod enc P w base sp held fuel t cs = some (.agg (nums.map fun r => .lit (.int k r)), p)) :
    ∀ j, j < nums.length → cs[j]? = some (.int k (rd nums j)) := by
  obtain ⟨xs, m, rfl, hx, hlen, hn, hel⟩ := DataW.trod_array ht h
  simp only [Prod.mk.injEq, DataW.agg.injEq] at hx
  intro j hj
  have hxl : xs.length = nums.length := by have := congrArg List.length hx.1; simpa using this.symm
  have hz := hel j (by omega)
  obtain ⟨x, hxj⟩ : ∃ x, xs[j]? = some x := ⟨xs[j]'(by omega), by simp [List.getElem?_eq_getElem (show j < xs.length by omega)]⟩
  rw [hxj, ce, Nat.mul_one] at hz
  obtain ⟨r0, e0, f0', _⟩ := DataW.trod_int k0 hz
  have hx1 : x.1 = (DataW.lit (.int k (rd nums j)) : DataW H) := by
    have := congrArg (·[j]?) hx.1
    simp only [List.getElem?_map, hxj, Option.map_some, List.getElem?_eq_getElem hj] at this
    rw [rd_getElem hj]
    exact (Option.some.inj this).symm
  rw [f0'] at hx1
  simp at hx1
  subst hx1
  have g0 := congrArg (·[0]?) e0
  simp [List.getElem?_drop] at g0
  exact g0
theorem gKeys : Tryd.prog.globalNamed "inkwell/sha.keys" = some 3 := by kernel_rfl
theorem gBegin : Tryd.prog.globalNamed "inkwell/sha.begin" = some 2 := by kernel_rfl
theorem gMagic : Tryd.prog.globalNamed "inkwell/chunk.magic" = some 0 := by kernel_rfl
theorem tKeys : (Tryd.prog.globals[3]?).map (·.type) = some 174 := by kernel_rfl
theorem tBegin : (Tryd.prog.globals[2]?).map (·.type) = some 82 := by kernel_rfl
theorem tMagic : (Tryd.prog.globals[0]?).map (·.type) = some 46 := by kernel_rfl
theorem key_wv : ∀ j, j < 64 → wv (keyS j) = rd keyL j := fun j hj => by
  have h : ∀ j, j < 64 → 0 ≤ rd keyL j ∧ rd keyL j < 4294967296 := by decide
  exact wv_w32 (h j hj)
theorem first_wv : ∀ j, j < 8 → wv (firstS.at j) = rd firstL j := fun j hj => by
  have h : ∀ j, j < 8 → 0 ≤ rd firstL j ∧ rd firstL j < 4294967296 := by decide
  rcases (show j = 0 ∨ j = 1 ∨ j = 2 ∨ j = 3 ∨ j = 4 ∨ j = 5 ∨ j = 6 ∨ j = 7 by omega) with rfl | rfl | rfl | rfl | rfl | rfl | rfl | rfl <;> exact wv_w32 (h _ (by omega))
structure Tabs22 (w : World) : Prop where
  tabs : Tabs w
  ord : OrdAt w
  keys : KeysAt w
  beg : BeginAt w
  mag : MagicAt w
theorem Tabs22.below {w w' : World} (h : Tabs22 w) (hb : Below w.heap.size w w') : Tabs22 w' :=
  ⟨h.tabs.below hb, fun j hj => kept_cell hb (h.ord j hj), fun j hj => kept_cell hb (h.keys j hj), fun j hj => kept_cell hb (h.beg j hj), fun j hj => kept_cell hb (h.mag j hj)⟩
theorem tabs22_of_laid {W : World} (h : laidMetH Tryd.prog [("inkwell/syms.lengths", Rows.laid_inkwell_syms_lengths), ("inkwell/syms.distances", Rows.laid_inkwell_syms_distances), ("inkwell/sha.keys", Rows.laid_inkwell_sha_keys), ("inkwell/sha.begin", Rows.laid_inkwell_sha_begin), ("inkwell/codes.order", Rows.laid_inkwell_codes_order), ("inkwell/chunk.magic", Rows.laid_inkwell_chunk_magic)] W) : Tabs22 W := by
  rw [MakeChecks.laidMetH_plain _ _ _ (by kernel_rfl)] at h
  obtain ⟨ps, ⟨g0, t0, cs0, n0, p0, q0, hg0, ht0, hv0, hd0, ⟨g1, t1, cs1, n1, p1, q1, hg1, ht1, hv1, hd1, ⟨g2, t2, cs2, n2, p2, q2, hg2, ht2, hv2, hd2, ⟨g3, t3, cs3, n3, p3, q3, hg3, ht3, hv3, hd3, ⟨g4, t4, cs4, n4, p4, q4, hg4, ht4, hv4, hd4, ⟨g5, t5, cs5, n5, p5, q5, hg5, ht5, hv5, hd5, _, _⟩, _⟩, _⟩, _⟩, _⟩, _⟩, _, _⟩ := h
  obtain rfl := Option.some.inj (gLens.symm.trans hg0)
  obtain rfl := Option.some.inj (gDists.symm.trans hg1)
  obtain rfl := Option.some.inj (gKeys.symm.trans hg2)
  obtain rfl := Option.some.inj (gBegin.symm.trans hg3)
  obtain rfl := Option.some.inj (gOrd.symm.trans hg4)
  obtain rfl := Option.some.inj (gMagic.symm.trans hg5)
  obtain rfl := Option.some.inj (tLens.symm.trans ht0)
  obtain rfl := Option.some.inj (tDists.symm.trans ht1)
  obtain rfl := Option.some.inj (tKeys.symm.trans ht2)
  obtain rfl := Option.some.inj (tBegin.symm.trans ht3)
  obtain rfl := Option.some.inj (tOrd.symm.trans ht4)
  obtain rfl := Option.some.inj (tMagic.symm.trans ht5)
  have u0 := pairs_of_trod (rows := lens) Tryd.underlying184 Tryd.underlying183 rfl rfl Tryd.underlying3 Tryd.underlying3 (by kernel_rfl) (by kernel_rfl) (by kernel_rfl) hd0
  have u1 := pairs_of_trod (rows := dists) Tryd.underlying185 Tryd.underlying183 rfl rfl Tryd.underlying3 Tryd.underlying3 (by kernel_rfl) (by kernel_rfl) (by kernel_rfl) hd1
  have u2 := ints_of_trodK (nums := keyL) Tryd.underlying174 Tryd.underlying81 (by kernel_rfl) hd2
  have u3 := ints_of_trodK (nums := firstL) Tryd.underlying82 Tryd.underlying81 (by kernel_rfl) hd3
  have u4 := ints_of_trod (nums := ordI) Tryd.underlying151 Tryd.underlying3 (by kernel_rfl) hd4
  have u5 := ints_of_trodK (nums := magicL) Tryd.underlying46 Tryd.underlying5 (by kernel_rfl) hd5
  refine ⟨⟨fun j hj => ?_, fun j hj => ?_⟩, fun j hj => ?_, fun j hj => ?_, fun j hj => ?_, fun j hj => ?_⟩
  · have := u0 j hj
    simp only [Array.getElem?_toList] at this
    rw [World.var?_cell hg0 hv0, World.var?_cell hg0 hv0]
    exact this
  · have := u1 j hj
    simp only [Array.getElem?_toList] at this
    rw [World.var?_cell hg1 hv1, World.var?_cell hg1 hv1]
    exact this
  · have := u4 j hj
    simp only [Array.getElem?_toList] at this
    rw [World.var?_cell hg4 hv4, this, rd_ordI j hj]
  · have := u2 j hj
    simp only [Array.getElem?_toList] at this
    rw [World.var?_cell hg2 hv2, this, key_wv j hj]
  · have := u3 j hj
    simp only [Array.getElem?_toList] at this
    rw [World.var?_cell hg3 hv3, this, first_wv j hj]
  · have := u5 j hj
    simp only [Array.getElem?_toList] at this
    rw [World.var?_cell hg5 hv5, this]
end Go.Proofs.YtendohnkhbgfbaaDoor
/-
  Slices of slices of bytes, as rows hold them.
-/
namespace Go.Proofs.YtendohnkhbgfbaaDoor
open Go.RowKit

/-- Slices of bytes behind each other. -/
def Slices (w : World) (A : Option Addr) (n : Nat) (L : List (List Int)) : Prop :=
  L.length = n ∧ (0 < n → ∃ b o, A = some ⟨b, o, none⟩ ∧ ∀ j, j < n → ∃ A' n' c', w.cell? ⟨b, o + j, none⟩ = some (.slice A' n' c') ∧ Rd w .u8 A' n' (L.getD j []) ∧ (A' = none → n' = 0 ∧ c' = 0) ∧ n' ≤ c' ∧ n' ≤ maxLen ∧ ∀ x ∈ L.getD j [], 0 ≤ x ∧ x ≤ 255)
theorem lists_choice {P : Nat → List Int → Prop} (n : Nat) (h : ∀ j, j < n → ∃ x, P j x) : ∃ l : List (List Int), l.length = n ∧ ∀ j, j < n → P j (l.getD j []) := by
  have h' : ∀ j, ∃ x, j < n → P j x := fun j => by
    by_cases hj : j < n
    · obtain ⟨x, hx⟩ := h j hj; exact ⟨x, fun _ => hx⟩
    · exact ⟨[], fun hh => absurd hh hj⟩
  have ⟨f, hf⟩ := Classical.axiomOfChoice h'
  refine ⟨(List.range n).map f, by simp, fun j hj => ?_⟩
  have : ((List.range n).map f).getD j [] = f j := by simp [List.getD_eq_getElem?_getD, List.getElem?_range hj]
  rw [this]
  exact hf j hj
theorem slices_of_trod {H : Type} {enc : TypeId × Value → H} {P : Program} {w : World} {base : Nat} {sp : Nat → Bool} {held : Bool} {t e u : TypeId} {v : Value} {d : DataW H} {p : List MemPlace}
    (ht : P.underlying t = some (.slice e)) (he : P.underlying e = some (.slice u)) (hu : P.underlying u = some (.int .u8)) (ce : P.cellsOf e = 1) (cu : P.cellsOf u = 1) (hv : ∃ A n c, v = .slice A n c)
    (h : DataW.Trod enc P w base sp held t v d p) :
    ∃ A n c L, v = .slice A n c ∧ n ≤ maxLen ∧ Slices w A n L := by
  obtain ⟨fuel, hf⟩ := h
  obtain ⟨A, n, c, rfl⟩ := hv
  rcases DataW.trod_slice ht hf with ⟨hcs, _⟩ | ⟨a, len, cap, elems, rest, m, _, hcs, _, hb, hl, hm, hlen, hel, _, _⟩
  · simp [Value.cells] at hcs
    obtain ⟨rfl, rfl, rfl⟩ := hcs
    exact ⟨none, 0, 0, [], rfl, by simp [maxLen], ⟨rfl, fun hh => by omega⟩⟩
  · simp [Value.cells] at hcs
    obtain ⟨rfl, rfl, rfl⟩ := hcs
    have each : ∀ j, j < n → ∃ l : List Int, ∃ A' n' c', w.cell? (a.add j) = some (.slice A' n' c') ∧ Rd w .u8 A' n' l ∧ (A' = none → n' = 0 ∧ c' = 0) ∧ n' ≤ c' ∧ n' ≤ maxLen ∧ ∀ x ∈ l, 0 ≤ x ∧ x ≤ 255 := by
      intro j hj
      have hz := hel j hj
      rw [ce, Nat.mul_one, List.getElem?_eq_getElem (show j < elems.length by omega)] at hz
      obtain ⟨cs, hcs, hz⟩ := Option.bind_eq_some_iff.1 hz
      obtain ⟨_, hcl, hcc⟩ := World.cells?_some hcs
      rcases Go.ChangeShapes.open_ints he hu cu hz with ⟨rfl, _⟩ | ⟨x, l, c', zs, rfl, _, hl', hm', hzl, _, hcell, hwf⟩
      · have := hcc 0 (by simp)
        exact ⟨[], none, 0, 0, by simpa [Addr.add] using this, ⟨rfl, fun hh => by omega⟩, fun _ => ⟨rfl, rfl⟩, Nat.le_refl _, by simp, fun x hx => by cases hx⟩
      · have h0 := hcc 0 (by simp)
        have hzl' : l ≤ zs.length := by rw [hzl]; split <;> omega
        refine ⟨zs.take l, some x, l, c', by simpa [Addr.add] using h0, ⟨by rw [List.length_take]; omega, fun hn => ?_⟩, (fun e => by cases e), hl', by omega, fun y hy => ?_⟩
        · obtain ⟨b, o, s⟩ := x
          have hs : s = none := by simpa [Addr.add] using World.cell?_spot (hcell 0 (by omega))
          subst hs
          refine ⟨b, o, rfl, fun i hi => ?_⟩
          have := hcell i (by omega)
          rw [addr_add] at this
          rw [this, take_rd hi]
          rfl
        · exact u8_of_wf (hwf y (List.mem_of_mem_take hy))
    obtain ⟨L, hL, hLs⟩ := lists_choice n each
    refine ⟨_, n, c, L, rfl, by omega, hL, fun hn => ?_⟩
    obtain ⟨b, o, s⟩ := a
    have hs : s = none := by
      obtain ⟨A', n', c', h1, _⟩ := hLs 0 hn
      simpa [Addr.add] using World.cell?_spot h1
    subst hs
    refine ⟨b, o, rfl, fun j hj => ?_⟩
    have := hLs j hj
    rw [addr_add] at this
    exact this
theorem takeL_next {L : List (List Int)} {j : Nat} (h : j < L.length) : L.take (j + 1) = L.take j ++ [L.getD j []] := by
  rw [List.take_succ_eq_append_getElem h, List.getD_eq_getElem?_getD, List.getElem?_eq_getElem h]
  rfl
theorem strOfNums_app (a b : List Int) : strOfNums (a ++ b) = strOfNums a ++ strOfNums b := by
  apply ByteArray.ext
  simp [strOfNums]
end Go.Proofs.YtendohnkhbgfbaaDoor
/-
  What is packed opens as it was; the walk of chapter 22's awake.
-/
namespace Go.Proofs.YtendohnkhbgfbaaDoor
open Go.RowKit

theorem body_pack {bs : List Int} (hb : ∀ x ∈ bs, 0 ≤ x ∧ x ≤ 255) (hl : bs.length ≤ 65535) : bodyK (packK bs).1 (packK bs).2 = some bs := by
  by_cases h : 256 ≤ bs.length ∧ (pressB bs).length < bs.length
  · rw [packK_pos h.1 h.2]
    obtain ⟨q, h1, h2⟩ := openS_one (Z := []) (most := 1048576) (opens_press (rd_bytes hb) hl) (by omega)
    rw [List.append_nil] at h1
    unfold bodyK
    rw [if_pos rfl, h1]
    show (if (q + 7) / 8 = (pressB bs).length then some bs else none) = some bs
    rw [if_pos h2]
  · rw [packK_neg h]
    rfl
theorem open_pack {bs : List Int} (hb : ∀ x ∈ bs, 0 ≤ x ∧ x ≤ 255) (hl : bs.length ≤ 65535) : openK (packK bs).1 (packK bs).2 = some bs := openK_pos (body_pack hb hl) rfl
theorem isRow_byte {w : World} {a : Option Addr} {len cap : Nat} {zs : List Int} (h : IsRow .u8 w a len cap zs) : ∀ x ∈ zs.take len, 0 ≤ x ∧ x ≤ 255 := all_of_rd (fun j hj => h.u8 j (by rw [← h.rd.1]; exact hj))
theorem packK_nil : packK [] = (1, []) := packK_neg (by simp)
set_option maxHeartbeats 1000000 in
set_option maxRecDepth 100000 in
theorem awake22_calls (w : World) (hT : Tabs22 w) : Calls Tryd.prog 8 #[] w fun e w' => e = .returned (.bool true) ∧ Below w.heap.size w w' := by
  have HT := Lib.hid hT
  clear hT
  go_enter Tryd.func8, Tryd.ntmps8
  go_wp2_with fail
  refine (ChPack_calls none 0 0 [] w ⟨rfl, fun h => by omega⟩ (fun x hx => by cases hx) (fun _ => ⟨rfl, rfl⟩) (by omega) (by omega) HT.out.tabs HT.out.ord).mono ?_
  rintro e w1 ⟨A1, n1, c1, rfl, HO1, hb1⟩
  rw [packK_nil] at HO1 ⊢
  have h0 : n1 = 0 := by have := HO1.out.1; simpa [ints] using this.symm
  subst h0
  have HB1 := Lib.hid hb1
  clear hb1 HO1
  go_wp2
  go_ret
  exact ⟨rfl, HB1.out.alloc HB1.out.size _⟩
end Go.Proofs.YtendohnkhbgfbaaDoor
/-
  The walk of the law ChunkBack.
-/
namespace Go.Proofs.YtendohnkhbgfbaaDoor
open Go.RowKit

theorem tmod_lt {cut : Int} (hc : 0 ≤ cut) {n : Nat} (h : 0 < n) : ∃ k : Nat, cut.tmod (n : Int) = k ∧ k < n := by
  obtain ⟨C, rfl⟩ : ∃ C : Nat, cut = C := ⟨cut.toNat, by omega⟩
  exact ⟨C % n, (Int.ofNat_tmod C n).symm, Nat.mod_lt C h⟩
theorem wrap64_u16 {c : Int} (h : 0 ≤ c ∧ c ≤ 65535) : wrap64 c = c := by unfold wrap64; omega
theorem chunkB_byte {k : Int} {c : List Int} (hk : 0 ≤ k ∧ k ≤ 255) (hc : ∀ x ∈ c, 0 ≤ x ∧ x ≤ 255) : ∀ x ∈ chunkB k c, 0 ≤ x ∧ x ≤ 255 := by
  intro x hx
  unfold chunkB tailB at hx
  rcases List.mem_append.1 hx with h | h
  · simp only [magicL, List.mem_cons, List.not_mem_nil, or_false] at h
    omega
  · rcases List.mem_append.1 h with h | h
    · exact sumB_byte _ _ x h
    · rcases List.mem_cons.1 h with h | h
      · subst h; exact hk
      · rcases List.mem_append.1 h with h | h
        · exact lebU_byte _ x h
        · exact hc x h
theorem one_chunk {w0 W : World} (_hL : Later w0 W) {K : Int} {A : Option Addr} {n c : Nat} {l : List Int} {T : TypeId} (r : Rd W .u8 A n l) (e : A = none → n = 0 ∧ c = 0) (hc : n ≤ c) :
    ChunksAt (W.alloc (.cells #[.int .i64 K, .slice A n c] T)) (some ⟨W.heap.size, 0, none⟩) 1 [(K, l)] := by
  have hb : Below W.heap.size W (W.alloc (.cells #[.int .i64 K, .slice A n c] T)) := (Below.refl _ _).alloc (Nat.le_refl _) _
  refine ⟨rfl, fun _ => ⟨W.heap.size, 0, rfl, fun j hj => ?_⟩⟩
  obtain rfl : j = 0 := by omega
  exact ⟨A, n, c, two_c0 (heap_alloc_new W _), two_c1 (heap_alloc_new W _), r.below hb, e, hc⟩
set_option maxHeartbeats 1000000 in
set_option maxRecDepth 100000 in
theorem ChunkBack_calls (A : Option Addr) (len cap : Nat) (bs : List Int) (B : Option Addr) (len2 cap2 : Nat) (ms : List Int) (cut : Int) (w : World) (hR : Rd w .u8 A len bs) (hb : ∀ x ∈ bs, 0 ≤ x ∧ x ≤ 255) (hA : A = none → len = 0 ∧ cap = 0) (hcap : len ≤ cap) (hlen : len ≤ 140737488351232)
    (hR2 : Rd w .u8 B len2 ms) (hb2 : ∀ x ∈ ms, 0 ≤ x ∧ x ≤ 255) (hB : B = none → len2 = 0 ∧ cap2 = 0) (hlen2 : len2 ≤ 140737488351232) (hcut : 0 ≤ cut ∧ cut ≤ 65535) (hL : Tabs22 w) :
    Calls Tryd.prog 6 #[.slice A len cap, .slice B len2 cap2, .int .u16 cut] w fun e w' => e = .returned (.bool true) ∧ Below w.heap.size w w' := by
  have HA := Lib.hid hA
  have HB := Lib.hid hB
  have HT := Lib.hid hL
  have HR := Lib.hid hR
  have HR2 := Lib.hid hR2
  have Hb := Lib.hid hb
  have Hb2 := Lib.hid hb2
  have Hl := Lib.hid hR.1
  have Hl2 := Lib.hid hR2.1
  have Hcut := Lib.hid hcut
  clear hR hb hL hA hcut hR2 hb2 hB
  go_enter Tryd.func6, Tryd.ntmps6
  go_wp2_with fail
  refine (awake22_calls _ HT.out).mono ?_
  rintro e w1 ⟨rfl, hb1⟩
  have HB1 := Lib.hid hb1
  clear hb1
  by_cases hle : len ≤ 3600
  · by_cases hle2 : len2 ≤ 900
    · go_wp2_with fail
      refine (ChPack_calls A len cap bs _ (HR.out.below HB1.out) Hb.out HA.out hcap (by omega) (HT.out.below HB1.out).tabs (HT.out.below HB1.out).ord).mono ?_
      rintro e w2 ⟨A1, n1, c1, rfl, HO1, hb2⟩
      have hKd := packK_kind bs
      have hopn := open_pack (bs := bs) Hb.out (by rw [Hl.out]; omega)
      have hbod := body_pack (bs := bs) Hb.out (by rw [Hl.out]; omega)
      have hple := packK_le bs
      have hCb := packK_byte (bs := bs) Hb.out
      obtain ⟨K, hK⟩ : ∃ K, K = (packK bs).1 := ⟨_, rfl⟩
      obtain ⟨CC, hCC⟩ : ∃ CC, CC = (packK bs).2 := ⟨_, rfl⟩
      rw [← hK, ← hCC] at hopn hbod
      rw [← hCC] at hple hCb HO1
      rw [← hK] at hKd ⊢
      rw [Hl.out] at hple
      obtain ⟨_, _, ea, hc1, hr1⟩ := own_rd HO1.out
      cases ea
      have hnn1 := own_none HO1.out
      have hn1 : n1 = CC.length := hr1.1.symm
      have HB2 := Lib.hid (below_seq HB1.out (Nat.le_refl _) hb2)
      have HKd := Lib.hid hKd
      have Hopn := Lib.hid hopn
      have Hbod := Lib.hid hbod
      have HCb := Lib.hid hCb
      have Hr1 := Lib.hid hr1
      have Hnn1 := Lib.hid hnn1
      have Hn1 := Lib.hid hn1
      have hn1l : n1 ≤ len := by omega
      clear hK hCC hKd hopn hbod hCb hr1 hnn1 hn1 hb2 HO1 hple
      go_upto_region 4 with fail
      obtain ⟨g7, hg7⟩ : ∃ g7, g7 = w2.heap.size := ⟨_, rfl⟩
      obtain ⟨w3, hw3⟩ : ∃ X, X = w2.alloc (.cells #[.int .i64 K, .slice A1 n1 c1] 26) := ⟨_, rfl⟩
      rw [← hw3, ← hg7]
      have hb3 : Below w2.heap.size w2 w3 := by rw [hw3]; exact (Below.refl _ _).alloc (Nat.le_refl _) _
      have hrow7 : w3.heap[g7]? = some (.cells #[.int .i64 K, .slice A1 n1 c1] 26 (0, 0)) := by rw [hw3, hg7]; exact heap_alloc_new w2 _
      have k0 := two_c0 hrow7
      have k1 := two_c1 hrow7
      have HK0 := Lib.hid k0
      have HK1 := Lib.hid k1
      have HB3 := Lib.hid (below_seq HB2.out (Nat.le_refl _) hb3)
      have Hr3 := Lib.hid (Hr1.out.below hb3)
      clear hw3 hg7 hb3 hrow7
      go_wp2_with fail
      have hput : putsB [(K, CC)] 1 = chunkB K CC := by simp [putsB, putK]
      have hkk : 0 ≤ K ∧ K ≤ 255 := by rcases HKd.out with h | h <;> omega
      have hleb := lebU_10 (n := CC.length) (by have := Hn1.out; omega)
      have hrl := chunkB_length K CC
      have hb3' : Below w3.heap.size w3 (w3.alloc (.cells #[.int .i64 K, .slice A1 n1 c1] 26)) := (Below.refl _ _).alloc (Nat.le_refl _) _
      have HB3' := Lib.hid (below_seq HB3.out (Nat.le_refl _) hb3')
      refine (ChPut_calls (some ⟨w3.heap.size, 0, none⟩) 1 1 [(K, CC)] _ (one_chunk (Later.refl w3) Hr3.out Hnn1.out hc1) (fun x hx => by
        have : x = (K, CC) := by simpa using hx
        subst this
        exact ⟨hkk, by have := Hn1.out; show CC.length ≤ _; omega, HCb.out⟩) (by show (putsB [(K, CC)] 1).length ≤ _; rw [hput, hrl]; have := Hn1.out; omega) (by omega) (HT.out.below HB3'.out).keys (HT.out.below HB3'.out).beg (HT.out.below HB3'.out).mag).mono ?_
      rintro e w4 ⟨v4, rfl, HO4, hb4⟩
      rw [show ([(K, CC)] : List (Int × List Int)).length = 1 from rfl, hput] at HO4
      obtain ⟨A4, c4, rfl⟩ := own_slice HO4.out
      obtain ⟨_, _, ea, hc4, hr4⟩ := own_rd HO4.out
      cases ea
      have hnn4 := own_none HO4.out
      obtain ⟨R, hR⟩ : ∃ R, R = chunkB K CC := ⟨_, rfl⟩
      obtain ⟨lr, hlr⟩ : ∃ lr, lr = R.length := ⟨_, rfl⟩
      rw [← hR, ← hlr] at hr4 hc4 hnn4 ⊢
      rw [← hR, ← hlr] at hrl
      have hlr9 : 9 ≤ lr ∧ lr ≤ 9 + 10 + len := by have := Hn1.out; omega
      have hRb : ∀ x ∈ R, 0 ≤ x ∧ x ≤ 255 := by rw [hR]; exact chunkB_byte hkk HCb.out
      have HB4 := Lib.hid (below_seq HB3'.out (Nat.le_refl _) hb4)
      have HX4 := Lib.hid (below_seq hb3' (Nat.le_refl _) hb4)
      have Hr4 := Lib.hid hr4
      have Hnn4 := Lib.hid hnn4
      have HRR := Lib.hid hR
      have Hlr := Lib.hid hlr
      have HRb := Lib.hid hRb
      clear hb3' hput hkk hleb hrl hb4 HO4 hr4 hnn4 hR hlr hRb k0 k1
      go_wp2_with (first
        | (at_builtin; refine wpList_appRd rfl _ _ rfl elBy (ys := []) (own_lit0 w4 _) rfl rfl (Hr4.out.alloc _) Hnn4.out (by omega) (by simp) ?_; intro v5 w5 ho5 hg5; rw [Nat.zero_add, List.nil_append] at ho5; have hb5 : Below w4.heap.size w4 w5 := ((Below.refl _ _).alloc (Nat.le_refl _) _).grown hg5 (by simp) (fun k hk => by simp [Value.ownBlock] at hk; omega); have hs5 : w4.heap.size ≤ w5.heap.size := hb5.size; have HO5 := Lib.hid ho5; have HX5 := Lib.hid hb5; clear ho5 hg5 hb5)
        | (at_builtin; refine wpList_appRd rfl _ _ rfl elBy HO5.out rfl rfl (HR2.out.below (below_seq HB4.out (Nat.le_refl _) HX5.out)) HB.out (by omega) hs5 ?_; intro v6 w6 ho6 hg6; have hb6 : Below w4.heap.size w4 w6 := HX5.out.grown hg6 hs5 (fun k hk => (HO5.out.lt k hk).1); obtain ⟨A6, c6, rfl⟩ := own_slice ho6; have HO6 := Lib.hid ho6; have HX6 := Lib.hid hb6; clear ho6 hg6 hb6))
      have hrd6 : Rd w6 .u8 A6 (lr + len2) (R ++ ms) := by obtain ⟨_, _, ea, _, hr⟩ := own_rd HO6.out; cases ea; exact hr
      have hc6 : lr + len2 ≤ c6 := by obtain ⟨_, _, ea, hc, _⟩ := own_rd HO6.out; cases ea; exact hc
      have hb46 := below_seq HB4.out (Nat.le_refl _) HX6.out
      refine (ChNext_calls A6 (lr + len2) c6 (R ++ ms) w6 hrd6 (own_none HO6.out) hc6 (fun x hx => (List.mem_append.1 hx).elim (HRb.out x) (Hb2.out x)) (by omega) (HT.out.below hb46).keys (HT.out.below hb46).beg (HT.out.below hb46).mag).mono ?_
      rintro e w7 ⟨K', A7, n7, c7, C', M, E, rfl, HNx, HO7, hb7⟩
      obtain ⟨rfl, rfl, rfl, rfl⟩ := HNx.out.same (by rw [HRR.out]; exact next_put ms HKd.out (by have := Hn1.out; omega))
      rw [← HRR.out, ← Hlr.out]
      obtain ⟨_, _, ea, hc7, hr7⟩ := own_rd HO7.out
      cases ea
      have hnn7 := own_none HO7.out
      have hn7 : n7 = n1 := by rw [Hn1.out]; exact hr7.1.symm
      subst hn7
      have HX7 := Lib.hid (below_seq HX6.out (Nat.le_refl _) hb7)
      have Hr7 := Lib.hid hr7
      have Hnn7 := Lib.hid hnn7
      clear hrd6 hc6 hb46 HNx HO7 hb7 hr7 hnn7 HO5 HX5 hs5 HX6 HO6
      go_upto_region 6 with fail
      obtain ⟨g9, hg9⟩ : ∃ g9, g9 = w7.heap.size := ⟨_, rfl⟩
      obtain ⟨w8, hw8⟩ : ∃ X, X = w7.alloc (.cells #[.int .i64 K', .slice A7 n7 c7] 26) := ⟨_, rfl⟩
      rw [← hw8, ← hg9]
      have hb8 : Below w7.heap.size w7 w8 := by rw [hw8]; exact (Below.refl _ _).alloc (Nat.le_refl _) _
      have hrow9 : w8.heap[g9]? = some (.cells #[.int .i64 K', .slice A7 n7 c7] 26 (0, 0)) := by rw [hw8, hg9]; exact heap_alloc_new w7 _
      have k0 := two_c0 hrow9
      have k1 := two_c1 hrow9
      have HK90 := Lib.hid k0
      have HK91 := Lib.hid k1
      have HX8 := Lib.hid (below_seq HX7.out (Nat.le_refl _) hb8)
      have Hr8 := Lib.hid (Hr7.out.below hb8)
      have HB8 := Lib.hid (below_seq HB4.out (Nat.le_refl _) HX8.out)
      clear hw8 hg9 hb8 hrow9
      go_wp2_with fail
      refine (ChOpen_calls K' A7 n7 c7 C' w8 HKd.out Hr8.out Hnn7.out hc7 HCb.out (by omega) (fun b hb => by
        rw [Hbod.out] at hb
        cases hb
        exact ⟨by rw [Hl.out]; omega, Hb.out⟩) (HT.out.below HB8.out).tabs (HT.out.below HB8.out).ord).mono ?_
      rintro e w9 ⟨Hx, hb9⟩
      rcases Hx.out with ⟨b9, v9, hop, rfl, ho9⟩ | ⟨hop, _⟩
      · rw [Hopn.out] at hop
        cases hop
        obtain ⟨A9, c9, rfl⟩ := own_slice ho9
        obtain ⟨_, _, ea, hc9, hr9⟩ := own_rd ho9
        cases ea
        rw [Hl.out] at hr9 ⊢
        have HX9 := Lib.hid (below_seq HX8.out (Nat.le_refl _) hb9)
        have HY9 := Lib.hid hb9
        have Hr9 := Lib.hid hr9
        clear Hx hb9 ho9 hc9 hr9 k0 k1
        obtain ⟨k, hk, hkl⟩ := tmod_lt Hcut.out.1 (show 0 < lr by omega)
        have hwc := wrap64_u16 Hcut.out
        have Hk := Lib.hid hk
        have hHk := hk
        clear hk
        go_wp2_with fail
        have hr49 := Hr4.out.below HX9.out
        have hHB9 := below_seq HB4.out (Nat.le_refl _) HX9.out
        refine (ChNext_calls A4 k c4 (R.take k) w9 (rd_take_c hr49 (by omega)) (fun e => by have := Hnn4.out e; omega) (by omega) (fun x hx => HRb.out x (List.mem_of_mem_take hx)) (by omega) (HT.out.below hHB9).keys (HT.out.below hHB9).beg (HT.out.below hHB9).mag).mono ?_
        rintro e w10 ⟨K2, A10, n10, c10, C2, M2, E2, rfl, HNx, HO10, hb10⟩
        obtain ⟨rfl, rfl, rfl, rfl⟩ := HNx.out.same (by rw [HRR.out]; exact next_front HKd.out (by have := Hn1.out; omega) (by rw [← HRR.out, ← Hlr.out]; exact hkl))
        have hb411 := below_seq HX9.out (Nat.le_refl _) hb10
        have hb311 := below_seq HX4.out (Nat.le_refl _) hb411
        have hb911 := below_seq HY9.out (Nat.le_refl _) hb10
        have hHB10 := below_seq HB4.out (Nat.le_refl _) hb411
        clear hr49 hHB9 HNx HO10 hHk hwc
        go_upto_region 8 with fail
        obtain ⟨w11, hw11⟩ : ∃ X, X = w10.alloc (.cells #[.int .i64 0, .slice A10 n10 c10] 26) := ⟨_, rfl⟩
        have hb11 : Below w10.heap.size w10 w11 := by rw [hw11]; exact (Below.refl _ _).alloc (Nat.le_refl _) _
        rw [← hw11]
        have y0 := kept_cell (below_seq hb311 (Nat.le_refl _) hb11) HK0.out
        have y1 := kept_cell (below_seq hb311 (Nat.le_refl _) hb11) HK1.out
        have y2 := kept_cell (below_seq hb911 (Nat.le_refl _) hb11) HK90.out
        have y3 := kept_cell (below_seq hb911 (Nat.le_refl _) hb11) HK91.out
        have cv1 := conv_all (c := c1) (Hr3.out.below (below_seq hb311 (Nat.le_refl _) hb11))
        have cv2 := conv_all (c := c7) (Hr8.out.below (below_seq hb911 (Nat.le_refl _) hb11))
        have cv3 := conv_all (c := c9) (Hr9.out.below (below_seq hb10 (Nat.le_refl _) hb11))
        have cv4 := conv_all (c := cap) (HR.out.below (below_seq hHB10 (Nat.le_refl _) hb11))
        obtain ⟨sC, hsC⟩ : ∃ s, s = strOfNums C' := ⟨_, rfl⟩
        obtain ⟨sB, hsB⟩ : ∃ s, s = strOfNums bs := ⟨_, rfl⟩
        rw [← hsC] at cv1 cv2
        rw [← hsB] at cv3 cv4
        have HBf := Lib.hid (below_seq hHB10 (Nat.le_refl _) hb11)
        have qC : (sC.toList == sC.toList) = true := by rw [tl_beq]; exact decide_eq_true rfl
        have qB : (sB.toList == sB.toList) = true := by rw [tl_beq]; exact decide_eq_true rfl
        have qn : ((n7 : Int) ≤ (len : Int)) := by omega
        clear hb10 hb411 hb311 hb911 hHB10 hw11 hb11 hsC hsB
        go_wp2
        go_ret
        exact ⟨rfl, HBf.out⟩
      · rw [Hopn.out] at hop
        cases hop
    · go_wp2_with fail
      refine (awake22_calls _ (HT.out.below HB1.out)).mono ?_
      rintro e w2 ⟨rfl, hb2⟩
      have H2 := Lib.hid (below_seq HB1.out (Nat.le_refl _) hb2)
      clear hb2
      go_wp2
      go_ret
      exact ⟨rfl, H2.out⟩
  · go_wp2_with fail
    refine (awake22_calls _ (HT.out.below HB1.out)).mono ?_
    rintro e w2 ⟨rfl, hb2⟩
    have H2 := Lib.hid (below_seq HB1.out (Nat.le_refl _) hb2)
    clear hb2
    go_wp2
    go_ret
    exact ⟨rfl, H2.out⟩
theorem ChunkBack_walk (A : Option Addr) (len cap : Nat) (z : List Int) (B : Option Addr) (len2 cap2 : Nat) (z2 : List Int) (cut : Int) (w : World) (h : IsRow .u8 w A len cap z) (y : len * 1 ≤ 140737488351232) (h2 : IsRow .u8 w B len2 cap2 z2) (y2 : len2 * 1 ≤ 140737488351232) (h3 : (Lit.int .u16 cut).wf = true) (hL : Tabs22 w) :
    Calls Tryd.prog 6 #[.slice A len cap, .slice B len2 cap2, .int .u16 cut] w fun e w' => e = .returned (.bool true) ∧ Below w.heap.size w w' :=
  ChunkBack_calls A len cap (z.take len) B len2 cap2 (z2.take len2) cut w h.rd (isRow_byte h) (isRow_nil h) (isRow_le h) (by omega) h2.rd (isRow_byte h2) (isRow_nil h2) (by omega) (u16_of_wf h3) hL
end Go.Proofs.YtendohnkhbgfbaaDoor
