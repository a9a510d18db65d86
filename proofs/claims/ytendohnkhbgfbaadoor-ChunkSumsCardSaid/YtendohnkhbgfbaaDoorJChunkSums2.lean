/-
  Texts joined into one file: ChunkR, ChunkSums.
-/
import Derived.Test.YtendohnkhbgfbaaDoorJRefShaD3
import Derived.Laws.BitsAllLaws
import Derived.Test.YtendohnkhbgfbaaDoorJChunkSums1
import Derived.Test.YtendohnkhbgfbaaDoorJRefShaD6
/-
  A chunk of which one byte is changed (no program).
-/
namespace Go.Proofs.YtendohnkhbgfbaaDoor
open Go.RowKit

/-- A chunk's bytes with whatever sum. -/
def withSum (k : Int) (s c : List Int) : List Int := headB k s ++ (lebU c.length ++ c)
theorem chunkB_with (k : Int) (c : List Int) : chunkB k c = withSum k (sumB k c) c := chunkB_eq k c
theorem next_with {k : Int} {s c : List Int} (hs : s.length = 4) (hk : k = 1 ∨ k = 2) (hc : c.length ≤ 1048576) :
    (sumB k c = s → IsNext (withSum k s c) k c (9 + (lebU c.length).length + c.length) 0) ∧ (sumB k c ≠ s → IsNext (withSum k s c) 0 [] 0 7) := by
  unfold withSum
  have hb : Begins (headB k s ++ (lebU c.length ++ c)) := by
    have := headB_begins (k := k) (s := s) (R := lebU c.length ++ c) (headB k s ++ (lebU c.length ++ c)).length
    rw [List.take_length] at this
    exact this
  have h8 : rd (headB k s ++ (lebU c.length ++ c)) 8 = k := headB_kind hs
  have hg : IsGet ((headB k s ++ (lebU c.length ++ c)).drop 9) c.length (lebU c.length).length 0 := by
    rw [List.drop_left' (headB_length hs)]
    exact get_leb (by omega) _
  have hl : (headB k s ++ (lebU c.length ++ c)).length = 9 + ((lebU c.length).length + c.length) := by rw [List.length_append, List.length_append, headB_length hs]
  have hcc : ((headB k s ++ (lebU c.length ++ c)).drop (9 + (lebU c.length).length)).take c.length = c := by
    rw [← List.drop_drop, List.drop_left' (headB_length hs), List.drop_left, List.take_length]
  constructor
  · intro h
    have h := next_ok hb (by omega) (by unfold IsKind; rw [h8]; exact hk) hg hc (by omega) (by rw [h8, hcc, headB_sum hs]; exact h)
    rw [h8, hcc] at h
    exact h
  · intro h
    exact next_sum hb (by omega) (by unfold IsKind; rw [h8]; exact hk) hg hc (by omega) (by rw [h8, hcc, headB_sum hs]; exact h)
/-- A byte of the content changed. -/
theorem with_content (k : Int) (c : List Int) (j : Nat) (y : Int) : (chunkB k c).set ((chunkB k c).length - c.length + j) y = withSum k (sumB k c) (c.set j y) := by
  have hl := chunkB_length k c
  have h9 := headB_length (k := k) (sumB_length k c)
  rw [show (chunkB k c).length - c.length + j = 9 + ((lebU c.length).length + j) by omega, chunkB_eq]
  unfold withSum
  rw [List.set_append_right _ _ (by omega), h9, List.set_append_right _ _ (by omega), List.length_set]
  congr 3
  omega
/-- A byte of the sum changed. -/
theorem with_sum (k : Int) (c : List Int) {j : Nat} (hj : j < 4) (y : Int) : (chunkB k c).set (4 + j) y = withSum k ((sumB k c).set j y) c := by
  have h9 := headB_length (k := k) (sumB_length k c)
  have h4 := sumB_length k c
  have hm : magicL.length = 4 := rfl
  rw [chunkB_eq]
  unfold withSum
  rw [List.set_append_left _ _ (by omega)]
  congr 1
  unfold headB
  rw [List.set_append_right _ _ (by omega), hm, List.set_append_left _ _ (by omega)]
  congr 3
  omega
theorem rd_right {a b : List Int} {j : Nat} : rd (a ++ b) (a.length + j) = rd b j := by
  unfold rd
  rw [List.getD_eq_getElem?_getD, List.getD_eq_getElem?_getD, List.getElem?_append_right (by omega)]
  congr 2
  omega
theorem content_rd (k : Int) (c : List Int) (j : Nat) : rd (chunkB k c) ((chunkB k c).length - c.length + j) = rd c j := by
  have hl := chunkB_length k c
  have h9 := headB_length (k := k) (sumB_length k c)
  rw [show (chunkB k c).length - c.length + j = 9 + ((lebU c.length).length + j) by omega, chunkB_eq, ← h9, rd_right, rd_right]
theorem sum_rd (k : Int) (c : List Int) {j : Nat} (hj : j < 4) : rd (chunkB k c) (4 + j) = rd (sumB k c) j := by
  unfold chunkB
  rw [show 4 + j = magicL.length + j from rfl, rd_right, rd_app_l (by rw [sumB_length]; exact hj)]
theorem sum_ne {s : List Int} {j : Nat} {y : Int} (hj : j < s.length) (h : y ≠ rd s j) : s ≠ s.set j y := by
  intro e
  have h1 : rd s j = rd (s.set j y) j := by rw [← e]
  rw [rd_set hj, if_pos rfl] at h1
  exact h h1.symm
theorem xor_byte {x y : Int} (hx : 0 ≤ x ∧ x ≤ 255) (hy : 0 ≤ y ∧ y ≤ 255) : 0 ≤ bits .xor .u8 x y ∧ bits .xor .u8 x y ≤ 255 := by
  obtain ⟨a, rfl⟩ := Int.eq_ofNat_of_zero_le hx.1
  obtain ⟨b, rfl⟩ := Int.eq_ofNat_of_zero_le hy.1
  have h : a ^^^ b < 2 ^ 8 := Nat.xor_lt_two_pow (by omega) (by omega)
  rw [u8_xor_nat a b (by omega) (by omega)]
  omega
theorem xor_ne {x y : Int} (hx : 0 ≤ x ∧ x ≤ 255) (hy : 0 ≤ y ∧ y ≤ 255) (h0 : y ≠ 0) : bits .xor .u8 x y ≠ x := by
  obtain ⟨a, rfl⟩ := Int.eq_ofNat_of_zero_le hx.1
  obtain ⟨b, rfl⟩ := Int.eq_ofNat_of_zero_le hy.1
  rw [u8_xor_nat a b (by omega) (by omega)]
  intro e
  have e1 : a ^^^ b = a := by omega
  have e2 : a ^^^ (a ^^^ b) = a ^^^ a := by rw [e1]
  rw [← Nat.xor_assoc, Nat.xor_self, Nat.zero_xor] at e2
  omega
end Go.Proofs.YtendohnkhbgfbaaDoor
/-
  The walk of the law ChunkSums.
-/
namespace Go.Proofs.YtendohnkhbgfbaaDoor
open Go.RowKit

theorem rd_fragS {w : World} {k : IntKind} {g len : Nat} {xs : List Int} (h : Rd w k (some ⟨g, 0, none⟩) len xs) (d n : Nat) (hd : d + n ≤ len) : Rd w k (some ⟨g, d, none⟩) n ((xs.drop d).take n) := by
  have h1 := rd_take0 (rd_drop0 h d (by omega)) n (by omega)
  rwa [Nat.zero_add] at h1
theorem tmod_ltS {cut : Int} (hc : 0 ≤ cut) {n : Nat} (h : 0 < n) : ∃ k : Nat, cut.tmod (n : Int) = k ∧ k < n := by
  obtain ⟨C, rfl⟩ : ∃ C : Nat, cut = C := ⟨cut.toNat, by omega⟩
  exact ⟨C % n, (Int.ofNat_tmod C n).symm, Nat.mod_lt C h⟩
theorem wrap64_u16S {c : Int} (h : 0 ≤ c ∧ c ≤ 65535) : wrap64 c = c := by unfold wrap64; omega
theorem one_chunkS {W : World} {K : Int} {A : Option Addr} {n c : Nat} {l : List Int} {T : TypeId} (r : Rd W .u8 A n l) (e : A = none → n = 0 ∧ c = 0) (hc : n ≤ c) :
    ChunksAt (W.alloc (.cells #[.int .i64 K, .slice A n c] T)) (some ⟨W.heap.size, 0, none⟩) 1 [(K, l)] := by
  have hb : Below W.heap.size W (W.alloc (.cells #[.int .i64 K, .slice A n c] T)) := (Below.refl _ _).alloc (Nat.le_refl _) _
  refine ⟨rfl, fun _ => ⟨W.heap.size, 0, rfl, fun j hj => ?_⟩⟩
  obtain rfl : j = 0 := by omega
  exact ⟨A, n, c, two_c0 (heap_alloc_new W _), two_c1 (heap_alloc_new W _), r.below hb, e, hc⟩
theorem chunkB_sum (k : Int) (c : List Int) : ((chunkB k c).drop 4).take 4 = sumB k c := by
  unfold chunkB
  rw [List.drop_left' (show magicL.length = 4 from rfl), List.take_left' (sumB_length k c)]
theorem set_byte {l : List Int} {j : Nat} {y : Int} (hl : ∀ x ∈ l, 0 ≤ x ∧ x ≤ 255) (hy : 0 ≤ y ∧ y ≤ 255) : ∀ x ∈ l.set j y, 0 ≤ x ∧ x ≤ 255 := fun x hx => by
  rcases List.mem_or_eq_of_mem_set hx with h | h
  · exact hl x h
  · subst h; exact hy
set_option maxHeartbeats 2000000 in
set_option maxRecDepth 100000 in
theorem ChunkSums_calls (hP : RPlain) (A : Option Addr) (len cap : Nat) (bs : List Int) (at' b' : Int) (w : World) (hR : Rd w .u8 A len bs) (hb : ∀ x ∈ bs, 0 ≤ x ∧ x ≤ 255) (hA : A = none → len = 0 ∧ cap = 0) (hcap : len ≤ cap) (hlen : len ≤ 140737488351232) (hat : 0 ≤ at' ∧ at' ≤ 65535) (hby : 0 ≤ b' ∧ b' ≤ 255) (hL : Tabs22 w) :
    Calls Tryd.prog 5 #[.slice A len cap, .int .u16 at', .int .u8 b'] w fun e w' => e = .returned (.bool true) ∧ Below w.heap.size w w' := by
  have HA := Lib.hid hA
  have HT := Lib.hid hL
  have HR := Lib.hid hR
  have Hb := Lib.hid hb
  have Hl := Lib.hid hR.1
  have HP := Lib.hid hP
  have Hat := Lib.hid hat
  have Hby := Lib.hid hby
  clear hR hb hL hA hP hat
  go_enter Tryd.func5, Tryd.ntmps5
  go_wp2_with fail
  refine (awake22_calls _ HT.out).mono ?_
  rintro e w1 ⟨rfl, hb1⟩
  have HB1 := Lib.hid hb1
  clear hb1
  by_cases hall : len ≤ 900 ∧ len ≠ 0 ∧ b' ≠ 0
  · obtain ⟨hle, h0, hb0⟩ := hall
    have q0 : ((len : Int) == 0) = false := by simp; omega
    have q1 : (b' == 0) = false := by simp; omega
    go_wp2_with fail
    clear q0 q1
    have hput : putsB [(1, bs)] 1 = chunkB 1 bs := by simp [putsB, putK]
    have hleb := lebU_10 (n := bs.length) (by rw [Hl.out]; omega)
    have hrl := chunkB_length 1 bs
    rw [Hl.out] at hleb hrl
    have hb1' : Below w1.heap.size w1 (w1.alloc (.cells #[.int .i64 1, .slice A len cap] 26)) := (Below.refl _ _).alloc (Nat.le_refl _) _
    have HB1' := Lib.hid (below_seq HB1.out (Nat.le_refl _) hb1')
    refine (ChPut_calls (some ⟨w1.heap.size, 0, none⟩) 1 1 [(1, bs)] _ (one_chunkS (HR.out.below HB1.out) HA.out hcap) (fun x hx => by
      have : x = (1, bs) := by simpa using hx
      subst this
      exact ⟨by omega, by show bs.length ≤ _; rw [Hl.out]; omega, Hb.out⟩) (by show (putsB [(1, bs)] 1).length ≤ _; rw [hput, hrl]; omega) (by omega) (HT.out.below HB1'.out).keys (HT.out.below HB1'.out).beg (HT.out.below HB1'.out).mag).mono ?_
    rintro e w2 ⟨v2, rfl, HO2, hb2⟩
    rw [show ([(1, bs)] : List (Int × List Int)).length = 1 from rfl, hput] at HO2
    obtain ⟨A2, c2, rfl⟩ := own_slice HO2.out
    obtain ⟨_, _, ea, hc2, hr2⟩ := own_rd HO2.out
    cases ea
    have hnn2 := own_none HO2.out
    obtain ⟨R, hR⟩ : ∃ R, R = chunkB 1 bs := ⟨_, rfl⟩
    obtain ⟨lr, hlr⟩ : ∃ lr, lr = R.length := ⟨_, rfl⟩
    rw [← hR, ← hlr] at hr2 hc2 hnn2 ⊢
    rw [← hR, ← hlr] at hrl
    have hlr9 : 9 + len ≤ lr ∧ lr ≤ 9 + 10 + len := by omega
    have hRb : ∀ x ∈ R, 0 ≤ x ∧ x ≤ 255 := by rw [hR]; exact chunkB_byte (by omega) Hb.out
    have HB2 := Lib.hid (below_seq HB1'.out (Nat.le_refl _) hb2)
    have Hr2 := Lib.hid hr2
    have Hnn2 := Lib.hid hnn2
    have HRR := Lib.hid hR
    have Hlr := Lib.hid hlr
    have HRb := Lib.hid hRb
    clear hb1' hput hleb hrl hb2 HO2 hr2 hnn2 hR hlr hRb
    obtain ⟨k, hk, hkl⟩ := tmod_ltS Hat.out.1 (show 0 < len by omega)
    have hwc := wrap64_u16S Hat.out
    go_wp2_with (at_builtin; refine wpList_appRd rfl _ _ rfl elBy (ys := []) (own_lit0 w2 _) rfl rfl ((HR.out.below HB2.out).alloc _) HA.out (by omega) (by simp) ?_; intro v3 w3 ho3 hg3; rw [Nat.zero_add, List.nil_append] at ho3; have hb3 : Below w2.heap.size w2 w3 := ((Below.refl _ _).alloc (Nat.le_refl _) _).grown hg3 (by simp) (fun k hk => by simp [Value.ownBlock] at hk; omega); obtain ⟨g3, c3, e3, hgb3, _⟩ := ho3.form (show 0 < len by omega); subst e3; have z3 := ho3.cellAt k (by omega); rw [ints_get (by rw [Hl.out]; exact hkl)] at z3; have f3 := ho3.frozenAt k; have HO3 := Lib.hid ho3; have HX3 := Lib.hid hb3; clear ho3 hg3 hb3)
    obtain ⟨y, hy⟩ : ∃ y, y = bits .xor .u8 (rd bs k) b' := ⟨_, rfl⟩
    obtain ⟨w4, hw4⟩ : ∃ X, X = w3.setCell ⟨g3, k, none⟩ (.int .u8 y) := ⟨_, rfl⟩
    rw [← hy, ← hw4]
    have ho4 := own_store HO3.out k (.int .u8 y)
    rw [← ints_set, ← hw4] at ho4
    have hb4 : Below w2.heap.size w2 w4 := by rw [hw4]; exact HX3.out.setCell (p := ⟨g3, k, none⟩) hgb3 _
    obtain ⟨O, hO⟩ : ∃ O, O = bs.set k y := ⟨_, rfl⟩
    rw [← hO] at ho4
    obtain ⟨_, _, e9, hc3, hr4⟩ := own_rd ho4
    cases e9
    have hkb := Hb.out (rd bs k) (by rw [rd_getElem (by rw [Hl.out]; exact hkl)]; exact List.getElem_mem _)
    have hyb : 0 ≤ y ∧ y ≤ 255 := by rw [hy]; exact xor_byte hkb Hby.out
    have HOb := Lib.hid (show ∀ x ∈ O, 0 ≤ x ∧ x ≤ 255 by rw [hO]; exact set_byte Hb.out hyb)
    have hlO : O.length = len := by rw [hO, List.length_set, Hl.out]
    have HlrB := Lib.hid (show (chunkB 1 bs).length = lr by rw [← HRR.out, ← Hlr.out])
    have HlrO := Lib.hid (show (chunkB 1 O).length = lr by rw [chunkB_length, hlO, ← Hl.out, ← chunkB_length]; exact HlrB.out)
    obtain ⟨sO, hsO⟩ : ∃ s, s = strOfNums (sumB 1 O) := ⟨_, rfl⟩
    obtain ⟨sB, hsB⟩ : ∃ s, s = strOfNums (sumB 1 bs) := ⟨_, rfl⟩
    have HsO := Lib.hid hsO
    have HsB := Lib.hid hsB
    have HO4r := Lib.hid hr4
    have HlO := Lib.hid hlO
    have HO := Lib.hid hO
    have Hy := Lib.hid hy
    have Hkb := Lib.hid hkb
    have HX4 := Lib.hid hb4
    have HB4 := Lib.hid (below_seq HB2.out (Nat.le_refl _) hb4)
    have L0 := Later.refl w4
    clear hy hw4 hO hlO hkb hyb hsO hsB hr4 hb4 ho4 z3 f3 hk hwc hby
    go_upto_region 7 with fail
    go_cut [10] from 57 to 65 (fun t wx => ∃ q : Bool, t = .bool q ∧ Hid (q = true ↔ sO = sB) ∧ Hid (Below w4.heap.size w4 wx))
    case first =>
        --G7
        refine wp_region_noPanic ?_
        refine wp_region_held_drew (S := fun W => Later w4 W) (by kernel_rfl) ((Later.drew L0)) (fun hHeld => ?_)
        refine' wpAnyH_take (i := 0) (oi := ⟨_, _, _, _, _, _⟩) (v := _) rfl (by kernel_rfl) (by kernel_rfl) (by kernel_rfl) (fun _ _ _ h => h) (Or.inl ⟨by rfl, ?hya0⟩) (by assumption) ?resta0
        case hya0 => (intro w hSw; (try dsimp only at hSw); go_simp; try with_reducible rfl)
        try simp only [Act.put, List.setIfInBounds_toArray, List.set_cons_zero, List.set_cons_succ]
        refine' wpAnyH_take (i := 4) (oi := ⟨_, _, _, _, _, _⟩) (v := _) rfl (by kernel_rfl) (by kernel_rfl) (by kernel_rfl) (fun _ _ _ h => h) (Or.inl ⟨by rfl, ?hya4⟩) (by assumption) ?resta4
        case hya4 => (intro w hSw; (try dsimp only at hSw); go_simp; try with_reducible rfl)
        try simp only [Act.put, List.setIfInBounds_toArray, List.set_cons_zero, List.set_cons_succ]
        refine wpAnyH_ready (rs := [1]) (by kernel_rfl) (by simp) ?_
        refine AllReadyH.cons (o := ⟨_, _, _, _, _, _⟩) rfl (fun K hK => ?_) AllReadyH.nil
        go_simp
        go_at_call 12
        refine (rChPut_calls HP.out 1 (some ⟨g3, 0, none⟩) len c3 O _ (by omega) (HO4r.out.below (Later.bel (Later.drew L0))) (fun e => by cases e) HOb.out (by omega)).mono ?_
        rintro e wA ⟨vA, rfl, hoA, hbA⟩
        have hlA : (chunkB 1 O).length = lr := HlrO.out
        rw [hlA] at hoA
        obtain ⟨gA, cA, eA, _, _⟩ := hoA.out.form (by omega)
        subst eA
        obtain ⟨_, _, e9, hcA, hrA⟩ := own_rd hoA.out
        cases e9
        have LA := Later.step (Later.drew L0) hbA
        have h8A : (8 : Int) ≤ (cA : Int) := by omega
        have h4A : ¬ cA = 4 := by omega
        have hrA4 := rd_fragS hrA 4 4 (by omega)
        rw [chunkB_sum] at hrA4
        refine hK.out _ _ (LA) (fun hHeldN => ?_)
        clear hK K hHeld
        have hHeld := hHeldN
        clear hHeldN
        try simp only [Act.put, List.setIfInBounds_toArray, List.set_cons_zero, List.set_cons_succ]
        refine wpAnyH_ready (rs := [2, 5]) (by kernel_rfl) (by simp) ?_
        refine AllReadyH.cons (o := ⟨_, _, _, _, _, _⟩) rfl (fun K hK => ?_) (AllReadyH.cons (o := ⟨_, _, _, _, _, _⟩) rfl (fun K hK => ?_) AllReadyH.nil)
        · go_simp
          refine hK.out _ _ (LA) (fun hHeldN => ?_)
          clear hK K hHeld
          have hHeld := hHeldN
          clear hHeldN
          try simp only [Act.put, List.setIfInBounds_toArray, List.set_cons_zero, List.set_cons_succ]
          refine wpAnyH_ready (rs := [3, 5]) (by kernel_rfl) (by simp) ?_
          refine AllReadyH.cons (o := ⟨_, _, _, _, _, _⟩) rfl (fun K hK => ?_) (AllReadyH.cons (o := ⟨_, _, _, _, _, _⟩) rfl (fun K hK => ?_) AllReadyH.nil)
          · have cv := conv_all (c := cA - 4) hrA4
            rw [← HsO.out] at cv
            go_simp
            clear cv
            refine hK.out _ _ (LA) (fun hHeldN => ?_)
            clear hK K hHeld
            have hHeld := hHeldN
            clear hHeldN
            try simp only [Act.put, List.setIfInBounds_toArray, List.set_cons_zero, List.set_cons_succ]
            refine wpAnyH_ready (rs := [5]) (by kernel_rfl) (by simp) ?_
            refine AllReadyH.cons (o := ⟨_, _, _, _, _, _⟩) rfl (fun K hK => ?_) AllReadyH.nil
            go_simp
            go_at_call 12
            refine (rChPut_calls HP.out 1 A len cap bs _ (by omega) (HR.out.below (HB4.out.trans ((Later.bel LA).mono HB4.out.size))) HA.out Hb.out (by omega)).mono ?_
            rintro e wB ⟨vB, rfl, hoB, hbB⟩
            have hlB : (chunkB 1 bs).length = lr := HlrB.out
            rw [hlB] at hoB
            obtain ⟨gB, cB, eB, _, _⟩ := hoB.out.form (by omega)
            subst eB
            obtain ⟨_, _, e9, hcB, hrB⟩ := own_rd hoB.out
            cases e9
            have LB := Later.step LA hbB
            have h8B : (8 : Int) ≤ (cB : Int) := by omega
            have h4B : ¬ cB = 4 := by omega
            have hrB4 := rd_fragS hrB 4 4 (by omega)
            rw [chunkB_sum] at hrB4
            refine hK.out _ _ (LB) (fun hHeldN => ?_)
            clear hK K hHeld
            have hHeld := hHeldN
            clear hHeldN
            try simp only [Act.put, List.setIfInBounds_toArray, List.set_cons_zero, List.set_cons_succ]
            refine wpAnyH_ready (rs := [6]) (by kernel_rfl) (by simp) ?_
            refine AllReadyH.cons (o := ⟨_, _, _, _, _, _⟩) rfl (fun K hK => ?_) AllReadyH.nil
            go_simp
            refine hK.out _ _ (LB) (fun hHeldN => ?_)
            clear hK K hHeld
            have hHeld := hHeldN
            clear hHeldN
            try simp only [Act.put, List.setIfInBounds_toArray, List.set_cons_zero, List.set_cons_succ]
            refine wpAnyH_ready (rs := [7]) (by kernel_rfl) (by simp) ?_
            refine AllReadyH.cons (o := ⟨_, _, _, _, _, _⟩) rfl (fun K hK => ?_) AllReadyH.nil
            have cv := conv_all (c := cB - 4) hrB4
            rw [← HsB.out] at cv
            go_simp
            clear cv
            refine hK.out _ _ (LB) (fun hHeldN => ?_)
            clear hK K hHeld
            have hHeld := hHeldN
            clear hHeldN
            try simp only [Act.put, List.setIfInBounds_toArray, List.set_cons_zero, List.set_cons_succ]
            refine' wpAnyH_take (i := 8) (oi := ⟨_, _, _, _, _, _⟩) (v := _) rfl (by kernel_rfl) (by kernel_rfl) (by kernel_rfl) (fun _ _ _ h => h) (Or.inl ⟨by rfl, ?hyz1_8⟩) (by assumption) ?restz1_8
            case hyz1_8 => (intro w hSw; (try dsimp only at hSw); go_simp; try with_reducible rfl)
            try simp only [Act.put, List.setIfInBounds_toArray, List.set_cons_zero, List.set_cons_succ]
            refine' wpAnyH_take (i := 9) (oi := ⟨_, _, _, _, _, _⟩) (v := _) rfl (by kernel_rfl) (by kernel_rfl) (by kernel_rfl) (fun _ _ _ h => h) (Or.inl ⟨by rfl, ?hyz1_9⟩) (by assumption) ?restz1_9
            case hyz1_9 => (intro w hSw; (try dsimp only at hSw); go_simp; try with_reducible rfl)
            try simp only [Act.put, List.setIfInBounds_toArray, List.set_cons_zero, List.set_cons_succ]
            refine wpAnyH_done (by kernel_rfl) ?_ _
            refine NoPanic.normal ?_
            go_wp2
            go_meet
            exact ⟨_, rfl, Lib.hid (by rw [tl_beq]; simp), Lib.hid (Later.bel LB)⟩
          · go_simp
            go_at_call 12
            refine (rChPut_calls HP.out 1 A len cap bs _ (by omega) (HR.out.below (HB4.out.trans ((Later.bel LA).mono HB4.out.size))) HA.out Hb.out (by omega)).mono ?_
            rintro e wB ⟨vB, rfl, hoB, hbB⟩
            have hlB : (chunkB 1 bs).length = lr := HlrB.out
            rw [hlB] at hoB
            obtain ⟨gB, cB, eB, _, _⟩ := hoB.out.form (by omega)
            subst eB
            obtain ⟨_, _, e9, hcB, hrB⟩ := own_rd hoB.out
            cases e9
            have LB := Later.step LA hbB
            have h8B : (8 : Int) ≤ (cB : Int) := by omega
            have h4B : ¬ cB = 4 := by omega
            have hrB4 := rd_fragS hrB 4 4 (by omega)
            rw [chunkB_sum] at hrB4
            have hrA4' := hrA4.below hbB
            refine hK.out _ _ (LB) (fun hHeldN => ?_)
            clear hK K hHeld
            have hHeld := hHeldN
            clear hHeldN
            try simp only [Act.put, List.setIfInBounds_toArray, List.set_cons_zero, List.set_cons_succ]
            refine wpAnyH_ready (rs := [3, 6]) (by kernel_rfl) (by simp) ?_
            refine AllReadyH.cons (o := ⟨_, _, _, _, _, _⟩) rfl (fun K hK => ?_) (AllReadyH.cons (o := ⟨_, _, _, _, _, _⟩) rfl (fun K hK => ?_) AllReadyH.nil)
            · have cv := conv_all (c := cA - 4) hrA4'
              rw [← HsO.out] at cv
              go_simp
              clear cv
              refine hK.out _ _ (LB) (fun hHeldN => ?_)
              clear hK K hHeld
              have hHeld := hHeldN
              clear hHeldN
              try simp only [Act.put, List.setIfInBounds_toArray, List.set_cons_zero, List.set_cons_succ]
              refine wpAnyH_ready (rs := [6]) (by kernel_rfl) (by simp) ?_
              refine AllReadyH.cons (o := ⟨_, _, _, _, _, _⟩) rfl (fun K hK => ?_) AllReadyH.nil
              go_simp
              refine hK.out _ _ (LB) (fun hHeldN => ?_)
              clear hK K hHeld
              have hHeld := hHeldN
              clear hHeldN
              try simp only [Act.put, List.setIfInBounds_toArray, List.set_cons_zero, List.set_cons_succ]
              refine wpAnyH_ready (rs := [7]) (by kernel_rfl) (by simp) ?_
              refine AllReadyH.cons (o := ⟨_, _, _, _, _, _⟩) rfl (fun K hK => ?_) AllReadyH.nil
              have cv := conv_all (c := cB - 4) hrB4
              rw [← HsB.out] at cv
              go_simp
              clear cv
              refine hK.out _ _ (LB) (fun hHeldN => ?_)
              clear hK K hHeld
              have hHeld := hHeldN
              clear hHeldN
              try simp only [Act.put, List.setIfInBounds_toArray, List.set_cons_zero, List.set_cons_succ]
              refine' wpAnyH_take (i := 8) (oi := ⟨_, _, _, _, _, _⟩) (v := _) rfl (by kernel_rfl) (by kernel_rfl) (by kernel_rfl) (fun _ _ _ h => h) (Or.inl ⟨by rfl, ?hyz2_8⟩) (by assumption) ?restz2_8
              case hyz2_8 => (intro w hSw; (try dsimp only at hSw); go_simp; try with_reducible rfl)
              try simp only [Act.put, List.setIfInBounds_toArray, List.set_cons_zero, List.set_cons_succ]
              refine' wpAnyH_take (i := 9) (oi := ⟨_, _, _, _, _, _⟩) (v := _) rfl (by kernel_rfl) (by kernel_rfl) (by kernel_rfl) (fun _ _ _ h => h) (Or.inl ⟨by rfl, ?hyz2_9⟩) (by assumption) ?restz2_9
              case hyz2_9 => (intro w hSw; (try dsimp only at hSw); go_simp; try with_reducible rfl)
              try simp only [Act.put, List.setIfInBounds_toArray, List.set_cons_zero, List.set_cons_succ]
              refine wpAnyH_done (by kernel_rfl) ?_ _
              refine NoPanic.normal ?_
              go_wp2
              go_meet
              exact ⟨_, rfl, Lib.hid (by rw [tl_beq]; simp), Lib.hid (Later.bel LB)⟩
            · go_simp
              refine hK.out _ _ (LB) (fun hHeldN => ?_)
              clear hK K hHeld
              have hHeld := hHeldN
              clear hHeldN
              try simp only [Act.put, List.setIfInBounds_toArray, List.set_cons_zero, List.set_cons_succ]
              refine wpAnyH_ready (rs := [3, 7]) (by kernel_rfl) (by simp) ?_
              refine AllReadyH.cons (o := ⟨_, _, _, _, _, _⟩) rfl (fun K hK => ?_) (AllReadyH.cons (o := ⟨_, _, _, _, _, _⟩) rfl (fun K hK => ?_) AllReadyH.nil)
              · have cv := conv_all (c := cA - 4) hrA4'
                rw [← HsO.out] at cv
                go_simp
                clear cv
                refine hK.out _ _ (LB) (fun hHeldN => ?_)
                clear hK K hHeld
                have hHeld := hHeldN
                clear hHeldN
                try simp only [Act.put, List.setIfInBounds_toArray, List.set_cons_zero, List.set_cons_succ]
                refine wpAnyH_ready (rs := [7]) (by kernel_rfl) (by simp) ?_
                refine AllReadyH.cons (o := ⟨_, _, _, _, _, _⟩) rfl (fun K hK => ?_) AllReadyH.nil
                have cv := conv_all (c := cB - 4) hrB4
                rw [← HsB.out] at cv
                go_simp
                clear cv
                refine hK.out _ _ (LB) (fun hHeldN => ?_)
                clear hK K hHeld
                have hHeld := hHeldN
                clear hHeldN
                try simp only [Act.put, List.setIfInBounds_toArray, List.set_cons_zero, List.set_cons_succ]
                refine' wpAnyH_take (i := 8) (oi := ⟨_, _, _, _, _, _⟩) (v := _) rfl (by kernel_rfl) (by kernel_rfl) (by kernel_rfl) (fun _ _ _ h => h) (Or.inl ⟨by rfl, ?hyz3_8⟩) (by assumption) ?restz3_8
                case hyz3_8 => (intro w hSw; (try dsimp only at hSw); go_simp; try with_reducible rfl)
                try simp only [Act.put, List.setIfInBounds_toArray, List.set_cons_zero, List.set_cons_succ]
                refine' wpAnyH_take (i := 9) (oi := ⟨_, _, _, _, _, _⟩) (v := _) rfl (by kernel_rfl) (by kernel_rfl) (by kernel_rfl) (fun _ _ _ h => h) (Or.inl ⟨by rfl, ?hyz3_9⟩) (by assumption) ?restz3_9
                case hyz3_9 => (intro w hSw; (try dsimp only at hSw); go_simp; try with_reducible rfl)
                try simp only [Act.put, List.setIfInBounds_toArray, List.set_cons_zero, List.set_cons_succ]
                refine wpAnyH_done (by kernel_rfl) ?_ _
                refine NoPanic.normal ?_
                go_wp2
                go_meet
                exact ⟨_, rfl, Lib.hid (by rw [tl_beq]; simp), Lib.hid (Later.bel LB)⟩
              · have cv := conv_all (c := cB - 4) hrB4
                rw [← HsB.out] at cv
                go_simp
                clear cv
                refine hK.out _ _ (LB) (fun hHeldN => ?_)
                clear hK K hHeld
                have hHeld := hHeldN
                clear hHeldN
                try simp only [Act.put, List.setIfInBounds_toArray, List.set_cons_zero, List.set_cons_succ]
                refine wpAnyH_ready (rs := [3]) (by kernel_rfl) (by simp) ?_
                refine AllReadyH.cons (o := ⟨_, _, _, _, _, _⟩) rfl (fun K hK => ?_) AllReadyH.nil
                have cv := conv_all (c := cA - 4) hrA4'
                rw [← HsO.out] at cv
                go_simp
                clear cv
                refine hK.out _ _ (LB) (fun hHeldN => ?_)
                clear hK K hHeld
                have hHeld := hHeldN
                clear hHeldN
                try simp only [Act.put, List.setIfInBounds_toArray, List.set_cons_zero, List.set_cons_succ]
                refine' wpAnyH_take (i := 8) (oi := ⟨_, _, _, _, _, _⟩) (v := _) rfl (by kernel_rfl) (by kernel_rfl) (by kernel_rfl) (fun _ _ _ h => h) (Or.inl ⟨by rfl, ?hyz4_8⟩) (by assumption) ?restz4_8
                case hyz4_8 => (intro w hSw; (try dsimp only at hSw); go_simp; try with_reducible rfl)
                try simp only [Act.put, List.setIfInBounds_toArray, List.set_cons_zero, List.set_cons_succ]
                refine' wpAnyH_take (i := 9) (oi := ⟨_, _, _, _, _, _⟩) (v := _) rfl (by kernel_rfl) (by kernel_rfl) (by kernel_rfl) (fun _ _ _ h => h) (Or.inl ⟨by rfl, ?hyz4_9⟩) (by assumption) ?restz4_9
                case hyz4_9 => (intro w hSw; (try dsimp only at hSw); go_simp; try with_reducible rfl)
                try simp only [Act.put, List.setIfInBounds_toArray, List.set_cons_zero, List.set_cons_succ]
                refine wpAnyH_done (by kernel_rfl) ?_ _
                refine NoPanic.normal ?_
                go_wp2
                go_meet
                exact ⟨_, rfl, Lib.hid (by rw [tl_beq]; simp), Lib.hid (Later.bel LB)⟩
        · go_simp
          go_at_call 12
          refine (rChPut_calls HP.out 1 A len cap bs _ (by omega) (HR.out.below (HB4.out.trans ((Later.bel LA).mono HB4.out.size))) HA.out Hb.out (by omega)).mono ?_
          rintro e wB ⟨vB, rfl, hoB, hbB⟩
          have hlB : (chunkB 1 bs).length = lr := HlrB.out
          rw [hlB] at hoB
          obtain ⟨gB, cB, eB, _, _⟩ := hoB.out.form (by omega)
          subst eB
          obtain ⟨_, _, e9, hcB, hrB⟩ := own_rd hoB.out
          cases e9
          have LB := Later.step LA hbB
          have h8B : (8 : Int) ≤ (cB : Int) := by omega
          have h4B : ¬ cB = 4 := by omega
          have hrB4 := rd_fragS hrB 4 4 (by omega)
          rw [chunkB_sum] at hrB4
          have hrA4' := hrA4.below hbB
          refine hK.out _ _ (LB) (fun hHeldN => ?_)
          clear hK K hHeld
          have hHeld := hHeldN
          clear hHeldN
          try simp only [Act.put, List.setIfInBounds_toArray, List.set_cons_zero, List.set_cons_succ]
          refine wpAnyH_ready (rs := [2, 6]) (by kernel_rfl) (by simp) ?_
          refine AllReadyH.cons (o := ⟨_, _, _, _, _, _⟩) rfl (fun K hK => ?_) (AllReadyH.cons (o := ⟨_, _, _, _, _, _⟩) rfl (fun K hK => ?_) AllReadyH.nil)
          · go_simp
            refine hK.out _ _ (LB) (fun hHeldN => ?_)
            clear hK K hHeld
            have hHeld := hHeldN
            clear hHeldN
            try simp only [Act.put, List.setIfInBounds_toArray, List.set_cons_zero, List.set_cons_succ]
            refine wpAnyH_ready (rs := [3, 6]) (by kernel_rfl) (by simp) ?_
            refine AllReadyH.cons (o := ⟨_, _, _, _, _, _⟩) rfl (fun K hK => ?_) (AllReadyH.cons (o := ⟨_, _, _, _, _, _⟩) rfl (fun K hK => ?_) AllReadyH.nil)
            · have cv := conv_all (c := cA - 4) hrA4'
              rw [← HsO.out] at cv
              go_simp
              clear cv
              refine hK.out _ _ (LB) (fun hHeldN => ?_)
              clear hK K hHeld
              have hHeld := hHeldN
              clear hHeldN
              try simp only [Act.put, List.setIfInBounds_toArray, List.set_cons_zero, List.set_cons_succ]
              refine wpAnyH_ready (rs := [6]) (by kernel_rfl) (by simp) ?_
              refine AllReadyH.cons (o := ⟨_, _, _, _, _, _⟩) rfl (fun K hK => ?_) AllReadyH.nil
              go_simp
              refine hK.out _ _ (LB) (fun hHeldN => ?_)
              clear hK K hHeld
              have hHeld := hHeldN
              clear hHeldN
              try simp only [Act.put, List.setIfInBounds_toArray, List.set_cons_zero, List.set_cons_succ]
              refine wpAnyH_ready (rs := [7]) (by kernel_rfl) (by simp) ?_
              refine AllReadyH.cons (o := ⟨_, _, _, _, _, _⟩) rfl (fun K hK => ?_) AllReadyH.nil
              have cv := conv_all (c := cB - 4) hrB4
              rw [← HsB.out] at cv
              go_simp
              clear cv
              refine hK.out _ _ (LB) (fun hHeldN => ?_)
              clear hK K hHeld
              have hHeld := hHeldN
              clear hHeldN
              try simp only [Act.put, List.setIfInBounds_toArray, List.set_cons_zero, List.set_cons_succ]
              refine' wpAnyH_take (i := 8) (oi := ⟨_, _, _, _, _, _⟩) (v := _) rfl (by kernel_rfl) (by kernel_rfl) (by kernel_rfl) (fun _ _ _ h => h) (Or.inl ⟨by rfl, ?hyz5_8⟩) (by assumption) ?restz5_8
              case hyz5_8 => (intro w hSw; (try dsimp only at hSw); go_simp; try with_reducible rfl)
              try simp only [Act.put, List.setIfInBounds_toArray, List.set_cons_zero, List.set_cons_succ]
              refine' wpAnyH_take (i := 9) (oi := ⟨_, _, _, _, _, _⟩) (v := _) rfl (by kernel_rfl) (by kernel_rfl) (by kernel_rfl) (fun _ _ _ h => h) (Or.inl ⟨by rfl, ?hyz5_9⟩) (by assumption) ?restz5_9
              case hyz5_9 => (intro w hSw; (try dsimp only at hSw); go_simp; try with_reducible rfl)
              try simp only [Act.put, List.setIfInBounds_toArray, List.set_cons_zero, List.set_cons_succ]
              refine wpAnyH_done (by kernel_rfl) ?_ _
              refine NoPanic.normal ?_
              go_wp2
              go_meet
              exact ⟨_, rfl, Lib.hid (by rw [tl_beq]; simp), Lib.hid (Later.bel LB)⟩
            · go_simp
              refine hK.out _ _ (LB) (fun hHeldN => ?_)
              clear hK K hHeld
              have hHeld := hHeldN
              clear hHeldN
              try simp only [Act.put, List.setIfInBounds_toArray, List.set_cons_zero, List.set_cons_succ]
              refine wpAnyH_ready (rs := [3, 7]) (by kernel_rfl) (by simp) ?_
              refine AllReadyH.cons (o := ⟨_, _, _, _, _, _⟩) rfl (fun K hK => ?_) (AllReadyH.cons (o := ⟨_, _, _, _, _, _⟩) rfl (fun K hK => ?_) AllReadyH.nil)
              · have cv := conv_all (c := cA - 4) hrA4'
                rw [← HsO.out] at cv
                go_simp
                clear cv
                refine hK.out _ _ (LB) (fun hHeldN => ?_)
                clear hK K hHeld
                have hHeld := hHeldN
                clear hHeldN
                try simp only [Act.put, List.setIfInBounds_toArray, List.set_cons_zero, List.set_cons_succ]
                refine wpAnyH_ready (rs := [7]) (by kernel_rfl) (by simp) ?_
                refine AllReadyH.cons (o := ⟨_, _, _, _, _, _⟩) rfl (fun K hK => ?_) AllReadyH.nil
                have cv := conv_all (c := cB - 4) hrB4
                rw [← HsB.out] at cv
                go_simp
                clear cv
                refine hK.out _ _ (LB) (fun hHeldN => ?_)
                clear hK K hHeld
                have hHeld := hHeldN
                clear hHeldN
                try simp only [Act.put, List.setIfInBounds_toArray, List.set_cons_zero, List.set_cons_succ]
                refine' wpAnyH_take (i := 8) (oi := ⟨_, _, _, _, _, _⟩) (v := _) rfl (by kernel_rfl) (by kernel_rfl) (by kernel_rfl) (fun _ _ _ h => h) (Or.inl ⟨by rfl, ?hyz6_8⟩) (by assumption) ?restz6_8
                case hyz6_8 => (intro w hSw; (try dsimp only at hSw); go_simp; try with_reducible rfl)
                try simp only [Act.put, List.setIfInBounds_toArray, List.set_cons_zero, List.set_cons_succ]
                refine' wpAnyH_take (i := 9) (oi := ⟨_, _, _, _, _, _⟩) (v := _) rfl (by kernel_rfl) (by kernel_rfl) (by kernel_rfl) (fun _ _ _ h => h) (Or.inl ⟨by rfl, ?hyz6_9⟩) (by assumption) ?restz6_9
                case hyz6_9 => (intro w hSw; (try dsimp only at hSw); go_simp; try with_reducible rfl)
                try simp only [Act.put, List.setIfInBounds_toArray, List.set_cons_zero, List.set_cons_succ]
                refine wpAnyH_done (by kernel_rfl) ?_ _
                refine NoPanic.normal ?_
                go_wp2
                go_meet
                exact ⟨_, rfl, Lib.hid (by rw [tl_beq]; simp), Lib.hid (Later.bel LB)⟩
              · have cv := conv_all (c := cB - 4) hrB4
                rw [← HsB.out] at cv
                go_simp
                clear cv
                refine hK.out _ _ (LB) (fun hHeldN => ?_)
                clear hK K hHeld
                have hHeld := hHeldN
                clear hHeldN
                try simp only [Act.put, List.setIfInBounds_toArray, List.set_cons_zero, List.set_cons_succ]
                refine wpAnyH_ready (rs := [3]) (by kernel_rfl) (by simp) ?_
                refine AllReadyH.cons (o := ⟨_, _, _, _, _, _⟩) rfl (fun K hK => ?_) AllReadyH.nil
                have cv := conv_all (c := cA - 4) hrA4'
                rw [← HsO.out] at cv
                go_simp
                clear cv
                refine hK.out _ _ (LB) (fun hHeldN => ?_)
                clear hK K hHeld
                have hHeld := hHeldN
                clear hHeldN
                try simp only [Act.put, List.setIfInBounds_toArray, List.set_cons_zero, List.set_cons_succ]
                refine' wpAnyH_take (i := 8) (oi := ⟨_, _, _, _, _, _⟩) (v := _) rfl (by kernel_rfl) (by kernel_rfl) (by kernel_rfl) (fun _ _ _ h => h) (Or.inl ⟨by rfl, ?hyz7_8⟩) (by assumption) ?restz7_8
                case hyz7_8 => (intro w hSw; (try dsimp only at hSw); go_simp; try with_reducible rfl)
                try simp only [Act.put, List.setIfInBounds_toArray, List.set_cons_zero, List.set_cons_succ]
                refine' wpAnyH_take (i := 9) (oi := ⟨_, _, _, _, _, _⟩) (v := _) rfl (by kernel_rfl) (by kernel_rfl) (by kernel_rfl) (fun _ _ _ h => h) (Or.inl ⟨by rfl, ?hyz7_9⟩) (by assumption) ?restz7_9
                case hyz7_9 => (intro w hSw; (try dsimp only at hSw); go_simp; try with_reducible rfl)
                try simp only [Act.put, List.setIfInBounds_toArray, List.set_cons_zero, List.set_cons_succ]
                refine wpAnyH_done (by kernel_rfl) ?_ _
                refine NoPanic.normal ?_
                go_wp2
                go_meet
                exact ⟨_, rfl, Lib.hid (by rw [tl_beq]; simp), Lib.hid (Later.bel LB)⟩
          · go_simp
            refine hK.out _ _ (LB) (fun hHeldN => ?_)
            clear hK K hHeld
            have hHeld := hHeldN
            clear hHeldN
            try simp only [Act.put, List.setIfInBounds_toArray, List.set_cons_zero, List.set_cons_succ]
            refine wpAnyH_ready (rs := [2, 7]) (by kernel_rfl) (by simp) ?_
            refine AllReadyH.cons (o := ⟨_, _, _, _, _, _⟩) rfl (fun K hK => ?_) (AllReadyH.cons (o := ⟨_, _, _, _, _, _⟩) rfl (fun K hK => ?_) AllReadyH.nil)
            · go_simp
              refine hK.out _ _ (LB) (fun hHeldN => ?_)
              clear hK K hHeld
              have hHeld := hHeldN
              clear hHeldN
              try simp only [Act.put, List.setIfInBounds_toArray, List.set_cons_zero, List.set_cons_succ]
              refine wpAnyH_ready (rs := [3, 7]) (by kernel_rfl) (by simp) ?_
              refine AllReadyH.cons (o := ⟨_, _, _, _, _, _⟩) rfl (fun K hK => ?_) (AllReadyH.cons (o := ⟨_, _, _, _, _, _⟩) rfl (fun K hK => ?_) AllReadyH.nil)
              · have cv := conv_all (c := cA - 4) hrA4'
                rw [← HsO.out] at cv
                go_simp
                clear cv
                refine hK.out _ _ (LB) (fun hHeldN => ?_)
                clear hK K hHeld
                have hHeld := hHeldN
                clear hHeldN
                try simp only [Act.put, List.setIfInBounds_toArray, List.set_cons_zero, List.set_cons_succ]
                refine wpAnyH_ready (rs := [7]) (by kernel_rfl) (by simp) ?_
                refine AllReadyH.cons (o := ⟨_, _, _, _, _, _⟩) rfl (fun K hK => ?_) AllReadyH.nil
                have cv := conv_all (c := cB - 4) hrB4
                rw [← HsB.out] at cv
                go_simp
                clear cv
                refine hK.out _ _ (LB) (fun hHeldN => ?_)
                clear hK K hHeld
                have hHeld := hHeldN
                clear hHeldN
                try simp only [Act.put, List.setIfInBounds_toArray, List.set_cons_zero, List.set_cons_succ]
                refine' wpAnyH_take (i := 8) (oi := ⟨_, _, _, _, _, _⟩) (v := _) rfl (by kernel_rfl) (by kernel_rfl) (by kernel_rfl) (fun _ _ _ h => h) (Or.inl ⟨by rfl, ?hyz8_8⟩) (by assumption) ?restz8_8
                case hyz8_8 => (intro w hSw; (try dsimp only at hSw); go_simp; try with_reducible rfl)
                try simp only [Act.put, List.setIfInBounds_toArray, List.set_cons_zero, List.set_cons_succ]
                refine' wpAnyH_take (i := 9) (oi := ⟨_, _, _, _, _, _⟩) (v := _) rfl (by kernel_rfl) (by kernel_rfl) (by kernel_rfl) (fun _ _ _ h => h) (Or.inl ⟨by rfl, ?hyz8_9⟩) (by assumption) ?restz8_9
                case hyz8_9 => (intro w hSw; (try dsimp only at hSw); go_simp; try with_reducible rfl)
                try simp only [Act.put, List.setIfInBounds_toArray, List.set_cons_zero, List.set_cons_succ]
                refine wpAnyH_done (by kernel_rfl) ?_ _
                refine NoPanic.normal ?_
                go_wp2
                go_meet
                exact ⟨_, rfl, Lib.hid (by rw [tl_beq]; simp), Lib.hid (Later.bel LB)⟩
              · have cv := conv_all (c := cB - 4) hrB4
                rw [← HsB.out] at cv
                go_simp
                clear cv
                refine hK.out _ _ (LB) (fun hHeldN => ?_)
                clear hK K hHeld
                have hHeld := hHeldN
                clear hHeldN
                try simp only [Act.put, List.setIfInBounds_toArray, List.set_cons_zero, List.set_cons_succ]
                refine wpAnyH_ready (rs := [3]) (by kernel_rfl) (by simp) ?_
                refine AllReadyH.cons (o := ⟨_, _, _, _, _, _⟩) rfl (fun K hK => ?_) AllReadyH.nil
                have cv := conv_all (c := cA - 4) hrA4'
                rw [← HsO.out] at cv
                go_simp
                clear cv
                refine hK.out _ _ (LB) (fun hHeldN => ?_)
                clear hK K hHeld
                have hHeld := hHeldN
                clear hHeldN
                try simp only [Act.put, List.setIfInBounds_toArray, List.set_cons_zero, List.set_cons_succ]
                refine' wpAnyH_take (i := 8) (oi := ⟨_, _, _, _, _, _⟩) (v := _) rfl (by kernel_rfl) (by kernel_rfl) (by kernel_rfl) (fun _ _ _ h => h) (Or.inl ⟨by rfl, ?hyz9_8⟩) (by assumption) ?restz9_8
                case hyz9_8 => (intro w hSw; (try dsimp only at hSw); go_simp; try with_reducible rfl)
                try simp only [Act.put, List.setIfInBounds_toArray, List.set_cons_zero, List.set_cons_succ]
                refine' wpAnyH_take (i := 9) (oi := ⟨_, _, _, _, _, _⟩) (v := _) rfl (by kernel_rfl) (by kernel_rfl) (by kernel_rfl) (fun _ _ _ h => h) (Or.inl ⟨by rfl, ?hyz9_9⟩) (by assumption) ?restz9_9
                case hyz9_9 => (intro w hSw; (try dsimp only at hSw); go_simp; try with_reducible rfl)
                try simp only [Act.put, List.setIfInBounds_toArray, List.set_cons_zero, List.set_cons_succ]
                refine wpAnyH_done (by kernel_rfl) ?_ _
                refine NoPanic.normal ?_
                go_wp2
                go_meet
                exact ⟨_, rfl, Lib.hid (by rw [tl_beq]; simp), Lib.hid (Later.bel LB)⟩
            · have cv := conv_all (c := cB - 4) hrB4
              rw [← HsB.out] at cv
              go_simp
              clear cv
              refine hK.out _ _ (LB) (fun hHeldN => ?_)
              clear hK K hHeld
              have hHeld := hHeldN
              clear hHeldN
              try simp only [Act.put, List.setIfInBounds_toArray, List.set_cons_zero, List.set_cons_succ]
              refine wpAnyH_ready (rs := [2]) (by kernel_rfl) (by simp) ?_
              refine AllReadyH.cons (o := ⟨_, _, _, _, _, _⟩) rfl (fun K hK => ?_) AllReadyH.nil
              go_simp
              refine hK.out _ _ (LB) (fun hHeldN => ?_)
              clear hK K hHeld
              have hHeld := hHeldN
              clear hHeldN
              try simp only [Act.put, List.setIfInBounds_toArray, List.set_cons_zero, List.set_cons_succ]
              refine wpAnyH_ready (rs := [3]) (by kernel_rfl) (by simp) ?_
              refine AllReadyH.cons (o := ⟨_, _, _, _, _, _⟩) rfl (fun K hK => ?_) AllReadyH.nil
              have cv := conv_all (c := cA - 4) hrA4'
              rw [← HsO.out] at cv
              go_simp
              clear cv
              refine hK.out _ _ (LB) (fun hHeldN => ?_)
              clear hK K hHeld
              have hHeld := hHeldN
              clear hHeldN
              try simp only [Act.put, List.setIfInBounds_toArray, List.set_cons_zero, List.set_cons_succ]
              refine' wpAnyH_take (i := 8) (oi := ⟨_, _, _, _, _, _⟩) (v := _) rfl (by kernel_rfl) (by kernel_rfl) (by kernel_rfl) (fun _ _ _ h => h) (Or.inl ⟨by rfl, ?hyz10_8⟩) (by assumption) ?restz10_8
              case hyz10_8 => (intro w hSw; (try dsimp only at hSw); go_simp; try with_reducible rfl)
              try simp only [Act.put, List.setIfInBounds_toArray, List.set_cons_zero, List.set_cons_succ]
              refine' wpAnyH_take (i := 9) (oi := ⟨_, _, _, _, _, _⟩) (v := _) rfl (by kernel_rfl) (by kernel_rfl) (by kernel_rfl) (fun _ _ _ h => h) (Or.inl ⟨by rfl, ?hyz10_9⟩) (by assumption) ?restz10_9
              case hyz10_9 => (intro w hSw; (try dsimp only at hSw); go_simp; try with_reducible rfl)
              try simp only [Act.put, List.setIfInBounds_toArray, List.set_cons_zero, List.set_cons_succ]
              refine wpAnyH_done (by kernel_rfl) ?_ _
              refine NoPanic.normal ?_
              go_wp2
              go_meet
              exact ⟨_, rfl, Lib.hid (by rw [tl_beq]; simp), Lib.hid (Later.bel LB)⟩
        --E7
    case rest =>
      obtain ⟨q, rfl, HQ, HX7⟩ := hcut
      obtain ⟨w7, hw7⟩ : ∃ W, W = wc := ⟨_, rfl⟩
      subst hw7
      have HB7 := Lib.hid (below_seq HB4.out (Nat.le_refl _) HX7.out)
      have Hr7 := Lib.hid (Hr2.out.below (below_seq HX4.out (Nat.le_refl _) HX7.out))
      have hsame : Hid (q = true ↔ sumB 1 O = sumB 1 bs) := Lib.hid (HQ.out.trans (by rw [HsO.out, HsB.out]; exact ⟨strOf_sum (sumB_byte _ _) (sumB_byte _ _), fun h => by rw [h]⟩))
      obtain ⟨d, hd⟩ : ∃ d, d = lr - len := ⟨_, rfl⟩
      obtain ⟨i9, hi9⟩ : ∃ i, i = d + k := ⟨_, rfl⟩
      have hd1 : IntKind.i64.wrap ((lr : Int) - (len : Int)) = (d : Int) := by rw [IntWalk.i64_in _ (by omega)]; omega
      have hd2 : IntKind.i64.wrap ((d : Int) + (k : Int)) = (i9 : Int) := by rw [IntWalk.i64_in _ (by omega)]; omega
      have hi9l : i9 < lr := by omega
      have hi9e : Hid (i9 = lr - len + k) := Lib.hid (by omega)
      clear hd hi9 HQ
      go_wp2_with (at_builtin; refine wpList_appRd rfl _ _ rfl elBy (ys := []) (own_lit0 w7 _) rfl rfl (Hr7.out.alloc _) Hnn2.out (by omega) (by simp) ?_; intro v8 w8 ho8 hg8; rw [Nat.zero_add, List.nil_append] at ho8; have hb8 : Below w7.heap.size w7 w8 := ((Below.refl _ _).alloc (Nat.le_refl _) _).grown hg8 (by simp) (fun k hk => by simp [Value.ownBlock] at hk; omega); obtain ⟨g8, c8, e8, hgb8, _⟩ := ho8.form (show 0 < lr by omega); subst e8; have z8 := ho8.cellAt i9 (by omega); rw [ints_get (by rw [← Hlr.out]; exact hi9l)] at z8; have f8 := ho8.frozenAt i9; have HO8 := Lib.hid ho8; have HX8 := Lib.hid hb8; clear ho8 hg8 hb8)
      obtain ⟨y9, hy9⟩ : ∃ y, y = bits .xor .u8 (rd R i9) b' := ⟨_, rfl⟩
      obtain ⟨w9, hw9⟩ : ∃ X, X = w8.setCell ⟨g8, i9, none⟩ (.int .u8 y9) := ⟨_, rfl⟩
      rw [← hy9, ← hw9]
      have ho9 := own_store HO8.out i9 (.int .u8 y9)
      rw [← ints_set, ← hw9] at ho9
      have hb9 : Below w7.heap.size w7 w9 := by rw [hw9]; exact HX8.out.setCell (p := ⟨g8, i9, none⟩) hgb8 _
      have hyy : y9 = y := by rw [hy9, Hy.out, HRR.out, hi9e.out, Hlr.out, HRR.out, ← Hl.out, content_rd]
      have hR9 : R.set i9 y9 = withSum 1 (sumB 1 bs) O := by rw [hyy, HRR.out, hi9e.out, Hlr.out, HRR.out, ← Hl.out, with_content, ← HO.out]
      rw [hR9] at ho9
      obtain ⟨_, _, e9, hc8, hr9⟩ := own_rd ho9
      cases e9
      have hnw := next_with (k := 1) (s := sumB 1 bs) (c := O) (sumB_length _ _) (.inl rfl) (by rw [HlO.out]; omega)
      have hbw : ∀ x ∈ withSum 1 (sumB 1 bs) O, 0 ≤ x ∧ x ≤ 255 := by
        rw [← hR9]
        exact set_byte HRb.out (by rw [hyy, Hy.out]; exact xor_byte Hkb.out Hby.out)
      have Hnw := Lib.hid hnw
      have HB9 := Lib.hid (below_seq HB7.out (Nat.le_refl _) hb9)
      have HX9 := Lib.hid hb9
      clear hy9 hw9 ho9 hb9 hyy hR9 hnw z8 f8 hd1 hd2
      refine (ChNext_calls (some ⟨g8, 0, none⟩) lr c8 _ w9 hr9 (fun e => by cases e) hc8 hbw (by omega) (HT.out.below HB9.out).keys (HT.out.below HB9.out).beg (HT.out.below HB9.out).mag).mono ?_
      rintro e w10 ⟨K, A10, n10, c10, C, M, E, rfl, HN, HO10, hb10⟩
      have hME : (q = true → E = 0 ∧ M = lr) ∧ (q = false → E = 7 ∧ M = 0) := by
        constructor
        · intro hq
          obtain ⟨_, _, hM, hE⟩ := HN.out.same (Hnw.out.1 (hsame.out.1 hq))
          exact ⟨hE, by rw [hM, HlO.out, ← HlrB.out, chunkB_length, Hl.out]⟩
        · intro hq
          obtain ⟨_, _, hM, hE⟩ := HN.out.same (Hnw.out.2 (fun e => by have := hsame.out.2 e; rw [hq] at this; cases this))
          exact ⟨hE, hM⟩
      have HME := Lib.hid hME
      have HB10 := Lib.hid (below_seq HB9.out (Nat.le_refl _) hb10)
      have HX10 := Lib.hid (below_seq HX9.out (Nat.le_refl _) hb10)
      clear hME HN HO10 hb10 hr9 hbw Hnw
      go_upto_region 11 with fail
      obtain ⟨w11, hw11⟩ : ∃ X, X = w10.alloc (.cells #[.int .i64 K, .slice A10 n10 c10] 26) := ⟨_, rfl⟩
      have hb11 : Below w10.heap.size w10 w11 := by rw [hw11]; exact (Below.refl _ _).alloc (Nat.le_refl _) _
      rw [← hw11]
      have HB11 := Lib.hid (below_seq HB10.out (Nat.le_refl _) hb11)
      have Hr11 := Lib.hid (Hr7.out.below (below_seq HX10.out (Nat.le_refl _) hb11))
      clear hw11 hb11
      obtain ⟨r, hr⟩ : ∃ r, r = k % 4 := ⟨_, rfl⟩
      have hr4 : r < 4 := by omega
      have hm4 : (k : Int) % 4 = (r : Int) := by omega
      obtain ⟨i12, hi12⟩ : ∃ i, i = 4 + r := ⟨_, rfl⟩
      have hi12i : IntKind.i64.wrap (4 + (r : Int)) = (i12 : Int) := by rw [IntWalk.i64_in _ (by omega)]; omega
      have hi12l : i12 < lr := by omega
      have Hi12 := Lib.hid hi12
      clear hi12 hr
      go_wp2_with (at_builtin; refine wpList_appRd rfl _ _ rfl elBy (ys := []) (own_lit0 w11 _) rfl rfl (Hr11.out.alloc _) Hnn2.out (by omega) (by simp) ?_; intro v12 w12 ho12 hg12; rw [Nat.zero_add, List.nil_append] at ho12; have hb12 : Below w11.heap.size w11 w12 := ((Below.refl _ _).alloc (Nat.le_refl _) _).grown hg12 (by simp) (fun k hk => by simp [Value.ownBlock] at hk; omega); obtain ⟨g12, c12, e12, hgb12, _⟩ := ho12.form (show 0 < lr by omega); subst e12; have z12 := ho12.cellAt i12 (by omega); rw [ints_get (by rw [← Hlr.out]; exact hi12l)] at z12; have f12 := ho12.frozenAt i12; have HO12 := Lib.hid ho12; have HX12 := Lib.hid hb12; clear ho12 hg12 hb12)
      obtain ⟨y13, hy13⟩ : ∃ y, y = bits .xor .u8 (rd R i12) b' := ⟨_, rfl⟩
      obtain ⟨w13, hw13⟩ : ∃ X, X = w12.setCell ⟨g12, i12, none⟩ (.int .u8 y13) := ⟨_, rfl⟩
      rw [← hy13, ← hw13]
      have ho13 := own_store HO12.out i12 (.int .u8 y13)
      rw [← ints_set, ← hw13] at ho13
      have hb13 : Below w11.heap.size w11 w13 := by rw [hw13]; exact HX12.out.setCell (p := ⟨g12, i12, none⟩) hgb12 _
      have hR13 : R.set i12 y13 = withSum 1 ((sumB 1 bs).set r y13) bs := by rw [HRR.out, Hi12.out, with_sum 1 bs hr4]
      have hRi := HRb.out (rd R i12) (by rw [rd_getElem (by rw [← Hlr.out]; exact hi12l)]; exact List.getElem_mem _)
      have hyb13 : 0 ≤ y13 ∧ y13 ≤ 255 := by rw [hy13]; exact xor_byte hRi Hby.out
      have hne : sumB 1 bs ≠ (sumB 1 bs).set r y13 := by
        refine sum_ne (by rw [sumB_length]; exact hr4) ?_
        rw [hy13, HRR.out, Hi12.out, sum_rd 1 bs hr4]
        rw [HRR.out, Hi12.out, sum_rd 1 bs hr4] at hRi
        exact xor_ne hRi Hby.out hb0
      rw [hR13] at ho13
      obtain ⟨_, _, e13, hc13, hr13⟩ := own_rd ho13
      cases e13
      have hnw := (next_with (k := 1) (s := (sumB 1 bs).set r y13) (c := bs) (by rw [List.length_set, sumB_length]) (.inl rfl) (by rw [Hl.out]; omega)).2 hne
      have hbw : ∀ x ∈ withSum 1 ((sumB 1 bs).set r y13) bs, 0 ≤ x ∧ x ≤ 255 := by
        rw [← hR13]
        exact set_byte HRb.out hyb13
      have Hnw := Lib.hid hnw
      have HB13 := Lib.hid (below_seq HB11.out (Nat.le_refl _) hb13)
      clear hy13 hw13 ho13 hb13 hR13 hRi hyb13 hne hnw z12 f12 hi12i
      refine (ChNext_calls (some ⟨g12, 0, none⟩) lr c12 _ w13 hr13 (fun e => by cases e) hc13 hbw (by omega) (HT.out.below HB13.out).keys (HT.out.below HB13.out).beg (HT.out.below HB13.out).mag).mono ?_
      rintro e w14 ⟨K2, A14, n14, c14, C2, M2, E2, rfl, HN, HO14, hb14⟩
      obtain ⟨rfl, rfl, rfl, rfl⟩ := HN.out.same Hnw.out
      have HB14 := Lib.hid (below_seq HB13.out (Nat.le_refl _) hb14)
      clear HN HO14 hb14 hr13 hbw Hnw
      go_upto_region 14 with fail
      obtain ⟨w15, hw15⟩ : ∃ X, X = w14.alloc (.cells #[.int .i64 0, .slice A14 n14 c14] 26) := ⟨_, rfl⟩
      have hb15 : Below w14.heap.size w14 w15 := by rw [hw15]; exact (Below.refl _ _).alloc (Nat.le_refl _) _
      rw [← hw15]
      have HB15 := Lib.hid (below_seq HB14.out (Nat.le_refl _) hb15)
      clear hw15 hb15
      cases q
      · obtain ⟨rfl, rfl⟩ := HME.out.2 rfl
        go_wp2_with fail
        go_ret
        exact ⟨rfl, HB15.out⟩
      · obtain ⟨rfl, rfl⟩ := HME.out.1 rfl
        have hM0 : ((M : Int) == 0) = false := by simp; omega
        go_wp2_with fail
        go_ret
        exact ⟨rfl, HB15.out⟩
  · by_cases hle : len ≤ 900
    · by_cases h0 : len = 0
      · have q0 : ((len : Int) == 0) = true := by simp; omega
        go_wp2_with fail
        refine (awake22_calls _ (HT.out.below HB1.out)).mono ?_
        rintro e w2 ⟨rfl, hb2⟩
        have H2 := Lib.hid (below_seq HB1.out (Nat.le_refl _) hb2)
        clear hb2
        go_wp2
        go_ret
        exact ⟨rfl, H2.out⟩
      · have q0 : ((len : Int) == 0) = false := by simp; omega
        obtain rfl : b' = 0 := Classical.not_not.1 (fun h => hall ⟨hle, h0, h⟩)
        go_wp2_with fail
        refine (awake22_calls _ (HT.out.below HB1.out)).mono ?_
        rintro e w2 ⟨rfl, hb2⟩
        have H2 := Lib.hid (below_seq HB1.out (Nat.le_refl _) hb2)
        clear hb2
        go_wp2
        go_ret
        exact ⟨rfl, H2.out⟩
    · go_wp2_with fail
      refine (awake22_calls _ (HT.out.below HB1.out)).mono ?_
      rintro e w2 ⟨rfl, hb2⟩
      have H2 := Lib.hid (below_seq HB1.out (Nat.le_refl _) hb2)
      clear hb2
      go_wp2
      go_ret
      exact ⟨rfl, H2.out⟩
theorem ChunkSums_walk (A : Option Addr) (len cap : Nat) (z : List Int) (at' b' : Int) (w : World) (h : IsRow .u8 w A len cap z) (y : len * 1 ≤ 140737488351232) (h2 : (Lit.int .u16 at').wf = true) (h3 : (Lit.int .u8 b').wf = true) (hL : Tabs22 w) :
    Calls Tryd.prog 5 #[.slice A len cap, .int .u16 at', .int .u8 b'] w fun e w' => e = .returned (.bool true) ∧ Below w.heap.size w w' :=
  ChunkSums_calls (rPlain_of rSha_calls) A len cap (z.take len) at' b' w h.rd (isRow_byte h) (isRow_nil h) (isRow_le h) (by omega) (u16_of_wf h2) (u8_of_wf h3) hL
end Go.Proofs.YtendohnkhbgfbaaDoor
