/-
  Texts joined into one file: Less, RTable, ChgR, HeadBack.
-/
import Derived.Test.YtdbkbeojedndbaaJHeadG2
import Derived.Deep.RegionWith
import Derived.Test.YtdbkbeojedndbaaJHeadG7
import Derived.Test.YtdbkbeojedndbaaJAw201
import Derived.Deep.LoopGhost
import Derived.Test.YtdbkbeojedndbaaJAw202
import Derived.Lib.SmallJoins
import Derived.Test.YtdbkbeojedndbaaJHeadBack1
import Derived.Test.YtdbkbeojedndbaaJHeadG9
import Derived.Test.YtdbkbeojedndbaaJHeadBack3
import Derived.Test.YtdbkbeojedndbaaJHeadG4
import Derived.Test.YtdbkbeojedndbaaJHeadG8
import Derived.Test.YtdbkbeojedndbaaJHeadG1
/-
  The walk of the reference's Less at names of one number.
-/
namespace Go.Proofs.Ytdbkbeojedndbaa
open Go.RowKit

theorem pre_lt (p : List UInt8) {x y : List UInt8} : p ++ x < p ++ y ↔ x < y := by
  induction p with
  | nil => rfl
  | cons a p ih =>
    rw [List.cons_append, List.cons_append, List.cons_lt_cons_iff]
    constructor
    · rintro (h | ⟨_, h⟩)
      · exact absurd h (UInt8.lt_irrefl _)
      · exact ih.1 h
    · intro h; exact .inr ⟨rfl, ih.2 h⟩
theorem same_split {l m : List UInt8} {k : Nat} (hl : k < l.length) (hm : k < m.length) (h : l.take k = m.take k) : (l < m ↔ l[k] < m[k] ∨ (l[k] = m[k] ∧ l.drop (k + 1) < m.drop (k + 1))) := by
  have e1 : l = l.take k ++ l[k] :: l.drop (k + 1) := by rw [← List.drop_eq_getElem_cons hl, List.take_append_drop]
  have e2 : m = l.take k ++ m[k] :: m.drop (k + 1) := by rw [h, ← List.drop_eq_getElem_cons hm, List.take_append_drop]
  have := pre_lt (l.take k) (x := l[k] :: l.drop (k + 1)) (y := m[k] :: m.drop (k + 1))
  rw [← e1, ← e2, List.cons_lt_cons_iff] at this
  exact this
theorem less_here {l m : List UInt8} {k : Nat} (hl : k < l.length) (hm : k < m.length) (h : l.take k = m.take k) (hne : l[k] ≠ m[k]) : (l < m ↔ l[k] < m[k]) := by
  rw [same_split hl hm h]
  constructor
  · rintro (h | ⟨h, _⟩)
    · exact h
    · exact absurd h hne
  · exact .inl
theorem less_end {l m : List UInt8} {k : Nat} (hk : k ≤ l.length ∧ k ≤ m.length) (hend : k = l.length ∨ k = m.length) (h : l.take k = m.take k) : (l < m ↔ l.length < m.length) := by
  rcases hend with e | e
  · have e1 : l = l.take k ++ [] := by rw [List.append_nil, List.take_of_length_le (by omega)]
    have e2 : m = l.take k ++ m.drop k := by rw [h, List.take_append_drop]
    have := pre_lt (l.take k) (x := []) (y := m.drop k)
    rw [← e1, ← e2] at this
    rw [this]
    cases hd : m.drop k with
    | nil =>
      have := congrArg List.length hd
      simp at this
      constructor
      · intro h; exact absurd h (List.not_lt_nil _)
      · intro h; omega
    | cons a t =>
      have := congrArg List.length hd
      simp at this
      constructor
      · intro _; omega
      · intro _; exact List.nil_lt_cons ..
  · have e1 : m = m.take k ++ [] := by rw [List.append_nil, List.take_of_length_le (by omega)]
    have e2 : l = m.take k ++ l.drop k := by rw [← h, List.take_append_drop]
    have := pre_lt (m.take k) (x := l.drop k) (y := [])
    rw [← e1, ← e2] at this
    rw [this]
    constructor
    · intro h; exact absurd h (List.not_lt_nil _)
    · intro h; omega
set_option maxHeartbeats 1000000 in
set_option maxRecDepth 100000 in
theorem Less_calls (a b : ByteArray) (w : World) (ha : a.size ≤ 100000) (hb : b.size ≤ 100000) :
    Calls Try.prog 74 #[.agg #[.int .i64 1, .string a], .agg #[.int .i64 1, .string b]] w fun e w' => ∃ c, e = .returned (.bool c) ∧ Hid (c = true ↔ ltB a b) ∧ Below w.heap.size w w' := by
  go_enter Try.func74, Try.ntmps74
  go_wp2_with fail
  obtain ⟨W, hW⟩ : ∃ W, W = (w.alloc (.cells #[.int .i64 1, .string a] 44)).alloc (.cells #[.int .i64 1, .string b] 44) := ⟨_, rfl⟩
  have c1 : W.cell? ⟨w.heap.size, 1, none⟩ = some (.string a) := by rw [hW]; exact kept_new (by simp) _
  have c2 : W.cell? ⟨w.heap.size + 1, 1, none⟩ = some (.string b) := by rw [hW]; simp
  have hB : Below w.heap.size w W := by rw [hW]; exact ((Below.refl _ _).alloc (Nat.le_refl _) _).alloc (by simp) _
  rw [← hW]
  have HC1 := Lib.hid c1
  have HC2 := Lib.hid c2
  have HB := Lib.hid hB
  clear hW c1 c2 hB
  go_loopw [5] (fun i wr => ∃ k : Nat, k ≤ a.size ∧ k ≤ b.size ∧ i = .int .i64 k ∧ Hid ((bytes a).take k = (bytes b).take k) ∧ Hid (Below W.heap.size W wr)) (fun i _ => a.size - (intOf i).toNat)
  case atStart => exact ⟨0, by omega, by omega, rfl, Lib.hid rfl, Below.refl _ _⟩
  case round =>
    obtain ⟨k, hka, hkb, rfl, HT, HBr⟩ := hrel
    obtain ⟨W2, hW2⟩ : ∃ W, W = wr := ⟨_, rfl⟩
    subst hW2
    have c1 := kept_cell HBr.out HC1.out
    have c2 := kept_cell HBr.out HC2.out
    by_cases h1 : k < a.size
    · by_cases h2 : k < b.size
      · have hl1 : k < (bytes a).length := h1
        have hl2 : k < (bytes b).length := h2
        have e1 : (bytes a)[k] = a[k] := rfl
        have e2 : (bytes b)[k] = b[k] := rfl
        by_cases he : a[k] = b[k]
        · have hx : ((a[k].toNat : Int) != (b[k].toNat : Int)) = false := by rw [he]; simp
          have HE := Lib.hid he
          clear he e1 e2
          go_wp2_with fail
          go_region
          go_wp2_with fail
          go_roundw
          case rel =>
            refine ⟨k + 1, by omega, by omega, by go_num, Lib.hid ?_, HBr.out.drew⟩
            rw [List.take_succ_eq_append_getElem hl1, List.take_succ_eq_append_getElem hl2, HT.out]
            congr 1
            show [a[k]] = [b[k]]
            rw [HE.out]
          case measure => simp [intOf]; omega
        · have hx : ((a[k].toNat : Int) != (b[k].toNat : Int)) = true := by
            have : a[k].toNat ≠ b[k].toNat := fun e => he (UInt8.toNat_inj.1 e)
            simp; omega
          have hlt := less_here hl1 hl2 HT.out (by rw [e1, e2]; exact he)
          rw [e1, e2] at hlt
          have Hlt := Lib.hid hlt
          clear he e1 e2 hlt
          go_wp2_with fail
          go_region
          go_wp2_with fail
          go_region
          all_goals go_wp2_with fail
          all_goals go_ret
          all_goals refine ⟨_, rfl, Lib.hid ?_, HB.out.trans (HBr.out.drew.drew.mono HB.out.size)⟩
          all_goals
            show _ ↔ bytes a < bytes b
            rw [Hlt.out, UInt8.lt_iff_toNat_lt]
            simp
      · go_wp2_with fail
        go_ret
        refine ⟨_, rfl, Lib.hid ?_, HB.out.trans (HBr.out.mono HB.out.size)⟩
        show _ ↔ bytes a < bytes b
        rw [less_end ⟨hka, hkb⟩ (.inr (show k = b.size by omega)) HT.out]
        show _ ↔ a.size < b.size
        simp
    · go_wp2_with fail
      go_ret
      refine ⟨_, rfl, Lib.hid ?_, HB.out.trans (HBr.out.mono HB.out.size)⟩
      show _ ↔ bytes a < bytes b
      rw [less_end ⟨hka, hkb⟩ (.inl (show k = a.size by omega)) HT.out]
      show _ ↔ a.size < b.size
      simp
theorem less_calls (a b : ByteArray) (w : World) (ha : a.size ≤ 100000) (hb : b.size ≤ 100000) :
    Calls Try.prog 48 #[.string a, .string b] w fun e w' => ∃ c, e = .returned (.bool c) ∧ Hid (c = true ↔ ltB a b) ∧ Below w.heap.size w w' := by
  go_enter Try.func48, Try.ntmps48
  go_wp2_with fail
  refine (Less_calls a b _ ha hb).mono ?_
  rintro e w1 ⟨c, rfl, hc, hb1⟩
  go_wp2_with fail
  go_ret
  exact ⟨c, rfl, hc, hb1⟩
end Go.Proofs.Ytdbkbeojedndbaa
/-
  The walk of the reference's Table. Printed by gen_rtable.py.
-/
namespace Go.Proofs.Ytdbkbeojedndbaa
open Go.RowKit

theorem small_of {n : Nat} {L : List OpV} {w : World} {A : Option Addr} (hO : OpsAt w A n L) (hF : ∀ i, i < n → FewAt (opv L i)) : ∀ y ∈ namesL L, y.2.size ≤ 100 :=
  namesL_small hO.1 (fun i hi => by
    have hf := hF i hi
    refine ⟨hf.o, hf.e, fun y hy => ?_⟩
    obtain ⟨q, hq, rfl⟩ := List.getElem_of_mem hy
    have hx := (hO.2.1 _ (opv_mem (L := L) (j := i) (by rw [hO.1]; exact hi))).2.1
    have := hf.y q (by omega)
    unfold nm at this
    rwa [List.getD_eq_getElem?_getD, List.getElem?_eq_getElem hq] at this)
set_option maxHeartbeats 1000000 in
set_option maxRecDepth 100000 in
theorem rTable_calls (au : ByteArray) (A : Option Addr) (n cap : Nat) (L : List OpV) (w : World) (hO : OpsAt w A n L) (hn : n ≤ 100) (hF : ∀ i, i < n → FewAt (opv L i)) :
    Calls Try.prog 18 #[.string au, .slice A n cap] w fun e w' => ∃ v T, e = .returned v ∧ IsTable au (namesL L) T ∧ w'.ownsRow w.heap.size 9 1 v T.length (strs T) ∧ Below w.heap.size w w' := by
  have Hsm := Lib.hid (small_of hO hF)
  have HO := Lib.hid hO
  have HF := Lib.hid hF
  clear hO hF
  go_enter Try.func18, Try.ntmps18
  have hb0 : Below w.heap.size w (w.alloc (.cells #[.string au] 9)) := (Below.refl _ _).alloc (Nat.le_refl _) _
  have hlit := World.ownsRow_lit (base := w.heap.size) (size := 1) (e := 9) w #[.string au] 1 (Nat.le_refl _) (by simp [maxLen]) rfl
  have HB0 := Lib.hid hb0
  have Hlit := Lib.hid hlit
  clear hb0 hlit
  go_wp2_with fail
  refine (rNames_calls A n cap L _ (HO.out.below HB0.out) hn HF.out).mono ?_
  rintro e w2 ⟨v2, rfl, ho2, hlen, hb2⟩
  have HB2 := Lib.hid (below_seq HB0.out (Nat.le_refl _) hb2)
  obtain ⟨A2, c2, rfl, _, _, _⟩ := own_nms ho2
  have Hl2 := Lib.hid (own_below Hlit.out hb2)
  obtain ⟨N, hN⟩ : ∃ N, N = namesL L := ⟨_, rfl⟩
  obtain ⟨m, hm⟩ : ∃ m, m = N.length := ⟨_, rfl⟩
  rw [← hN] at Hsm hlen ho2 ⊢
  rw [← hm] at hlen ho2 ⊢
  have hm42 : m ≤ 4200 := by omega
  have HN2 := Lib.hid (own_mono ho2 (base' := w.heap.size) (by simp))
  have HN := Lib.hid hN
  have Hm := Lib.hid hm.symm
  have hs2 := HB2.out.size
  clear ho2 hb2 hN hm hlen
  go_wp2_with fail
  go_loopg [5] (m + 1) (fun g v wr => ∃ t : List ByteArray, Hid (Grow au N t) ∧ Hid (left N t < g) ∧ Hid (wr.ownsRow w.heap.size 9 1 v (t.length + 1) (strs (au :: t))) ∧ Hid (wr.ownsRow w.heap.size 44 2 (.slice A2 m c2) m (nms N)) ∧ Hid (Below w.heap.size w wr))
  case atStart => exact ⟨[], Grow.nil au N, Lib.hid (by have := left_le N []; rw [Hm.out] at this; omega), Hl2.out, HN2.out, HB2.out⟩
  case round =>
    obtain ⟨t, HG, HL, HT, HNr, HBr⟩ := hrel
    obtain ⟨Wo, hWo⟩ : ∃ W, W = wr := ⟨_, rfl⟩
    subst hWo
    have htl : Hid (t.length ≤ m) := Lib.hid (by
      have h1 : t.Nodup := HG.out.up.imp (fun h e => by subst e; exact ltB_irrefl _ h)
      have h2 := nodup_le h1 (fun s hs => HG.out.ok s hs)
      rw [Hm.out] at h2
      exact h2)
    obtain ⟨n5, hn5⟩ : ∃ n5, n5 = t.length + 1 := ⟨_, rfl⟩
    rw [← hn5] at HT
    have hn5m : n5 ≤ 4201 := by have := htl.out; omega
    have hn51 : 1 ≤ n5 := by omega
    have Hn5 := Lib.hid hn5
    obtain ⟨A5, c5, rfl, _, hr5, _⟩ := own_rdS HT.out
    obtain ⟨b5, o5, e5, hc5⟩ := hr5.2 (by omega)
    subst e5
    have Hc5 := Lib.hid hc5
    obtain ⟨_, _, e2, _, hnm, _⟩ := own_nms HNr.out
    cases e2
    have hncell : ∀ k, k < m → ∀ wx, Below Wo.heap.size Wo wx → NmCells wx (A2.getD ⟨0, 0, none⟩).block ((A2.getD ⟨0, 0, none⟩).off + k * 2) (nm N k) := by
      intro k hk wx hb
      obtain ⟨b2, o2, e2, hc⟩ := hnm.2 (by omega)
      subst e2
      exact (hc k hk).below hb
    have hA2 : 0 < m → ∃ b2 o2, A2 = some ⟨b2, o2, none⟩ := fun h => by obtain ⟨b2, o2, e2, _⟩ := hnm.2 h; exact ⟨b2, o2, e2⟩
    have HA2 := Lib.hid hA2
    have Hncell := Lib.hid hncell
    clear hn5 hr5 hnm hncell hA2 hc5
    go_wp2_with fail
    go_loopw [7, 8] (fun v i wr => ∃ (k : Nat) (b : Int), k ≤ m ∧ i = .int .i64 k ∧ v = .int .i64 b ∧ Hid (Best au N t k b) ∧ Hid (Below Wo.heap.size Wo wr)) (fun _ i _ => m - (intOf i).toNat)
    case atStart => exact ⟨0, -1, by omega, rfl, rfl, Best.start au N t, Below.refl _ _⟩
    case round =>
      obtain ⟨k, b, hk, rfl, rfl, HBest, HBi⟩ := hrel
      obtain ⟨W, hW⟩ : ∃ W, W = wr := ⟨_, rfl⟩
      subst hW
      by_cases hlt : k < m
      · obtain ⟨b2, o2, e2⟩ := HA2.out (by omega)
        subst e2
        have Hnc : Hid (∀ k, k < m → ∀ wx, Below Wo.heap.size Wo wx → NmCells wx b2 (o2 + k * 2) (nm N k)) := Hncell
        obtain ⟨y, hy⟩ : ∃ y, y = nm N k := ⟨_, rfl⟩
        obtain ⟨d0, d1⟩ := Hnc.out k hlt W HBi.out
        rw [← hy] at d0 d1
        have hys : y.2.size ≤ 100 := by rw [hy]; exact Hsm.out _ (nm_mem (by rw [Hm.out]; exact hlt))
        have HY := Lib.hid hy
        clear hy
        by_cases hya : y.2 = au
        · have hq : (y.2.toList == au.toList) = true := by rw [tl_beq]; exact decide_eq_true hya
          have hq2 : y.2.toList = au.toList := by rw [hya]
          go_wp2_with fail
          go_roundw
          case rel => exact ⟨k + 1, b, by omega, by go_num, rfl, Lib.hid (HBest.out.skip (by rw [Hm.out]; exact hlt) (.inl (fun hc => hc.1 (by rw [← HY.out]; exact hya)))), HBi.out⟩
          case measure => simp [intOf]; omega
        · have hq : (y.2.toList == au.toList) = false := by rw [tl_beq]; exact decide_eq_false hya
          have hq2 : ¬ y.2.toList = au.toList := fun e => hya ((tl_iff _ _).1 e)
          by_cases h1 : n5 = 1
          · have ht0 : t = [] := List.length_eq_zero_iff.1 (by have := Hn5.out; omega)
            have Hc : Hid (Cand au t (nm N k).2) := Lib.hid (by rw [← HY.out, ht0]; exact ⟨hya, fun x hx => by simp at hx⟩)
            have hn1 : ¬ (1 : Int) < n5 := by omega
            clear ht0 h1
            have hc12 := Hnc.out k hlt W HBi.out
            rcases HBest.out.rng with hbm | ⟨jb, hbj, hjk⟩
            · subst hbm
              go_wp2_with fail
              go_roundw
              case rel => exact ⟨k + 1, k, by omega, by go_num, rfl, Lib.hid (HBest.out.take (by rw [Hm.out]; exact hlt) Hc.out (.inl rfl)), HBi.out⟩
              case measure => simp [intOf]; omega
            · subst hbj
              obtain ⟨z, hz⟩ : ∃ z, z = nm N jb := ⟨_, rfl⟩
              obtain ⟨f0, f1⟩ := Hnc.out jb (by omega) W HBi.out
              rw [← hz] at f0 f1
              have HZ := Lib.hid hz
              have hzs : z.2.size ≤ 100 := by rw [hz]; exact Hsm.out _ (nm_mem (by rw [Hm.out]; omega))
              have hz0 : ¬ ((jb : Int) < 0) := by omega
              clear hz hc12
              go_wp2_with fail
              refine (less_calls y.2 z.2 _ (by omega) (by omega)).mono ?_
              rintro e wz ⟨cz, rfl, Hcz, hbz⟩
              have HBz := Lib.hid (below_seq HBi.out (Nat.le_refl _) hbz)
              clear hbz
              cases cz
              · go_wp2_with fail
                go_roundw
                case rel => exact ⟨k + 1, jb, by omega, by go_num, rfl, Lib.hid (HBest.out.skip (by rw [Hm.out]; exact hlt) (.inr ⟨jb, rfl, fun h => by rw [← HY.out, ← HZ.out] at h; exact absurd (Hcz.out.2 h) (by decide)⟩)), HBz.out⟩
                case measure => simp [intOf]; omega
              · go_wp2_with fail
                go_roundw
                case rel => exact ⟨k + 1, k, by omega, by go_num, rfl, Lib.hid (HBest.out.take (by rw [Hm.out]; exact hlt) Hc.out (.inr ⟨jb, rfl, by rw [← HY.out, ← HZ.out]; exact Hcz.out.1 (by trivial)⟩)), HBz.out⟩
                case measure => simp [intOf]; omega
          · have hn1 : (1 : Int) < n5 := by omega
            obtain ⟨l, hl⟩ : ∃ l, l = str (au :: t) (n5 - 1) := ⟨_, rfl⟩
            have hcl := kept_cell HBi.out (Hc5.out (n5 - 1) (by omega))
            rw [← hl] at hcl
            have hlt9 : t.getLast? = some l := by
              obtain ⟨f, s, hf⟩ : ∃ f s, t = f ++ [s] := by
                have : t ≠ [] := fun e => by rw [e] at Hn5; have := Hn5.out; simp at this; omega
                exact ⟨t.dropLast, t.getLast this, (List.dropLast_concat_getLast this).symm⟩
              have hn9 := Hn5.out
              rw [hf] at hn9 hl ⊢
              simp at hn9
              rw [hl, hn9]
              unfold str
              rw [List.getD_eq_getElem?_getD]
              simp
            have hls : l.size ≤ 100 := by
              obtain ⟨_, q, hq1, hq2⟩ := HG.out.ok l (List.mem_of_getLast? hlt9)
              rw [← hq2]; exact Hsm.out q hq1
            have HL9 := Lib.hid hlt9
            have hidx : ((n5 : Int) - 1) = ((n5 - 1 : Nat) : Int) := by omega
            clear hl hlt9 h1
            go_wp2_with fail
            refine (less_calls l y.2 _ (by omega) (by omega)).mono ?_
            rintro e wl ⟨cl, rfl, Hcl, hbl⟩
            have HBl := Lib.hid (below_seq HBi.out (Nat.le_refl _) hbl)
            clear hbl hcl
            cases cl
            · go_wp2_with fail
              go_roundw
              case rel => exact ⟨k + 1, b, by omega, by go_num, rfl, Lib.hid (HBest.out.skip (by rw [Hm.out]; exact hlt) (.inl (fun hc => by
                have h9 := hc.2 l HL9.out
                rw [← HY.out] at h9
                exact absurd (Hcl.out.2 h9) (by decide)))), HBl.out⟩
              case measure => simp [intOf]; omega
            · have Hc : Hid (Cand au t (nm N k).2) := Lib.hid (by
                rw [← HY.out]
                refine ⟨hya, fun x hx => ?_⟩
                rw [HL9.out] at hx
                cases hx
                exact Hcl.out.1 (by trivial))
              obtain ⟨d0', d1'⟩ := Hnc.out k hlt wl HBl.out
              rw [← HY.out] at d0' d1'
              clear d0 d1
              have hc12 := Hnc.out k hlt wl HBl.out
              rcases HBest.out.rng with hbm | ⟨jb, hbj, hjk⟩
              · subst hbm
                go_wp2_with fail
                go_roundw
                case rel => exact ⟨k + 1, k, by omega, by go_num, rfl, Lib.hid (HBest.out.take (by rw [Hm.out]; exact hlt) Hc.out (.inl rfl)), HBl.out⟩
                case measure => simp [intOf]; omega
              · subst hbj
                obtain ⟨z, hz⟩ : ∃ z, z = nm N jb := ⟨_, rfl⟩
                obtain ⟨f0, f1⟩ := Hnc.out jb (by omega) wl HBl.out
                rw [← hz] at f0 f1
                have HZ := Lib.hid hz
                have hzs : z.2.size ≤ 100 := by rw [hz]; exact Hsm.out _ (nm_mem (by rw [Hm.out]; omega))
                have hz0 : ¬ ((jb : Int) < 0) := by omega
                clear hz hc12
                go_wp2_with fail
                refine (less_calls y.2 z.2 _ (by omega) (by omega)).mono ?_
                rintro e wz ⟨cz, rfl, Hcz, hbz⟩
                have HBz := Lib.hid (below_seq HBl.out (Nat.le_refl _) hbz)
                clear hbz
                cases cz
                · go_wp2_with fail
                  go_roundw
                  case rel => exact ⟨k + 1, jb, by omega, by go_num, rfl, Lib.hid (HBest.out.skip (by rw [Hm.out]; exact hlt) (.inr ⟨jb, rfl, fun h => by rw [← HY.out, ← HZ.out] at h; exact absurd (Hcz.out.2 h) (by decide)⟩)), HBz.out⟩
                  case measure => simp [intOf]; omega
                · go_wp2_with fail
                  go_roundw
                  case rel => exact ⟨k + 1, k, by omega, by go_num, rfl, Lib.hid (HBest.out.take (by rw [Hm.out]; exact hlt) Hc.out (.inr ⟨jb, rfl, by rw [← HY.out, ← HZ.out]; exact Hcz.out.1 (by trivial)⟩)), HBz.out⟩
                  case measure => simp [intOf]; omega
      · obtain rfl : k = m := by omega
        have HBo := Lib.hid (below_seq HBr.out (Nat.le_refl _) HBi.out)
        have HTi := Lib.hid (own_below HT.out HBi.out)
        have hNk : N.take k = N := List.take_of_length_le (by rw [Hm.out]; exact Nat.le_refl _)
        rcases HBest.out.is with ⟨rfl, hno⟩ | ⟨jb, rfl, hjk, hcj, hmin⟩
        · rw [hNk] at hno
          have HNo := Lib.hid hno
          clear hno hNk
          go_wp2_with fail
          go_ret
          refine ⟨_, au :: t, rfl, by rw [← HN.out]; exact HG.out.done HNo.out, ?_, HBo.out⟩
          rw [List.length_cons, ← Hn5.out]
          exact HTi.out
        · rw [hNk] at hmin
          obtain ⟨b2, o2, e2⟩ := HA2.out (by omega)
          subst e2
          have Hnc : Hid (∀ k', k' < k → ∀ wx, Below Wo.heap.size Wo wx → NmCells wx b2 (o2 + k' * 2) (nm N k')) := Hncell
          obtain ⟨z, hz⟩ : ∃ z, z = nm N jb := ⟨_, rfl⟩
          obtain ⟨f0, f1⟩ := Hnc.out jb hjk W HBi.out
          have hzN : z ∈ N := by rw [hz]; exact nm_mem (by rw [Hm.out]; exact hjk)
          rw [← hz] at f0 f1 hcj hmin
          have Hcj := Lib.hid hcj
          have Hmin := Lib.hid hmin
          have HzN := Lib.hid hzN
          have hz0 : ¬ ((jb : Int) < 0) := by omega
          have hbo := HBo.out.size
          have HNi := Lib.hid (own_below HNr.out HBi.out)
          clear hz hcj hmin hzN hNk
          go_wp2_with (at_builtin; refine wpList_app3 rfl _ _ rfl elStr HTi.out rfl rfl rfl rfl rfl (by omega) hbo ?_; intro g4 cg w4 hown4 hfr4 hat4 hlt4; have Hown4 := Lib.hid hown4; have Hfr4 := Lib.hid hfr4; clear hown4 hfr4 hat4)
          go_roundg (left N t)
          case measure => exact HL.out
          case rel =>
            have e9 : strs (au :: t) ++ (#[Value.string z.2] : Array Value).toList = strs (au :: (t ++ [z.2])) := by
              rw [← List.cons_append, strs_app]; rfl
            have h4 := Hown4.out
            rw [e9] at h4
            refine ⟨t ++ [z.2], HG.out.next HzN.out Hcj.out Hmin.out, HG.out.left HzN.out Hcj.out, ?_, own_fr HNi.out Hfr4.out (fun o ho => by simp at ho; subst ho; exact own_apart2 (by decide) HNi.out HTi.out), HBo.out.trans (Hfr4.out.below hbo (fun o ho i e => by simp at ho; subst ho; exact (HTi.out.lt i e).1))⟩
            have e5 : (t ++ [z.2]).length + 1 = n5 + 1 := by rw [List.length_append, Hn5.out]; rfl
            rw [e5]
            exact h4
end Go.Proofs.Ytdbkbeojedndbaa
/-
  A change that is handed in, by value: its reading.
-/
namespace Go.Proofs.Ytdbkbeojedndbaa
open Go.RowKit
open Go.Joins Go.ChangeShapes Go.WideShapes Go.Deep

section
variable {H : Type} {enc : TypeId × Value → H} {w : World} {base : Nat} {sp : Nat → Bool} {held : Bool}
set_option maxRecDepth 100000 in
theorem hash_of_trod {fuel : Nat} {cs : List Value} {x : DataW H × List MemPlace} (h : DataW.trod enc Try.prog w base sp held fuel 67 cs = some x) : ∃ l : List Int, cs = ints .u8 l ∧ l.length = 32 ∧ ∀ y ∈ l, 0 ≤ y ∧ y ≤ 255 := by
  obtain ⟨xs, n, _, _, hl, hxl, hx⟩ := DataW.trod_array Try.underlying67 h
  have c : Try.prog.cellsOf 67 = 32 := by kernel_rfl
  have c1 : Try.prog.cellsOf 5 = 1 := by kernel_rfl
  rw [c] at hl
  have each : ∀ j, j < 32 → ∃ z : Int, cs[j]? = some (.int .u8 z) ∧ 0 ≤ z ∧ z ≤ 255 := by
    intro j hj
    have g := hx j hj
    rw [c1, Nat.mul_one, List.getElem?_eq_getElem (show j < xs.length by omega), List.drop_eq_getElem_cons (show j < cs.length by omega), show ∀ (x : Value) (l : List Value), (x :: l).take 1 = [x] from fun _ _ => rfl] at g
    obtain ⟨z, e, _, q⟩ := DataW.trod_int Try.underlying5 g
    exact ⟨z, by rw [List.getElem?_eq_getElem (by omega), (List.cons.inj e).1], u8_of_wf q⟩
  obtain ⟨l, hll, hlj⟩ := any_choice (0 : Int) 32 each
  refine ⟨l, ?_, hll, fun y hy => ?_⟩
  · apply List.ext_getElem?
    intro j
    rcases Nat.lt_or_ge j 32 with hj | hj
    · rw [(hlj j hj).1]
      unfold ints
      rw [List.getElem?_map, List.getElem?_eq_getElem (by omega), List.getD_eq_getElem?_getD, List.getElem?_eq_getElem (by omega)]
      rfl
    · rw [List.getElem?_eq_none (by omega), List.getElem?_eq_none (by rw [ints_length]; omega)]
  · obtain ⟨i, hi, rfl⟩ := List.getElem_of_mem hy
    have := (hlj i (by omega)).2
    rwa [List.getD_eq_getElem?_getD, List.getElem?_eq_getElem hi] at this
set_option maxRecDepth 100000 in
theorem deps_of_trod {fuel : Nat} {cs : List Value} {x : DataW H × List MemPlace} (h : DataW.trod enc Try.prog w base sp held fuel 24 cs = some x) :
    ∃ A n c D, cs = [.slice A n c] ∧ n ≤ maxLen ∧ DepsAt w A n c D := by
  have ce : Try.prog.cellsOf 67 = 32 := by kernel_rfl
  rcases DataW.trod_slice Try.underlying24 h with ⟨hcs, _⟩ | ⟨a, len, cap, elems, rest, m, _, hcs, _, hb, hl, hm, hlen, hel, _, _⟩
  · exact ⟨none, 0, 0, [], hcs, by simp, rfl, (fun h hh => by cases hh), Nat.le_refl _, fun _ => ⟨rfl, rfl⟩, fun hh => by omega⟩
  · have each : ∀ j, j < len → ∃ y : List Int, (∀ k, k < 32 → w.cell? ((a.add (j * 32)).add k) = some (.int .u8 (rd y k))) ∧ y.length = 32 ∧ ∀ z ∈ y, 0 ≤ z ∧ z ≤ 255 := by
      intro j hj
      have hz := hel j hj
      rw [ce, List.getElem?_eq_getElem (show j < elems.length by omega)] at hz
      obtain ⟨cs', hcs', hz⟩ := Option.bind_eq_some_iff.1 hz
      obtain ⟨_, hcl, hcc⟩ := World.cells?_some hcs'
      obtain ⟨y, rfl, q0, q1⟩ := hash_of_trod hz
      refine ⟨y, fun k hk => ?_, q0, q1⟩
      have hk' : k < (ints .u8 y).length := by rw [ints_length]; omega
      have a0 := hcc k hk
      rw [a0]
      exact ints_get (by omega)
    obtain ⟨D, hD, hDs⟩ := any_choice ([] : List Int) len each
    refine ⟨_, len, cap, D, hcs, by omega, hD, fun y hy => ?_, hl, (fun e => by cases e), fun hn => ?_⟩
    · obtain ⟨i, hi, rfl⟩ := List.getElem_of_mem hy
      have := (hDs i (by omega)).2
      rw [List.getD_eq_getElem?_getD, List.getElem?_eq_getElem hi] at this
      exact this
    · obtain ⟨b, o, s⟩ := a
      have hs : s = none := by simpa [Addr.add] using World.cell?_spot ((hDs 0 hn).1 0 (by omega))
      subst hs
      refine ⟨b, o, rfl, fun i j hi hj => ?_⟩
      have := (hDs i hi).1 j hj
      rw [addr_add, addr_add] at this
      exact this
set_option maxRecDepth 100000 in
theorem chg_of_trod {r : Reach} {b0 : Nat} {v : Value} {d : DataW H} {p : List MemPlace} (hv : Value.okWide Try.prog w r b0 27 v) (h : DataW.Trod enc Try.prog w base sp held 27 v d p) :
    ∃ (a : ByteArray) (sq st tm : Int) (ms : ByteArray) (A : Option Addr) (n c : Nat) (D : List (List Int)) (O : Option Addr) (on oc : Nat) (L : List OpV), v = .agg (chgC2 a sq st tm ms (.slice A n c) (.slice O on oc)) ∧ a.size ≤ maxLen ∧ I64 tm ∧ ms.size ≤ maxLen ∧ DepsAt w A n c D ∧ n ≤ maxLen ∧ OpsAt w O on L ∧ on ≤ maxLen := by
  have c : Try.prog.cellsOf 27 = 7 := by kernel_rfl
  have c0 : Try.prog.cellsOf 2 = 1 := by kernel_rfl
  have c1 : Try.prog.cellsOf 9 = 1 := by kernel_rfl
  have c2 : Try.prog.cellsOf 24 = 1 := by kernel_rfl
  have c3 : Try.prog.cellsOf 25 = 1 := by kernel_rfl
  obtain ⟨cs, rfl, hsz⟩ := okWide_struct Try.underlying27 hv
  obtain ⟨l⟩ := cs
  match l, hsz.trans c with
  | [y0, y1, y2, y3, y4, y5, y6], _ =>
    obtain ⟨fuel, hf⟩ := h
    obtain ⟨xs, n, _, _, hl, hxl, hx⟩ := DataW.trod_struct Try.underlying27 hf
    have hxl2 : xs.length = 7 := by simpa using hxl
    have g0 := hx 0 _ rfl
    have g1 := hx 1 _ rfl
    have g2 := hx 2 _ rfl
    have g3 := hx 3 _ rfl
    have g4 := hx 4 _ rfl
    have g5 := hx 5 _ rfl
    have g6 := hx 6 _ rfl
    rw [List.getElem?_eq_getElem (by omega)] at g0 g1 g2 g3 g4 g5 g6
    simp only [Value.cells, List.getElem_toArray, List.getElem_cons_zero, List.getElem_cons_succ, c0, c1, c2, c3] at g0 g1 g2 g3 g4 g5 g6
    obtain ⟨a, e0, _, q0⟩ := DataW.trod_string Try.underlying9 g0
    obtain ⟨sq, e1, _, q1⟩ := DataW.trod_int Try.underlying2 g1
    obtain ⟨st, e2, _, q2⟩ := DataW.trod_int Try.underlying2 g2
    obtain ⟨tm, e3, _, q3⟩ := DataW.trod_int Try.underlying2 g3
    obtain ⟨ms, e4, _, q4⟩ := DataW.trod_string Try.underlying9 g4
    obtain ⟨A, n5, c5, D, e5, h5, q5⟩ := deps_of_trod g5
    have e6 : ∃ O on oc, y6 = .slice O on oc := by
      rcases DataW.trod_slice Try.underlying25 g6 with ⟨hcs, _⟩ | ⟨a, len, cap, elems, rest, m, _, hcs, _⟩
      · simp at hcs; exact ⟨_, _, _, hcs⟩
      · simp at hcs; exact ⟨_, _, _, hcs⟩
    obtain ⟨O, on, oc, rfl⟩ := e6
    obtain ⟨O', on', oc', L, e6, h6, _, _, q6⟩ := ops_of_trod (d := xs[6].1) (p := xs[6].2) ⟨O, on, oc, rfl⟩ ⟨_, g6⟩
    cases e6
    simp at e0 e1 e2 e3 e4 e5
    subst e0 e1 e2 e3 e4 e5
    exact ⟨a, sq, st, tm, ms, A, n5, c5, D, O, on, oc, L, rfl, q0, i64_wf q3, q4, q5, h5, q6, h6⟩
end
end Go.Proofs.Ytdbkbeojedndbaa
/-
  The walk of the law HeadBack. Printed by gen_back.py.
-/
namespace Go.Proofs.Ytdbkbeojedndbaa
open Go.RowKit

theorem tmod_less9 {cut : Int} (hc : 0 ≤ cut) {n : Nat} (h : 0 < n) : ∃ k : Nat, cut.tmod (n : Int) = k ∧ k < n := by
  obtain ⟨C, rfl⟩ : ∃ C : Nat, cut = C := ⟨cut.toNat, by omega⟩
  exact ⟨C % n, (Int.ofNat_tmod C n).symm, Nat.mod_lt C h⟩
theorem wrap64_small9 {c : Int} (h : 0 ≤ c ∧ c ≤ 65535) : wrap64 c = c := by unfold wrap64; omega
theorem own_none09 (w : World) (e : TypeId) : (w.alloc (.cells #[] e)).ownsRow w.heap.size e 1 (.slice (some ⟨w.heap.size, 0, none⟩) 0 0) 0 [] :=
  World.ownsRow_lit w #[] 0 (Nat.le_refl _) (by decide) rfl
theorem rd_take9 {w : World} {k : IntKind} {A : Option Addr} {n : Nat} {xs : List Int} (h : Rd w k A n xs) (m : Nat) (hm : m ≤ n) : Rd w k A m (xs.take m) := by
  refine ⟨by rw [List.length_take, h.1]; omega, fun h0 => ?_⟩
  obtain ⟨b, o, e, hc⟩ := h.2 (by omega)
  refine ⟨b, o, e, fun j hj => ?_⟩
  rw [take_rdl hj]
  exact hc j (by omega)
theorem bsl_lt {w : World} {A : Option Addr} {n c : Nat} {b : List Int} (h : BSl w A n c b) (h0 : 0 < n) : ∀ b1 o1, A = some ⟨b1, o1, none⟩ → b1 < w.heap.size := by
  intro b1 o1 e
  obtain ⟨b2, o2, e2, hc⟩ := h.rd.2 h0
  rw [e] at e2
  cases e2
  exact World.block_lt_of_cell? w _ (hc 0 h0)
theorem row_keep {w w' : World} {g : Nat} {O : Obj} (h : w.heap[g]? = some O) (hb : Below w.heap.size w w') : w'.heap[g]? = some O := (hb.block g (Array.getElem?_eq_some_iff.1 h).1).trans h
/-- What is put is read, whatever stands behind; less of it is too short. -/
theorem back_law {a ms : ByteArray} {q s : Nat} {tm : Int} {D : List (List Int)} {N : List Nm} {T : List ByteArray} (hr : HdRight ⟨a, q, s, tm, ms, D⟩) (htm : I64 tm) (hD : Hashes D) (hT : IsTable a N T) (hN : ∀ y ∈ N, 1 ≤ y.2.size ∧ y.2.size ≤ 16) (hl : T.length ≤ 3361) :
    (∀ R, headE (headB ⟨a, q, s, tm, ms, D⟩ T ++ R) 0 = .ok ((⟨a, q, s, tm, ms, D⟩, T), (headB ⟨a, q, s, tm, ms, D⟩ T).length)) ∧ (∀ k, k < (headB ⟨a, q, s, tm, ms, D⟩ T).length → headE ((headB ⟨a, q, s, tm, ms, D⟩ T).take k) 0 = .error 2) ∧
    1 ≤ (headB ⟨a, q, s, tm, ms, D⟩ T).length ∧ (headB ⟨a, q, s, tm, ms, D⟩ T).length ≤ 91770 ∧ 1 ≤ T.length ∧ ∀ y ∈ headB ⟨a, q, s, tm, ms, D⟩ T, 0 ≤ y ∧ y ≤ 255 := by
  obtain ⟨t, rfl, hup, hmem⟩ := hT.is
  have hst : ∀ s ∈ t, s ≠ a ∧ 1 ≤ s.size ∧ s.size ≤ 16 := by
    intro s hs
    obtain ⟨h1, y, hy, h2⟩ := (hmem s).1 hs
    exact ⟨h1, by rw [← h2]; exact hN y hy⟩
  have hch : Chain a [a] t := chain_more t [] hup hst
  have htl : t.length ≤ 3360 := by rw [List.length_cons] at hl; omega
  have hp := headE_puts hr htm hch (by omega)
  have hpl := putT_len (au := a) (t := t) (fun s hs => (hst s hs).2.2) htl
  have hlen := headB_len (x := ⟨a, q, s, tm, ms, D⟩) (T := a :: t) (by have := hr.act; simp only at this ⊢; omega) (by have := hr.sq; unfold mostN at this; exact this.2) (by have := hr.st; unfold mostN at this; exact this.2) htm (by have := hr.ms; simp only at this ⊢; omega) (by have := hr.few; simp only at this ⊢; omega) hD
  refine ⟨fun R => ?_, fun k hk => ?_, hlen.1, by omega, by rw [List.length_cons]; omega, headB_byte (x := ⟨a, q, s, tm, ms, D⟩) (T := a :: t) (fun d hd => (hD d hd).2)⟩
  · have := hp.full [] R
    rw [List.nil_append, List.length_nil, Nat.zero_add] at this
    exact this
  · have := hp.cut [] k hk
    rw [List.nil_append, List.length_nil] at this
    exact this
set_option maxHeartbeats 8000000 in
set_option maxRecDepth 100000 in
theorem HeadBack_calls (a : ByteArray) (sq st tm : Int) (ms : ByteArray) (A : Option Addr) (n c : Nat) (D : List (List Int)) (O : Option Addr) (on oc : Nat) (L : List OpV) (B : Option Addr) (n2 c2 : Nat) (mr : List Int) (cut : Int) (w : World) (ha : a.size ≤ maxLen) (hms : ms.size ≤ maxLen) (htm : I64 tm)
    (hD : DepsAt w A n c D) (hn : n ≤ maxLen) (hO : OpsAt w O on L) (hon : on ≤ maxLen) (hR : BSl w B n2 c2 mr) (hb : ∀ x ∈ mr, 0 ≤ x ∧ x ≤ 255) (_hn2 : n2 ≤ 140737488351232) (hcut : 0 ≤ cut ∧ cut ≤ 65535) :
    Calls Try.prog 4 #[.agg (chgC2 a sq st tm ms (.slice A n c) (.slice O on oc)), .slice B n2 c2, .int .u16 cut] w fun e w' => e = .returned (.bool true) ∧ Below w.heap.size w w' := by
  have Htm := Lib.hid htm
  have HD := Lib.hid hD
  have HO := Lib.hid hO
  have Hn := Lib.hid hn
  have Hon := Lib.hid hon
  have HR := Lib.hid hR
  have Hb := Lib.hid hb
  have Hc := Lib.hid hcut
  clear htm hD hn hO hon hR hb hcut
  go_enter Try.func4, Try.ntmps4
  obtain ⟨bc, hbc⟩ : ∃ g, g = w.heap.size := ⟨_, rfl⟩
  go_upto_region 1 with fail
  obtain ⟨W, hW⟩ : ∃ X, X = w.alloc (.cells #[.string a, .int .i64 sq, .int .i64 st, .int .i64 tm, .string ms, .slice A n c, .slice O on oc] 27) := ⟨_, rfl⟩
  rw [← hW, ← hbc]
  have HB0 : Hid (Below w.heap.size w W) := Lib.hid (by rw [hW]; exact (Below.refl _ _).alloc (Nat.le_refl _) _)
  have Hrow : Hid (W.heap[bc]? = some (.cells (chgC2 a sq st tm ms (.slice A n c) (.slice O on oc)) 27 (0, 0))) := Lib.hid (by rw [hW, hbc]; exact heap_alloc_new w _)
  clear hW hbc
  go_wp2_with fail
  refine (awake20_calls W).mono ?_
  rintro e w1 ⟨rfl, hb1⟩
  have HB1 := Lib.hid (below_seq HB0.out (Nat.le_refl _) hb1)
  have Hrow1 := Lib.hid (row_keep Hrow.out hb1)
  clear hb1
  have c0 : w1.cell? ⟨bc, 0, none⟩ = some (.string a) := cell_of_row w1 bc 0 _ _ (0, 0) Hrow1.out
  have c1 : w1.cell? ⟨bc, 1, none⟩ = some (.int .i64 sq) := cell_of_row w1 bc 1 _ _ (0, 0) Hrow1.out
  have c2 : w1.cell? ⟨bc, 2, none⟩ = some (.int .i64 st) := cell_of_row w1 bc 2 _ _ (0, 0) Hrow1.out
  have c3 : w1.cell? ⟨bc, 3, none⟩ = some (.int .i64 tm) := cell_of_row w1 bc 3 _ _ (0, 0) Hrow1.out
  have c4 : w1.cell? ⟨bc, 4, none⟩ = some (.string ms) := cell_of_row w1 bc 4 _ _ (0, 0) Hrow1.out
  have c5 : w1.cell? ⟨bc, 5, none⟩ = some (.slice A n c) := cell_of_row w1 bc 5 _ _ (0, 0) Hrow1.out
  have c6 : w1.cell? ⟨bc, 6, none⟩ = some (.slice O on oc) := cell_of_row w1 bc 6 _ _ (0, 0) Hrow1.out
  go_wp2_with fail
  refine (rFew20_calls a sq st tm ms A n c O on oc L 30 w1 ha hms Hn.out (HO.out.below HB1.out) Hon.out (by decide)).mono ?_
  rintro e w2 ⟨he, hb2⟩
  have HB2 := Lib.hid (below_seq HB1.out (Nat.le_refl _) hb2)
  have Hrow2 := Lib.hid (row_keep Hrow1.out hb2)
  clear hb2
  clear c0 c1 c2 c3 c4 c5 c6
  rcases he with rfl | ⟨rfl, ha1, hm1, hn1, ho1, hF⟩
  · go_wp2_with fail
    refine (awake20_calls _).mono ?_
    rintro e w9 ⟨rfl, hb9⟩
    have H9 := Lib.hid (below_seq HB2.out (Nat.le_refl _) hb9)
    clear hb9
    go_wp2_with fail
    go_ret
    exact ⟨rfl, H9.out⟩
  have HF := Lib.hid hF
  have ho2 : on ≤ 30 := by omega
  clear hF ho1
  by_cases hn3 : n2 ≤ 3000
  · have c0 : w2.cell? ⟨bc, 0, none⟩ = some (.string a) := cell_of_row w2 bc 0 _ _ (0, 0) Hrow2.out
    have c1 : w2.cell? ⟨bc, 1, none⟩ = some (.int .i64 sq) := cell_of_row w2 bc 1 _ _ (0, 0) Hrow2.out
    have c2 : w2.cell? ⟨bc, 2, none⟩ = some (.int .i64 st) := cell_of_row w2 bc 2 _ _ (0, 0) Hrow2.out
    have c3 : w2.cell? ⟨bc, 3, none⟩ = some (.int .i64 tm) := cell_of_row w2 bc 3 _ _ (0, 0) Hrow2.out
    have c4 : w2.cell? ⟨bc, 4, none⟩ = some (.string ms) := cell_of_row w2 bc 4 _ _ (0, 0) Hrow2.out
    have c5 : w2.cell? ⟨bc, 5, none⟩ = some (.slice A n c) := cell_of_row w2 bc 5 _ _ (0, 0) Hrow2.out
    have c6 : w2.cell? ⟨bc, 6, none⟩ = some (.slice O on oc) := cell_of_row w2 bc 6 _ _ (0, 0) Hrow2.out
    go_wp2_with fail
    refine (rRight20_calls a sq st tm ms A n c D (.slice O on oc) w2 ⟨_, _, _, rfl⟩ (by omega) (by omega) (HD.out.below HB2.out) (by omega)).mono ?_
    rintro e w3 ⟨he, hb3⟩
    have HB3 := Lib.hid (below_seq HB2.out (Nat.le_refl _) hb3)
    have Hrow3 := Lib.hid (row_keep Hrow2.out hb3)
    clear hb3
    clear c0 c1 c2 c3 c4 c5 c6
    rcases he with rfl | ⟨rfl, q, s, rfl, rfl, hr⟩
    · go_wp2_with fail
      refine (awake20_calls _).mono ?_
      rintro e w9 ⟨rfl, hb9⟩
      have H9 := Lib.hid (below_seq HB3.out (Nat.le_refl _) hb9)
      clear hb9
      go_wp2_with fail
      go_ret
      exact ⟨rfl, H9.out⟩
    have Hr := Lib.hid hr
    clear hr
    have c0 : w3.cell? ⟨bc, 0, none⟩ = some (.string a) := cell_of_row w3 bc 0 _ _ (0, 0) Hrow3.out
    have c1 : w3.cell? ⟨bc, 1, none⟩ = some (.int .i64 q) := cell_of_row w3 bc 1 _ _ (0, 0) Hrow3.out
    have c2 : w3.cell? ⟨bc, 2, none⟩ = some (.int .i64 s) := cell_of_row w3 bc 2 _ _ (0, 0) Hrow3.out
    have c3 : w3.cell? ⟨bc, 3, none⟩ = some (.int .i64 tm) := cell_of_row w3 bc 3 _ _ (0, 0) Hrow3.out
    have c4 : w3.cell? ⟨bc, 4, none⟩ = some (.string ms) := cell_of_row w3 bc 4 _ _ (0, 0) Hrow3.out
    have c5 : w3.cell? ⟨bc, 5, none⟩ = some (.slice A n c) := cell_of_row w3 bc 5 _ _ (0, 0) Hrow3.out
    have c6 : w3.cell? ⟨bc, 6, none⟩ = some (.slice O on oc) := cell_of_row w3 bc 6 _ _ (0, 0) Hrow3.out
    go_wp2_with fail
    refine (spoken_calls a q s tm ms (.slice A n c) O on oc L w3 ⟨_, _, _, rfl⟩ (HO.out.below HB3.out) (by omega) HF.out).mono ?_
    rintro e w4 ⟨he, hb4⟩
    have HB4 := Lib.hid (below_seq HB3.out (Nat.le_refl _) hb4)
    have Hrow4 := Lib.hid (row_keep Hrow3.out hb4)
    clear hb4
    clear c0 c1 c2 c3 c4 c5 c6
    rcases he with rfl | ⟨rfl, hsp⟩
    · go_wp2_with fail
      refine (awake20_calls _).mono ?_
      rintro e w9 ⟨rfl, hb9⟩
      have H9 := Lib.hid (below_seq HB4.out (Nat.le_refl _) hb9)
      clear hb9
      go_wp2_with fail
      go_ret
      exact ⟨rfl, H9.out⟩
    have Hsp := Lib.hid hsp
    clear hsp
    have Htl : Hid (∀ T, IsTable a (namesL L) T → T.length ≤ 3361) := Lib.hid (fun T hT => table_len hT (names_few (by rw [HO.out.1]; omega) (opv_few HO.out.1 HF.out) (fun x hx => (HO.out.2.1 x hx).2.1)))
    have hsq := Hr.out.sq
    have hst := Hr.out.st
    unfold mostN at hsq hst
    have c0 : w4.cell? ⟨bc, 0, none⟩ = some (.string a) := cell_of_row w4 bc 0 _ _ (0, 0) Hrow4.out
    have c1 : w4.cell? ⟨bc, 1, none⟩ = some (.int .i64 q) := cell_of_row w4 bc 1 _ _ (0, 0) Hrow4.out
    have c2 : w4.cell? ⟨bc, 2, none⟩ = some (.int .i64 s) := cell_of_row w4 bc 2 _ _ (0, 0) Hrow4.out
    have c3 : w4.cell? ⟨bc, 3, none⟩ = some (.int .i64 tm) := cell_of_row w4 bc 3 _ _ (0, 0) Hrow4.out
    have c4 : w4.cell? ⟨bc, 4, none⟩ = some (.string ms) := cell_of_row w4 bc 4 _ _ (0, 0) Hrow4.out
    have c5 : w4.cell? ⟨bc, 5, none⟩ = some (.slice A n c) := cell_of_row w4 bc 5 _ _ (0, 0) Hrow4.out
    have c6 : w4.cell? ⟨bc, 6, none⟩ = some (.slice O on oc) := cell_of_row w4 bc 6 _ _ (0, 0) Hrow4.out
    go_wp2_with fail
    refine (hPut_calls a q s tm ms A n c D O on oc L w4 (by omega) (by omega) hsq.2 hst.2 Htm.out (HD.out.below HB4.out) (by omega) (HO.out.below HB4.out) (by omega) HF.out Htl.out).mono ?_
    rintro e w5 ⟨v5, T, rfl, hT, ho5, hb5⟩
    have HB5 := Lib.hid (below_seq HB4.out (Nat.le_refl _) hb5)
    have Hrow5 := Lib.hid (row_keep Hrow4.out hb5)
    obtain ⟨hfull, hcutE, hp1, hp2, hT1, hby⟩ := back_law Hr.out Htm.out HD.out.hs hT Hsp.out (Htl.out T hT)
    obtain ⟨Z, hZ⟩ : ∃ Z, Z = headB ⟨a, q, s, tm, ms, D⟩ T := ⟨_, rfl⟩
    rw [← hZ] at ho5 hfull hcutE hp1 hp2 hby
    obtain ⟨p, hp⟩ : ∃ p, p = Z.length := ⟨_, rfl⟩
    rw [← hp] at ho5 hfull hcutE hp1 hp2
    obtain ⟨g2, d2, rfl, _, hg2, hd2, _, _⟩ := own_form ho5 (by omega)
    obtain ⟨_, _, e2, _, hr5⟩ := own_rd ho5
    cases e2
    have Hr5 := Lib.hid hr5
    have Hfull := Lib.hid hfull
    have HcutE := Lib.hid hcutE
    have HT := Lib.hid hT
    have HpB := Lib.hid hby
    have Hp := Lib.hid hp
    clear hb5 hZ hr5 ho5 hfull hcutE hT hby hp
    clear c0 c1 c2 c3 c4 c5 c6
    obtain ⟨r, hrq⟩ : ∃ q, q = p + n2 := ⟨_, rfl⟩
    have hql : r ≤ 100000 := by omega
    have Hq := Lib.hid hrq
    obtain ⟨W6, hW6⟩ : ∃ W, W = w5 := ⟨_, rfl⟩
    subst hW6
    clear hrq
    go_wp2_with (first
      | (at_builtin; refine wpList_appRd rfl _ _ rfl elU8b (ys := []) (own_none09 W6 _) rfl rfl (Hr5.out.alloc _) (fun e => by cases e) (by omega) (by simp) ?_; intro v8 w8 hown8 hg8; rw [Nat.zero_add, List.nil_append] at hown8; have hb8 : Below W6.heap.size W6 w8 := ((Below.refl _ _).alloc (Nat.le_refl _) _).grown hg8 (by simp) (fun k hk => by simp [Value.ownBlock] at hk; omega))
      | (at_builtin; refine wpList_appRd rfl _ _ rfl elU8b hown8 rfl rfl ((HR.out.rd.below HB5.out).below hb8) HR.out.nil (by omega) hb8.size ?_; intro v9 w9 hown9 hg9; have hb9 : Below W6.heap.size W6 w9 := hb8.grown hg9 hb8.size (fun k hk => (hown8.lt k hk).1); rw [← Hq.out] at hown9; obtain ⟨A9, c9, rfl, hc9, hr9⟩ := own_rd hown9; have HN9 := Lib.hid (own_none hown9); have Hr9 := Lib.hid hr9; have Hb9 := Lib.hid hb9; clear hown8 hg8 hb8 hown9 hg9 hb9 hr9))
    have HB9 := Lib.hid (below_seq HB5.out (Nat.le_refl _) Hb9.out)
    have hbs9 : BSl _ A9 r c9 (Z ++ mr) := ⟨Hr9.out, HN9.out, hc9⟩
    refine (hGet_calls A9 r c9 (Z ++ mr) _ hbs9 (fun x hx => (List.mem_append.1 hx).elim (HpB.out x) (Hb.out x)) hql (fun h0 => bsl_lt hbs9 h0)).mono ?_
    rintro e w10 ⟨hb10, ⟨f, hf, _⟩ | ⟨x', T', q', dv, tv, hE, rfl, hod, _, hot, _⟩⟩
    · rw [Hfull.out] at hf; cases hf
    rw [Hfull.out] at hE
    simp only [Except.ok.injEq, Prod.mk.injEq] at hE
    obtain ⟨⟨rfl, rfl⟩, rfl⟩ := hE
    obtain ⟨Ad, cd, rfl⟩ := own_slice hod
    have HD10 := Lib.hid (deps_own hod HD.out.hs rfl)
    obtain ⟨At, ct, rfl, _, hrt, _⟩ := own_rdS hot
    have Hrt := Lib.hid hrt
    have hb610 := below_seq Hb9.out (Nat.le_refl _) hb10
    have HB10 := Lib.hid (below_seq HB9.out (Nat.le_refl _) hb10)
    have Hrow10 := Lib.hid (row_keep Hrow5.out hb610)
    have Hr10 := Lib.hid (Hr5.out.below hb610)
    have hDl : D.length = n := HD.out.len
    simp only [hDl] at HD10 ⊢
    clear hbs9 hod hot hrt hb10 hb610
    go_upto_region 5 with fail
    obtain ⟨W8, hW8⟩ : ∃ X, X = w10.alloc (.cells #[.string a, .int .i64 q, .int .i64 s, .int .i64 tm, .string ms, .slice Ad n cd, .slice none 0 0] 27) := ⟨_, rfl⟩
    obtain ⟨g8, hg8⟩ : ∃ g, g = w10.heap.size := ⟨_, rfl⟩
    rw [← hW8, ← hg8]
    have hb8 : Below w10.heap.size w10 W8 := by rw [hW8]; exact (Below.refl _ _).alloc (Nat.le_refl _) _
    have Hrow8 : Hid (W8.heap[g8]? = some (.cells (chgC2 a q s tm ms (.slice Ad n cd) (.slice none 0 0)) 27 (0, 0))) := Lib.hid (by rw [hW8, hg8]; exact heap_alloc_new w10 _)
    have HB8 := Lib.hid (below_seq HB10.out (Nat.le_refl _) hb8)
    have HrowB8 := Lib.hid (row_keep Hrow10.out hb8)
    have HrB8 := Lib.hid (Hr10.out.below hb8)
    have HD8 := Lib.hid (HD10.out.below hb8)
    have Hrt8 := Lib.hid (Hrt.out.below hb8)
    clear hW8 hg8 hb8
    obtain ⟨k, hk, hkn⟩ := tmod_less9 Hc.out.1 hp1
    have hwc := wrap64_small9 (c := cut) Hc.out
    have Hrk := Lib.hid (rd_take9 HrB8.out k (by omega))
    have hkd : k ≤ d2 := by omega
    go_wp2_with fail
    have hbsk : BSl W8 (some ⟨g2, 0, none⟩) k d2 (Z.take k) := ⟨Hrk.out, (fun e => by cases e), hkd⟩
    refine (hGet_calls (some ⟨g2, 0, none⟩) k d2 (Z.take k) _ hbsk (fun x hx => HpB.out x (List.mem_of_mem_take hx)) (by omega) (fun h0 => bsl_lt hbsk h0)).mono ?_
    rintro e w11 ⟨hb11, ⟨f, hf, _, rfl⟩ | ⟨x', T', q', dv, tv, hE, _, _, _, _, _⟩⟩
    · rw [HcutE.out k hkn] at hf
      cases hf
      have HB11 := Lib.hid (below_seq HB8.out (Nat.le_refl _) hb11)
      have Hrow11 := Lib.hid (row_keep Hrow8.out hb11)
      have HrowB11 := Lib.hid (row_keep HrowB8.out hb11)
      have HD11 := Lib.hid (HD8.out.below hb11)
      have Hrt11 := Lib.hid (Hrt8.out.below hb11)
      clear hbsk hb11
      go_upto_region 6 with fail
      obtain ⟨W12, hW12⟩ : ∃ X, X = w11.alloc (.cells #[.string ⟨#[]⟩, .int .i64 0, .int .i64 0, .int .i64 0, .string ⟨#[]⟩, .slice none 0 0, .slice none 0 0] 27) := ⟨_, rfl⟩
      obtain ⟨g12, hg12⟩ : ∃ g, g = w11.heap.size := ⟨_, rfl⟩
      rw [← hW12, ← hg12]
      have hb12 : Below w11.heap.size w11 W12 := by rw [hW12]; exact (Below.refl _ _).alloc (Nat.le_refl _) _
      have Hrow12 : Hid (W12.heap[g12]? = some (.cells (chgC2 ⟨#[]⟩ 0 0 0 ⟨#[]⟩ (.slice none 0 0) (.slice none 0 0)) 27 (0, 0))) := Lib.hid (by rw [hW12, hg12]; exact heap_alloc_new w11 _)
      have HB12 := Lib.hid (below_seq HB11.out (Nat.le_refl _) hb12)
      have Hx12 := Lib.hid (row_keep Hrow11.out hb12)
      have Hc12 := Lib.hid (row_keep HrowB11.out hb12)
      have HD12 := Lib.hid (HD11.out.below hb12)
      have Hrt12 := Lib.hid (Hrt11.out.below hb12)
      clear hW12 hg12 hb12
      have c0 : W12.cell? ⟨bc, 0, none⟩ = some (.string a) := cell_of_row W12 bc 0 _ _ (0, 0) Hc12.out
      have c1 : W12.cell? ⟨bc, 1, none⟩ = some (.int .i64 q) := cell_of_row W12 bc 1 _ _ (0, 0) Hc12.out
      have c2 : W12.cell? ⟨bc, 2, none⟩ = some (.int .i64 s) := cell_of_row W12 bc 2 _ _ (0, 0) Hc12.out
      have c3 : W12.cell? ⟨bc, 3, none⟩ = some (.int .i64 tm) := cell_of_row W12 bc 3 _ _ (0, 0) Hc12.out
      have c4 : W12.cell? ⟨bc, 4, none⟩ = some (.string ms) := cell_of_row W12 bc 4 _ _ (0, 0) Hc12.out
      have c5 : W12.cell? ⟨bc, 5, none⟩ = some (.slice A n c) := cell_of_row W12 bc 5 _ _ (0, 0) Hc12.out
      have c6 : W12.cell? ⟨bc, 6, none⟩ = some (.slice O on oc) := cell_of_row W12 bc 6 _ _ (0, 0) Hc12.out
      go_upto_region 8 with fail
      obtain ⟨W17, hW17⟩ : ∃ X, X = W12.alloc (.cells #[.string a, .int .i64 q, .int .i64 s, .int .i64 tm, .string ms, .slice A n c, .slice none 0 0] 27) := ⟨_, rfl⟩
      obtain ⟨g16, hg16⟩ : ∃ g, g = W12.heap.size := ⟨_, rfl⟩
      rw [← hW17, ← hg16]
      have hb17 : Below W12.heap.size W12 W17 := by rw [hW17]; exact (Below.refl _ _).alloc (Nat.le_refl _) _
      have HwX : Hid (W17.heap[g16]? = some (.cells (chgC2 a q s tm ms (.slice A n c) (.slice none 0 0)) 27 (0, 0))) := Lib.hid (by rw [hW17, hg16]; exact heap_alloc_new W12 _)
      clear c0 c1 c2 c3 c4 c5 c6
      have HB17 := Lib.hid (below_seq HB12.out (Nat.le_refl _) hb17)
      have Hx17 := Lib.hid (row_keep Hx12.out hb17)
      have Hc17 := Lib.hid (row_keep Hc12.out hb17)
      have Hz17 := Lib.hid (row_keep Hrow12.out hb17)
      have HD17 := Lib.hid (HD12.out.below hb17)
      have Hrt17 := Lib.hid (Hrt12.out.below hb17)
      clear hW17 hb17 hg16
      have c0 : W17.cell? ⟨bc, 0, none⟩ = some (.string a) := cell_of_row W17 bc 0 _ _ (0, 0) Hc17.out
      have c1 : W17.cell? ⟨bc, 1, none⟩ = some (.int .i64 q) := cell_of_row W17 bc 1 _ _ (0, 0) Hc17.out
      have c2 : W17.cell? ⟨bc, 2, none⟩ = some (.int .i64 s) := cell_of_row W17 bc 2 _ _ (0, 0) Hc17.out
      have c3 : W17.cell? ⟨bc, 3, none⟩ = some (.int .i64 tm) := cell_of_row W17 bc 3 _ _ (0, 0) Hc17.out
      have c4 : W17.cell? ⟨bc, 4, none⟩ = some (.string ms) := cell_of_row W17 bc 4 _ _ (0, 0) Hc17.out
      have c5 : W17.cell? ⟨bc, 5, none⟩ = some (.slice A n c) := cell_of_row W17 bc 5 _ _ (0, 0) Hc17.out
      have c6 : W17.cell? ⟨bc, 6, none⟩ = some (.slice O on oc) := cell_of_row W17 bc 6 _ _ (0, 0) Hc17.out
      have x0 : W17.cell? ⟨g8, 0, none⟩ = some (.string a) := cell_of_row W17 g8 0 _ _ (0, 0) Hx17.out
      have x1 : W17.cell? ⟨g8, 1, none⟩ = some (.int .i64 q) := cell_of_row W17 g8 1 _ _ (0, 0) Hx17.out
      have x2 : W17.cell? ⟨g8, 2, none⟩ = some (.int .i64 s) := cell_of_row W17 g8 2 _ _ (0, 0) Hx17.out
      have x3 : W17.cell? ⟨g8, 3, none⟩ = some (.int .i64 tm) := cell_of_row W17 g8 3 _ _ (0, 0) Hx17.out
      have x4 : W17.cell? ⟨g8, 4, none⟩ = some (.string ms) := cell_of_row W17 g8 4 _ _ (0, 0) Hx17.out
      have x5 : W17.cell? ⟨g8, 5, none⟩ = some (.slice Ad n cd) := cell_of_row W17 g8 5 _ _ (0, 0) Hx17.out
      have x6 : W17.cell? ⟨g8, 6, none⟩ = some (.slice none 0 0) := cell_of_row W17 g8 6 _ _ (0, 0) Hx17.out
      have y0 : W17.cell? ⟨g16, 0, none⟩ = some (.string a) := cell_of_row W17 g16 0 _ _ (0, 0) HwX.out
      have y1 : W17.cell? ⟨g16, 1, none⟩ = some (.int .i64 q) := cell_of_row W17 g16 1 _ _ (0, 0) HwX.out
      have y2 : W17.cell? ⟨g16, 2, none⟩ = some (.int .i64 s) := cell_of_row W17 g16 2 _ _ (0, 0) HwX.out
      have y3 : W17.cell? ⟨g16, 3, none⟩ = some (.int .i64 tm) := cell_of_row W17 g16 3 _ _ (0, 0) HwX.out
      have y4 : W17.cell? ⟨g16, 4, none⟩ = some (.string ms) := cell_of_row W17 g16 4 _ _ (0, 0) HwX.out
      have y5 : W17.cell? ⟨g16, 5, none⟩ = some (.slice A n c) := cell_of_row W17 g16 5 _ _ (0, 0) HwX.out
      have y6 : W17.cell? ⟨g16, 6, none⟩ = some (.slice none 0 0) := cell_of_row W17 g16 6 _ _ (0, 0) HwX.out
      go_wp2_with fail
      refine (rSame20_calls a q s tm ms Ad A n cd c D W17 HD17.out (HD.out.below HB17.out) (by omega) (by omega) (by omega)).mono ?_
      rintro e w18 ⟨rfl, hb18⟩
      have HB18 := Lib.hid (below_seq HB17.out (Nat.le_refl _) hb18)
      have Hc18 := Lib.hid (row_keep Hc17.out hb18)
      have Hz18 := Lib.hid (row_keep Hz17.out hb18)
      have Hrt18 := Lib.hid (Hrt17.out.below hb18)
      clear hb18
      clear x0 x1 x2 x3 x4 x5 x6 y0 y1 y2 y3 y4 y5 y6
      clear c0 c1 c2 c3 c4 c5 c6
      have c0 : w18.cell? ⟨bc, 0, none⟩ = some (.string a) := cell_of_row w18 bc 0 _ _ (0, 0) Hc18.out
      have c1 : w18.cell? ⟨bc, 1, none⟩ = some (.int .i64 q) := cell_of_row w18 bc 1 _ _ (0, 0) Hc18.out
      have c2 : w18.cell? ⟨bc, 2, none⟩ = some (.int .i64 s) := cell_of_row w18 bc 2 _ _ (0, 0) Hc18.out
      have c3 : w18.cell? ⟨bc, 3, none⟩ = some (.int .i64 tm) := cell_of_row w18 bc 3 _ _ (0, 0) Hc18.out
      have c4 : w18.cell? ⟨bc, 4, none⟩ = some (.string ms) := cell_of_row w18 bc 4 _ _ (0, 0) Hc18.out
      have c5 : w18.cell? ⟨bc, 5, none⟩ = some (.slice A n c) := cell_of_row w18 bc 5 _ _ (0, 0) Hc18.out
      have c6 : w18.cell? ⟨bc, 6, none⟩ = some (.slice O on oc) := cell_of_row w18 bc 6 _ _ (0, 0) Hc18.out
      go_wp2_with fail
      refine (rTable_calls a O on oc L w18 (HO.out.below HB18.out) (by omega) HF.out).mono ?_
      rintro e w19 ⟨v19, T19, rfl, hT19, ho19, hb19⟩
      obtain rfl := hT19.same HT.out (fun _ => Iff.rfl)
      obtain ⟨A19, c19, rfl, _, hr19, _⟩ := own_rdS ho19
      have Hr19 := Lib.hid hr19
      have HB19 := Lib.hid (below_seq HB18.out (Nat.le_refl _) hb19)
      have Hz19 := Lib.hid (row_keep Hz18.out hb19)
      have Hrt19 := Lib.hid (Hrt18.out.below hb19)
      clear hb19 hT19 ho19 hr19
      clear c0 c1 c2 c3 c4 c5 c6
      go_wp2_with fail
      refine (Same_calls At A19 _ ct c19 _ w19 Hrt19.out Hr19.out (by have := Htl.out _ HT.out; omega)).mono ?_
      rintro e w20 ⟨rfl, hb20⟩
      have HB20 := Lib.hid (below_seq HB19.out (Nat.le_refl _) hb20)
      have Hz20 := Lib.hid (row_keep Hz19.out hb20)
      clear hb20
      have z0 : w20.cell? ⟨g12, 0, none⟩ = some (.string ⟨#[]⟩) := cell_of_row w20 g12 0 _ _ (0, 0) Hz20.out
      have z1 : w20.cell? ⟨g12, 1, none⟩ = some (.int .i64 0) := cell_of_row w20 g12 1 _ _ (0, 0) Hz20.out
      have z2 : w20.cell? ⟨g12, 2, none⟩ = some (.int .i64 0) := cell_of_row w20 g12 2 _ _ (0, 0) Hz20.out
      have z3 : w20.cell? ⟨g12, 3, none⟩ = some (.int .i64 0) := cell_of_row w20 g12 3 _ _ (0, 0) Hz20.out
      have z4 : w20.cell? ⟨g12, 4, none⟩ = some (.string ⟨#[]⟩) := cell_of_row w20 g12 4 _ _ (0, 0) Hz20.out
      have z5 : w20.cell? ⟨g12, 5, none⟩ = some (.slice none 0 0) := cell_of_row w20 g12 5 _ _ (0, 0) Hz20.out
      have z6 : w20.cell? ⟨g12, 6, none⟩ = some (.slice none 0 0) := cell_of_row w20 g12 6 _ _ (0, 0) Hz20.out
      go_wp2_with fail
      refine (rSame20_calls ⟨#[]⟩ 0 0 0 ⟨#[]⟩ none none 0 0 0 [] _ (deps_nil _) (deps_nil _) (by decide) (by decide) (by decide)).mono ?_
      rintro e w21 ⟨rfl, hb21⟩
      have HB21 := Lib.hid (below_seq HB20.out (Nat.le_refl _) hb21)
      clear hb21
      go_wp2_with fail
      go_ret
      exact ⟨rfl, HB21.out⟩
    · rw [HcutE.out k hkn] at hE
      cases hE
  · go_wp2_with fail
    refine (awake20_calls _).mono ?_
    rintro e w9 ⟨rfl, hb9⟩
    have H9 := Lib.hid (below_seq HB2.out (Nat.le_refl _) hb9)
    clear hb9
    go_wp2_with fail
    go_ret
    exact ⟨rfl, H9.out⟩
theorem isRow_nil9 {k : IntKind} {w : World} {a : Option Addr} {len cap : Nat} {zs : List Int} (h : IsRow k w a len cap zs) : a = none → len = 0 ∧ cap = 0 := by
  rcases h with ⟨_, h1, h2, _⟩ | ⟨x, rfl, _⟩
  · exact fun _ => ⟨h1, h2⟩
  · intro e; cases e
theorem isRow_le9 {k : IntKind} {w : World} {a : Option Addr} {len cap : Nat} {zs : List Int} (h : IsRow k w a len cap zs) : len ≤ cap := by
  rcases h with ⟨_, h1, h2, _⟩ | ⟨x, _, h, _⟩
  · omega
  · exact h
theorem isRow_bsl9 {w : World} {a : Option Addr} {len cap : Nat} {zs : List Int} (h : IsRow .u8 w a len cap zs) : BSl w a len cap (zs.take len) ∧ ∀ x ∈ zs.take len, 0 ≤ x ∧ x ≤ 255 := by
  refine ⟨⟨h.rd, isRow_nil9 h, isRow_le9 h⟩, fun x hx => ?_⟩
  obtain ⟨j, hj, rfl⟩ := List.getElem_of_mem hx
  have := h.u8 j (by have := h.rd.1; omega)
  rwa [rd_getElem hj] at this
theorem u16_wf9 {x : Int} (h : (Lit.int .u16 x).wf = true) : 0 ≤ x ∧ x ≤ 65535 := by
  simp [Lit.wf, IntKind.min, IntKind.max, IntKind.signed, IntKind.bits] at h
  omega
theorem HeadBack_walk (a : ByteArray) (sq st tm : Int) (ms : ByteArray) (A : Option Addr) (n c : Nat) (D : List (List Int)) (O : Option Addr) (on oc : Nat) (L : List OpV) (B : Option Addr) (n2 c2 : Nat) (z : List Int) (cut : Int) (w : World) (ha : a.size ≤ maxLen) (htm : I64 tm) (hms : ms.size ≤ maxLen)
    (hD : DepsAt w A n c D) (hn : n ≤ maxLen) (hO : OpsAt w O on L) (hon : on ≤ maxLen) (h : IsRow .u8 w B n2 c2 z) (y : n2 * 1 ≤ 140737488351232) (h2 : (Lit.int .u16 cut).wf = true) :
    Calls Try.prog 4 #[.agg (chgC2 a sq st tm ms (.slice A n c) (.slice O on oc)), .slice B n2 c2, .int .u16 cut] w fun e w' => e = .returned (.bool true) ∧ Below w.heap.size w w' :=
  HeadBack_calls a sq st tm ms A n c D O on oc L B n2 c2 (z.take n2) cut w ha hms htm hD hn hO hon (isRow_bsl9 h).1 (isRow_bsl9 h).2 (by omega) (u16_wf9 h2)
end Go.Proofs.Ytdbkbeojedndbaa
