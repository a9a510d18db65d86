/-
  Texts joined into one file: Idx, GetA, UtfW.
-/
import Derived.Test.YtdbkbeojedndbaaJHeadG2
import Derived.Deep.RegionWith
import Derived.Test.YtdbkbeojedndbaaJHeadG7
import Derived.Test.YtdbkbeojedndbaaJHeadG6
import Derived.Sort.Walk0
import Derived.Deep.Cut
import Derived.Deep.CutRange
import Derived.Deep.CutBlock
import Derived.Test.YtdbkbeojedndbaaJHeadG4
/-
  The walks of Same, Index (the program's and the reference's).
-/
namespace Go.Proofs.Ytdbkbeojedndbaa
open Go.RowKit

set_option maxHeartbeats 1000000 in
set_option maxRecDepth 100000 in
theorem Same_calls (A B : Option Addr) (n c d : Nat) (T : List ByteArray) (w : World) (hA : RdS w A n T) (hB : RdS w B n T) (hn : n ≤ 1000000) :
    Calls Try.prog 13 #[.slice A n c, .slice B n d] w fun e w' => e = .returned (.bool true) ∧ Below w.heap.size w w' := by
  have HA := Lib.hid hA.2
  have HB := Lib.hid hB.2
  clear hA hB
  go_enter Try.func13, Try.ntmps13
  go_wp2_with fail
  go_loopw [5] (fun i wr => ∃ k : Nat, k ≤ n ∧ i = .int .i64 k ∧ Hid (Below w.heap.size w wr)) (fun i _ => n - (intOf i).toNat)
  case atStart => exact ⟨0, by omega, rfl, Below.refl _ _⟩
  case round =>
    obtain ⟨k, hk, rfl, HBr⟩ := hrel
    obtain ⟨W, hW⟩ : ∃ W, W = wr := ⟨_, rfl⟩
    subst hW
    by_cases hlt : k < n
    · obtain ⟨b, o, e1, hc⟩ := HA.out (by omega)
      obtain ⟨b', o', e2, hc'⟩ := HB.out (by omega)
      have c1 := kept_cell HBr.out (hc k hlt)
      have c2 := kept_cell HBr.out (hc' k hlt)
      obtain ⟨s, hs⟩ : ∃ s, s = str T k := ⟨_, rfl⟩
      rw [← hs] at c1 c2
      subst e1
      subst e2
      clear hc hc' hs
      go_wp2_with fail
      go_region
      go_wp2_with fail
      go_roundw
      case rel => exact ⟨k + 1, by omega, by go_num, HBr.out.drew⟩
      case measure => simp [intOf]; omega
    · obtain rfl : k = n := by omega
      go_wp2_with fail
      go_ret
      exact ⟨rfl, HBr.out⟩
/-- Where a text stands first; -1: nowhere. -/
def IsIdx (T : List ByteArray) (s : ByteArray) (r : Int) : Prop := (r = -1 ∧ ∀ i, i < T.length → str T i ≠ s) ∨ (∃ j : Nat, r = j ∧ j < T.length ∧ str T j = s ∧ ∀ i, i < j → str T i ≠ s)
theorem IsIdx.same {T : List ByteArray} {s : ByteArray} {r q : Int} (h : IsIdx T s r) (k : IsIdx T s q) : r = q := by
  rcases h with ⟨rfl, h⟩ | ⟨j, rfl, h1, h2, h3⟩
  · rcases k with ⟨rfl, _⟩ | ⟨i, rfl, k1, k2, _⟩
    · rfl
    · exact absurd k2 (h i k1)
  · rcases k with ⟨rfl, k⟩ | ⟨i, rfl, k1, k2, k3⟩
    · exact absurd h2 (k j h1)
    · rcases Nat.lt_trichotomy i j with e | e | e
      · exact absurd k2 (h3 i e)
      · rw [e]
      · exact absurd h2 (k3 j e)
set_option maxHeartbeats 1000000 in
set_option maxRecDepth 100000 in
theorem sIndex_calls (A : Option Addr) (n c : Nat) (T : List ByteArray) (s : ByteArray) (w : World) (hA : RdS w A n T) (hn : n ≤ 1000000) :
    Calls Try.prog 122 #[.slice A n c, .string s] w fun e w' => ∃ r, e = .returned (.int .i64 r) ∧ Hid (IsIdx T s r) ∧ w' = w := by
  have HA := Lib.hid hA.2
  have Hl := Lib.hid hA.1
  clear hA
  go_enter Try.func122, Try.ntmps122
  go_wp2_with fail
  go_loopw [8] (fun i wr => ∃ k : Nat, k ≤ n ∧ i = .int .i64 k ∧ Hid (∀ j, j < k → str T j ≠ s) ∧ wr = w) (fun i _ => n - (intOf i).toNat)
  case atStart => exact ⟨0, by omega, rfl, Lib.hid (fun j hj => by omega), rfl⟩
  case round =>
    obtain ⟨k, hk, rfl, HN, hw⟩ := hrel
    obtain ⟨W, hW⟩ : ∃ W, W = wr := ⟨_, rfl⟩
    rw [← hW] at hw ⊢
    subst hw
    clear hW
    by_cases hlt : k < n
    · obtain ⟨b, o, e1, hc⟩ := HA.out (by omega)
      have c1 := hc k hlt
      obtain ⟨t, ht⟩ : ∃ t, t = str T k := ⟨_, rfl⟩
      rw [← ht] at c1
      have Ht := Lib.hid ht
      subst e1
      clear hc ht
      by_cases he : t = s
      · have hq : (s.toList == t.toList) = true := by rw [tl_beq]; exact decide_eq_true he.symm
        have hq2 : s.toList = t.toList := by rw [he]
        have He := Lib.hid he
        clear he
        go_wp2_with fail
        go_ret
        exact ⟨_, rfl, .inr ⟨k, rfl, by rw [Hl.out]; exact hlt, by rw [← Ht.out]; exact He.out, HN.out⟩, rfl⟩
      · have hq : (s.toList == t.toList) = false := by rw [tl_beq]; exact decide_eq_false (fun e => he e.symm)
        have hq2 : ¬ s.toList = t.toList := fun e => he ((tl_iff _ _).1 e).symm
        go_wp2_with fail
        go_roundw
        case rel =>
          refine ⟨k + 1, by omega, by go_num, Lib.hid (fun j hj => ?_), trivial⟩
          rcases Nat.lt_or_ge j k with g | g
          · exact HN.out j g
          · obtain rfl : j = k := by omega
            rw [← Ht.out]; exact he
        case measure => simp [intOf]; omega
    · obtain rfl : k = n := by omega
      go_wp2_with fail
      go_ret
      exact ⟨_, rfl, .inl ⟨rfl, by rw [Hl.out]; exact HN.out⟩, rfl⟩
theorem Index_calls (A : Option Addr) (n c : Nat) (T : List ByteArray) (s : ByteArray) (w : World) (hA : RdS w A n T) (hn : n ≤ 1000000) :
    Calls Try.prog 98 #[.slice A n c, .string s] w fun e w' => ∃ r, e = .returned (.int .i64 r) ∧ Hid (IsIdx T s r) ∧ w' = w := by
  go_enter Try.func98, Try.ntmps98
  go_wp2_with fail
  refine (sIndex_calls A n c T s w hA hn).mono ?_
  rintro e w' ⟨r, rfl, hr, rfl⟩
  go_wp2_with fail
  go_ret
  exact ⟨r, rfl, hr, rfl⟩
set_option maxHeartbeats 1000000 in
set_option maxRecDepth 100000 in
theorem rIndex_calls (A : Option Addr) (n c : Nat) (T : List ByteArray) (s : ByteArray) (w : World) (hA : RdS w A n T) (hn : n ≤ 1000000) :
    Calls Try.prog 58 #[.slice A n c, .string s] w fun e w' => ∃ r, e = .returned (.int .i64 r) ∧ Hid (IsIdx T s r) ∧ w' = w := by
  have HA := Lib.hid hA.2
  have Hl := Lib.hid hA.1
  clear hA
  go_enter Try.func58, Try.ntmps58
  go_wp2_with fail
  go_loopw [5] (fun i wr => ∃ k : Nat, k ≤ n ∧ i = .int .i64 k ∧ Hid (∀ j, j < k → str T j ≠ s) ∧ wr = w) (fun i _ => n - (intOf i).toNat)
  case atStart => exact ⟨0, by omega, rfl, Lib.hid (fun j hj => by omega), rfl⟩
  case round =>
    obtain ⟨k, hk, rfl, HN, hw⟩ := hrel
    obtain ⟨W, hW⟩ : ∃ W, W = wr := ⟨_, rfl⟩
    rw [← hW] at hw ⊢
    subst hw
    clear hW
    by_cases hlt : k < n
    · obtain ⟨b, o, e1, hc⟩ := HA.out (by omega)
      have c1 := hc k hlt
      obtain ⟨t, ht⟩ : ∃ t, t = str T k := ⟨_, rfl⟩
      rw [← ht] at c1
      have Ht := Lib.hid ht
      subst e1
      clear hc ht
      by_cases he : t = s
      · have hq : (t.toList == s.toList) = true := by rw [tl_beq]; exact decide_eq_true he
        have hq2 : t.toList = s.toList := by rw [he]
        have He := Lib.hid he
        clear he
        go_wp2_with fail
        go_ret
        exact ⟨_, rfl, .inr ⟨k, rfl, by rw [Hl.out]; exact hlt, by rw [← Ht.out]; exact He.out, HN.out⟩, rfl⟩
      · have hq : (t.toList == s.toList) = false := by rw [tl_beq]; exact decide_eq_false he
        have hq2 : ¬ t.toList = s.toList := fun e => he ((tl_iff _ _).1 e)
        go_wp2_with fail
        go_roundw
        case rel =>
          refine ⟨k + 1, by omega, by go_num, Lib.hid (fun j hj => ?_), trivial⟩
          rcases Nat.lt_or_ge j k with g | g
          · exact HN.out j g
          · obtain rfl : j = k := by omega
            rw [← Ht.out]; exact he
        case measure => simp [intOf]; omega
    · obtain rfl : k = n := by omega
      go_wp2_with fail
      go_ret
      exact ⟨_, rfl, .inl ⟨rfl, by rw [Hl.out]; exact HN.out⟩, rfl⟩
end Go.Proofs.Ytdbkbeojedndbaa
/-
  The walk of actors.Get.
-/
namespace Go.Proofs.Ytdbkbeojedndbaa
open Go.RowKit

theorem bl_text (a b : ByteArray) (c : Bool) (hc : c = true ↔ ltB a b) : Op.bytesLess a.toList b.toList = c := by
  rw [bytesLess_eq, Lib.toList_data, Lib.toList_data]
  cases c
  · exact decide_eq_false (fun h => absurd (hc.2 h) (by decide))
  · exact decide_eq_true (hc.1 rfl)
/-- What Get ends with. -/
structure GetEnd (w : World) (au : ByteArray) (b : List Int) (e : Ending) (w' : World) : Prop where
  bel : Below w.heap.size w w'
  is : ∃ (T : List ByteArray) (p : Nat) (f : Int) (v : Value), IsTab au b T p f ∧ T.length ≤ 1000000 ∧ e = .returned (.tuple #[v, .int .i64 p, .int .i64 f]) ∧ w'.ownsRow w.heap.size 9 1 v T.length (strs T)
theorem drop_drop_text (b : List Int) (p k v : Nat) : textAt (b.drop p) k v = textAt b (p + k) v := by
  unfold textAt
  rw [List.drop_drop]
set_option maxHeartbeats 1000000 in
set_option maxRecDepth 100000 in
theorem Get_calls (au : ByteArray) (A : Option Addr) (n c : Nat) (b : List Int) (w : World) (hR : BSl w A n c b) (hb : ∀ x ∈ b, 0 ≤ x ∧ x ≤ 255) (hn : n ≤ 100000) :
    Calls Try.prog 32 #[.string au, .slice A n c] w (GetEnd w au b) := by
  have HR := Lib.hid hR
  have Hl := Lib.hid hR.rd.1
  have Hb := Lib.hid hb
  have hcap := hR.cap
  clear hR hb
  go_enter Try.func32, Try.ntmps32
  go_wp2_with fail
  refine (GetU_calls A n c b w HR.out.rd HR.out.nil hcap Hb.out (by omega)).mono ?_
  rintro e w1 ⟨N, k0, f, rfl, Hg, hb1⟩
  have HB1 := Lib.hid hb1
  have HR1 := Lib.hid (HR.out.below hb1)
  have hs1 := hb1.size
  clear hb1
  by_cases hf : f = 0
  · subst hf
    obtain ⟨hk1, hk10, hkn, hN64⟩ := isGet_rng Hg.out
    rw [Hl.out] at hkn
    obtain ⟨b0, o0, e0, hcell0⟩ := HR.out.rd.2 (by omega)
    subst e0
    have hb0w : b0 < w.heap.size := World.block_lt_of_cell? _ _ (hcell0 0 (by omega))
    have hlit := World.ownsRow_lit (base := w.heap.size) (size := 1) (e := 9) w1 #[.string au] 1 hs1 (by simp [maxLen]) rfl
    have Hlit := Lib.hid hlit
    have HBl := Lib.hid (HB1.out.alloc hs1 (.cells #[.string au] 9))
    have HRl := Lib.hid (HR1.out.below ((Below.refl _ _).alloc (Nat.le_refl _) (.cells #[.string au] 9)))
    clear hcell0 hlit
    have hrest : ∀ o' c', (o' = o0 + k0 ∨ n - k0 = 0) → n - k0 ≤ c' → BSl (w1.alloc (.cells #[.string au] 9)) (some ⟨b0, o', none⟩) (n - k0) c' (b.drop k0) := fun o' c' ho hc' => by
      refine ⟨?_, (fun e => by cases e), hc'⟩
      rcases ho with rfl | h0
      · exact rd_drop_at HRl.out.rd (by omega) hkn
      · exact ⟨by rw [List.length_drop, Hl.out], fun h => by omega⟩
    have Hrest := Lib.hid hrest
    clear hrest
    go_upto_region 5 with fail
    obtain ⟨W0, hW0⟩ : ∃ W, W = w1.alloc (.cells #[.string au] 9) := ⟨_, rfl⟩
    rw [← hW0] at Hlit HBl HRl Hrest ⊢
    clear hW0
    go_cut [11] from 24 to 67 (fun v wx => ∃ o' c', v = .slice (some ⟨b0, o', none⟩) (n - k0) c' ∧ Hid (BSl W0 (some ⟨b0, o', none⟩) (n - k0) c' (b.drop k0)) ∧ wx = W0)
    case first =>
      by_cases hkc : k0 < c
      · go_wp2_with fail
        go_meet
        exact ⟨o0 + k0, c - k0, rfl, Hrest.out _ _ (.inl rfl) (by omega), rfl⟩
      · go_wp2_with fail
        go_meet
        exact ⟨o0, c - k0, rfl, Hrest.out _ _ (.inr (by omega)) (by omega), rfl⟩
    case rest =>
      obtain ⟨o', c', rfl, HRr, hw⟩ := hcut
      obtain ⟨W2, hW2⟩ : ∃ W, W = wc := ⟨_, rfl⟩
      rw [← hW2] at hw ⊢
      subst hw
      clear hW2 Hrest
      go_wp2_with fail
      go_loopw [10, 11, 28] (fun vo vr i wr => ∃ (i' p o1 c1 : Nat) (out : List ByteArray), i' ≤ N ∧ i = .int .u64 i' ∧ p ≤ n ∧ i' ≤ p ∧ vr = .slice (some ⟨b0, o1, none⟩) (n - p) c1 ∧ Hid (BSl wr (some ⟨b0, o1, none⟩) (n - p) c1 (b.drop p)) ∧ Hid (wr.ownsRow w.heap.size 9 1 vo (i' + 1) (strs out)) ∧ Hid (∀ T q e, Reads au b (N - i') p out T q e → Reads au b N k0 [au] T q e) ∧ Hid (Below w.heap.size w wr)) (fun _ _ i _ => N - (intOf i).toNat)
      case atStart => exact ⟨0, k0, o', c', [au], by omega, rfl, hkn, by omega, rfl, HRr.out, Hlit.out, Lib.hid (fun T q e h => h), HBl.out⟩
      case round =>
        obtain ⟨i', p, o1, c1, out, hi, rfl, hp, hip, rfl, HRp, HO, HC, HBr⟩ := hrel
        obtain ⟨W, hW⟩ : ∃ W, W = wr := ⟨_, rfl⟩
        subst hW
        have hol : out.length = i' + 1 := by have := HO.out.1; rw [strs_length] at this; omega
        have Hol := Lib.hid hol
        obtain ⟨Ao, co, hvo⟩ := own_slice HO.out
        subst hvo
        obtain ⟨nm5, hnm5⟩ : ∃ x, x = i' + 1 := ⟨_, rfl⟩
        rw [← hnm5] at HO ⊢
        have hnm59 : nm5 ≤ 100001 := by omega
        have hnm51 : 1 ≤ nm5 := by omega
        have Hn5 := Lib.hid hnm5
        clear hol hnm5
        by_cases hlt : i' < N
        · obtain ⟨m, hm⟩ : ∃ m, N - i' = m + 1 := ⟨N - i' - 1, by omega⟩
          have Hm := Lib.hid hm
          obtain ⟨r, hr⟩ : ∃ r, r = n - p := ⟨_, rfl⟩
          rw [← hr] at HRp ⊢
          have hr9 : r ≤ 100000 := by omega
          have Hr := Lib.hid hr
          clear hm hr
          go_wp2_with fail
          refine (text_calls (some ⟨b0, o1, none⟩) r c1 (b.drop p) W HRp.out (fun x hx => Hb.out x (List.mem_of_mem_drop hx)) (by omega)).mono ?_
          rintro e w3 ⟨hb3, v, k, f2, hg2, h⟩
          have HB3 := Lib.hid (below_seq HBr.out (Nat.le_refl _) hb3)
          have HO3 := Lib.hid (own_below HO.out hb3)
          have Hg2 := Lib.hid hg2
          clear hb3 hg2
          rcases h with ⟨hf2, rfl⟩ | ⟨rfl, hv, rfl⟩ | ⟨rfl, hv1, hv16, hsh, rfl⟩ | ⟨rfl, hv1, hv16, hkv, A', c2, rfl, hB2, b1, oo, o2, eA, eA'⟩
          · have hfb2 : (f2 == 0) = false := by simpa using hf2
            have Hf2 := Lib.hid hf2
            clear hf2
            go_wp2_with fail
            refine bodyPost_ret (v := .tuple #[.slice none 0 0, .int .i64 0, .int .i64 f2]) (by simp [results, Try.results32, go_sem]) rfl ?_
            exact ⟨HB3.out, [], 0, f2, _, ⟨N, k0, 0, Hg.out, .inr ⟨rfl, HC.out _ _ _ (by rw [Hm.out]; exact .num Hg2.out Hf2.out)⟩⟩, by simp, rfl, World.ownsRow_nil _ _ _ _⟩
          · have Hv := Lib.hid hv
            clear hv
            go_wp2_with fail
            refine bodyPost_ret (v := .tuple #[.slice none 0 0, .int .i64 0, .int .i64 4]) (by simp [results, Try.results32, go_sem]) rfl ?_
            exact ⟨HB3.out, [], 0, 4, _, ⟨N, k0, 0, Hg.out, .inr ⟨rfl, HC.out _ _ _ (by rw [Hm.out]; exact .long Hg2.out Hv.out)⟩⟩, by simp, rfl, World.ownsRow_nil _ _ _ _⟩
          · have Hsh := Lib.hid (show b.length < p + k + v by rw [Hl.out]; have := Hr.out; omega)
            clear hsh
            go_wp2_with fail
            refine bodyPost_ret (v := .tuple #[.slice none 0 0, .int .i64 0, .int .i64 2]) (by simp [results, Try.results32, go_sem]) rfl ?_
            exact ⟨HB3.out, [], 0, 2, _, ⟨N, k0, 0, Hg.out, .inr ⟨rfl, HC.out _ _ _ (by rw [Hm.out]; exact .short Hg2.out hv1 hv16 Hsh.out)⟩⟩, by simp, rfl, World.ownsRow_nil _ _ _ _⟩
          · cases eA
            subst eA'
            have hfit : p + k + v ≤ b.length := by rw [Hl.out]; have := Hr.out; omega
            obtain ⟨a, ha⟩ : ∃ a, a = textAt b (p + k) v := ⟨_, rfl⟩
            rw [drop_drop_text, ← ha]
            obtain ⟨p2, hp2⟩ : ∃ x, x = p + k + v := ⟨_, rfl⟩
            have hk9 := (isGet_rng Hg2.out).1
            have hrp : r - (k + v) = n - p2 := by have := Hr.out; omega
            rw [hrp, List.drop_drop, show p + (k + v) = p2 by omega] at hB2
            rw [hrp]
            have hp2n : p2 ≤ n := by rw [← Hl.out]; omega
            have hip2 : i' + 1 ≤ p2 := by omega
            have HB2' := Lib.hid hB2
            have Ha := Lib.hid ha
            have Hp2 := Lib.hid hp2
            have Hfit := Lib.hid hfit
            obtain ⟨_, _, eo, _, hro, _⟩ := own_rdS HO3.out
            cases eo
            obtain ⟨bo, oo2, eo2, hco⟩ := hro.2 (by omega)
            subst eo2
            obtain ⟨l, hl⟩ : ∃ l, l = str out (nm5 - 1) := ⟨_, rfl⟩
            have zl := hco (nm5 - 1) (by omega)
            rw [← hl] at zl
            have Hlx := Lib.hid hl
            have hbad1 : ∀ (_ : a = au ∨ (1 < nm5 ∧ ¬ ltB l a)), BadNm au out (textAt b (p + k) v) := fun h => by
              rw [← Ha.out]
              rcases h with h | ⟨h1, h2⟩
              · exact .inl h
              · refine .inr ⟨by rw [Hol.out, ← Hn5.out]; exact h1, ?_⟩
                rw [Hol.out, ← Hn5.out, ← Hlx.out]; exact h2
            have hbad2 : (¬ (a = au ∨ (1 < nm5 ∧ ¬ ltB l a))) → ¬ BadNm au out (textAt b (p + k) v) := fun h hb => by
              rw [← Ha.out] at hb
              rcases hb with hb | ⟨h1, h2⟩
              · exact h (.inl hb)
              · rw [Hol.out, ← Hn5.out, ← Hlx.out] at h2
                rw [Hol.out, ← Hn5.out] at h1
                exact h (.inr ⟨h1, h2⟩)
            have Hbad1 := Lib.hid hbad1
            have Hbad2 := Lib.hid hbad2
            have hs3 := HB3.out.size
            clear ha hp2 hfit hl hrp hco hro hB2 hbad1 hbad2
            by_cases hau : a = au
            · have hq1 : (a.toList == au.toList) = true := by rw [tl_beq]; exact decide_eq_true hau
              have hq2 : a.toList = au.toList := by rw [hau]
              have Hau := Lib.hid hau
              clear hau
              go_wp2_with fail
              refine bodyPost_ret (v := .tuple #[.slice none 0 0, .int .i64 0, .int .i64 3]) (by simp [results, Try.results32, go_sem]) rfl ?_
              exact ⟨HB3.out, [], 0, 3, _, ⟨N, k0, 0, Hg.out, .inr ⟨rfl, HC.out _ _ _ (by rw [Hm.out]; exact .form Hg2.out hv1 hv16 Hfit.out (Hbad1.out (.inl Hau.out)))⟩⟩, by simp, rfl, World.ownsRow_nil _ _ _ _⟩
            · have hq1 : (a.toList == au.toList) = false := by rw [tl_beq]; exact decide_eq_false hau
              have hq2 : ¬ a.toList = au.toList := fun e => hau ((tl_iff _ _).1 e)
              have Hau := Lib.hid hau
              clear hau
              by_cases h1 : 1 < nm5
              · have h1d : decide ((1 : Int) < nm5) = true := by simp; omega
                have hidx : (nm5 : Int) - 1 = ((nm5 - 1 : Nat) : Int) := by omega
                by_cases hla : ltB l a
                · have hl1 : Op.bytesLess a.toList l.toList = false := bl_text a l false ⟨fun h => (by cases h), fun h => absurd (ltB_trans h hla) (ltB_irrefl _)⟩
                  have hl2 : (a.toList == l.toList) = false := by rw [tl_beq]; exact decide_eq_false (fun e => by rw [e] at hla; exact ltB_irrefl _ hla)
                  have hl2' : ¬ a.toList = l.toList := fun e => by rw [(tl_iff _ _).1 e] at hla; exact ltB_irrefl _ hla
                  have Hla := Lib.hid hla
                  clear hla
                  go_wp2_with (at_builtin; refine wpList_app3 rfl _ _ rfl elStr HO3.out rfl rfl rfl rfl rfl (by omega) hs3 ?_; intro g4 cg w4 hown4 hfr4 hat4 hlt4; have Hown4 := Lib.hid hown4; have Hfr4 := Lib.hid hfr4; clear hown4 hfr4 hat4)
                  go_roundw
                  case rel =>
                    have hb4 : Below w.heap.size w3 w4 := Hfr4.out.below hs3 (fun o ho i e => by simp at ho; subst ho; exact (HO3.out.lt i e).1)
                    have h4 := Hown4.out
                    rw [show strs out ++ (#[Value.string a] : Array Value).toList = strs (out ++ [a]) by rw [strs_app]; rfl, show nm5 + 1 = i' + 1 + 1 by rw [Hn5.out]] at h4
                    refine ⟨i' + 1, p2, o2, c2, out ++ [a], by omega, by go_num, hp2n, hip2, rfl, HB2'.out.old hb4 (fun b1 o1 e => by cases e; exact hb0w), ?_, Lib.hid (fun T q e h => HC.out T q e (by
                      rw [Hm.out]
                      refine .next Hg2.out hv1 hv16 Hfit.out (Hbad2.out (by
                        rintro (h9 | ⟨h8, h9⟩)
                        · exact Hau.out h9
                        · exact h9 Hla.out)) ?_
                      rw [← Ha.out, ← Hp2.out, show m = N - (i' + 1) by have := Hm.out; omega]
                      exact h)), HB3.out.trans hb4⟩
                    rw [Hn5.out]
                    exact h4
                  case measure => simp [intOf]; omega
                · have hl3 : (Op.bytesLess a.toList l.toList || a.toList == l.toList) = true := by
                    by_cases e : a = l
                    · rw [tl_beq, decide_eq_true e, Bool.or_true]
                    · rw [bl_text a l true ⟨fun _ => ltB_or hla (fun e2 => e e2.symm), fun _ => rfl⟩]; rfl
                  have Hla := Lib.hid hla
                  clear hla
                  go_wp2_with fail
                  refine bodyPost_ret (v := .tuple #[.slice none 0 0, .int .i64 0, .int .i64 3]) (by simp [results, Try.results32, go_sem]) rfl ?_
                  exact ⟨HB3.out, [], 0, 3, _, ⟨N, k0, 0, Hg.out, .inr ⟨rfl, HC.out _ _ _ (by rw [Hm.out]; exact .form Hg2.out hv1 hv16 Hfit.out (Hbad1.out (.inr ⟨h1, Hla.out⟩)))⟩⟩, by simp, rfl, World.ownsRow_nil _ _ _ _⟩
              · have h1d : decide ((1 : Int) < nm5) = false := by simp; omega
                go_wp2_with (at_builtin; refine wpList_app3 rfl _ _ rfl elStr HO3.out rfl rfl rfl rfl rfl (by omega) hs3 ?_; intro g4 cg w4 hown4 hfr4 hat4 hlt4; have Hown4 := Lib.hid hown4; have Hfr4 := Lib.hid hfr4; clear hown4 hfr4 hat4)
                go_roundw
                case rel =>
                  have hb4 : Below w.heap.size w3 w4 := Hfr4.out.below hs3 (fun o ho i e => by simp at ho; subst ho; exact (HO3.out.lt i e).1)
                  have h4 := Hown4.out
                  rw [show strs out ++ (#[Value.string a] : Array Value).toList = strs (out ++ [a]) by rw [strs_app]; rfl, show nm5 + 1 = i' + 1 + 1 by rw [Hn5.out]] at h4
                  refine ⟨i' + 1, p2, o2, c2, out ++ [a], by omega, by go_num, hp2n, hip2, rfl, HB2'.out.old hb4 (fun b1 o1 e => by cases e; exact hb0w), ?_, Lib.hid (fun T q e h => HC.out T q e (by
                    rw [Hm.out]
                    refine .next Hg2.out hv1 hv16 Hfit.out (Hbad2.out (by
                      rintro (h9 | ⟨h8, h9⟩)
                      · exact Hau.out h9
                      · exact h1 h8)) ?_
                    rw [← Ha.out, ← Hp2.out, show m = N - (i' + 1) by have := Hm.out; omega]
                    exact h)), HB3.out.trans hb4⟩
                  rw [Hn5.out]
                  exact h4
                case measure => simp [intOf]; omega
        · obtain rfl : i' = N := by omega
          have hsub : (n : Int) - ((n - p : Nat) : Int) = (p : Int) := by omega
          go_wp2_with fail
          refine bodyPost_ret (v := .tuple #[.slice Ao nm5 co, .int .i64 p, .int .i64 0]) (by simp [results, Try.results32, go_sem]) rfl ?_
          refine ⟨HBr.out, out, p, 0, _, ⟨i', k0, 0, Hg.out, .inr ⟨rfl, HC.out _ _ _ (by rw [Nat.sub_self]; exact .done p out)⟩⟩, by rw [Hol.out]; omega, rfl, ?_⟩
          rw [Hol.out, ← Hn5.out]
          exact HO.out
  · have hfb : (f == 0) = false := by simpa using hf
    go_wp2_with fail
    refine bodyPost_ret (v := .tuple #[.slice none 0 0, .int .i64 0, .int .i64 f]) (by simp [results, Try.results32, go_sem]) rfl ?_
    exact ⟨HB1.out, [], 0, f, _, ⟨N, k0, f, Hg.out, .inl ⟨hf, rfl, rfl, rfl⟩⟩, by simp, rfl, World.ownsRow_nil _ _ _ _⟩
end Go.Proofs.Ytdbkbeojedndbaa
/-
  The walks of package utf.
-/
namespace Go.Proofs.Ytdbkbeojedndbaa
open Go.RowKit

theorem nums_extract (s : ByteArray) (a : Nat) {b : Nat} (_hb : b ≤ s.size) : nums (s.extract a b) = ((nums s).drop a).take (b - a) := by
  unfold nums
  rw [ByteArray.data_extract, Array.toList_extract, List.map_take, List.map_drop]
theorem rd_nums {s : ByteArray} {i : Nat} (h : i < s.size) : rd (nums s) i = (s[i].toNat : Int) := by
  rw [rd_getElem (by rw [nums_length]; exact h)]
  unfold nums
  rw [List.getElem_map]
  rfl
set_option maxRecDepth 100000 in
theorem uSize_calls (x : Int) (w : World) (hx : 0 ≤ x ∧ x ≤ 255) :
    Calls Try.prog 109 #[.int .u8 x] w fun e w' => e = .returned (.int .i64 (uSize x : Nat)) ∧ w' = w := by
  obtain ⟨h0, h1⟩ := hx
  go_enter Try.func109, Try.ntmps109
  unfold uSize
  by_cases a1 : x < 128
  · rw [if_pos a1]
    go_wp2
    go_ret
    exact ⟨rfl, rfl⟩
  · rw [if_neg a1]
    by_cases a2 : 194 ≤ x
    · by_cases a3 : x < 224
      · rw [if_pos ⟨a2, a3⟩]
        go_wp2
        go_ret
        exact ⟨rfl, rfl⟩
      · rw [if_neg (by omega)]
        by_cases a4 : x < 240
        · rw [if_pos ⟨by omega, a4⟩]
          go_wp2
          go_ret
          exact ⟨rfl, rfl⟩
        · rw [if_neg (by omega)]
          by_cases a5 : x < 245
          · rw [if_pos ⟨by omega, a5⟩]
            go_wp2
            go_ret
            exact ⟨rfl, rfl⟩
          · rw [if_neg (by omega)]
            go_wp2
            go_ret
            exact ⟨rfl, rfl⟩
    · rw [if_neg (by omega), if_neg (by omega), if_neg (by omega)]
      go_wp2
      go_ret
      exact ⟨rfl, rfl⟩
set_option maxRecDepth 100000 in
theorem uSecond_calls (x : Int) (w : World) (hx : 0 ≤ x ∧ x ≤ 255) :
    Calls Try.prog 110 #[.int .u8 x] w fun e w' => e = .returned (.tuple #[.int .u8 (uLow x), .int .u8 (uHigh x)]) ∧ w' = w := by
  obtain ⟨h0, h1⟩ := hx
  have key : ∀ lo hi : Int, uLow x = lo → uHigh x = hi → (Calls Try.prog 110 #[.int .u8 x] w fun e w' => e = .returned (.tuple #[.int .u8 lo, .int .u8 hi]) ∧ w' = w) → Calls Try.prog 110 #[.int .u8 x] w fun e w' => e = .returned (.tuple #[.int .u8 (uLow x), .int .u8 (uHigh x)]) ∧ w' = w := by
    intro lo hi e1 e2 h
    rw [e1, e2]
    exact h
  by_cases a1 : x = 224
  · subst a1
    refine key 160 191 rfl rfl ?_
    go_enter Try.func110, Try.ntmps110
    go_wp2
    refine bodyPost_ret (v := .tuple #[.int .u8 160, .int .u8 191]) (by simp [results, Try.results110, go_sem]) rfl ?_
    exact ⟨rfl, rfl⟩
  · by_cases a2 : x = 237
    · subst a2
      refine key 128 159 rfl rfl ?_
      go_enter Try.func110, Try.ntmps110
      go_wp2
      refine bodyPost_ret (v := .tuple #[.int .u8 128, .int .u8 159]) (by simp [results, Try.results110, go_sem]) rfl ?_
      exact ⟨rfl, rfl⟩
    · by_cases a3 : x = 240
      · subst a3
        refine key 144 191 rfl rfl ?_
        go_enter Try.func110, Try.ntmps110
        go_wp2
        refine bodyPost_ret (v := .tuple #[.int .u8 144, .int .u8 191]) (by simp [results, Try.results110, go_sem]) rfl ?_
        exact ⟨rfl, rfl⟩
      · by_cases a4 : x = 244
        · subst a4
          refine key 128 143 rfl rfl ?_
          go_enter Try.func110, Try.ntmps110
          go_wp2
          refine bodyPost_ret (v := .tuple #[.int .u8 128, .int .u8 143]) (by simp [results, Try.results110, go_sem]) rfl ?_
          exact ⟨rfl, rfl⟩
        · refine key 128 191 (by unfold uLow; rw [if_neg a1, if_neg a3]) (by unfold uHigh; rw [if_neg a2, if_neg a4]) ?_
          go_enter Try.func110, Try.ntmps110
          have b1 : (x == 224) = false := by simpa using a1
          have b2 : (x == 237) = false := by simpa using a2
          have b3 : (x == 240) = false := by simpa using a3
          have b4 : (x == 244) = false := by simpa using a4
          go_wp2
          refine bodyPost_ret (v := .tuple #[.int .u8 128, .int .u8 191]) (by simp [results, Try.results110, go_sem]) rfl ?_
          exact ⟨rfl, rfl⟩
theorem toList_some {s : ByteArray} (h : 0 < s.size) : s.toList.isEmpty = false := by
  rw [ByteArray.toList_eq, List.isEmpty_eq_false_iff]
  intro e
  have h3 : s.data.toList.length = 0 := by rw [e]; rfl
  rw [Array.length_toList] at h3
  have h2 : s.size = s.data.size := rfl
  omega
theorem toList_none {s : ByteArray} (h : ¬ 0 < s.size) : s.toList.isEmpty = true := by
  rw [ByteArray.toList_eq, List.isEmpty_iff]
  apply List.length_eq_zero_iff.1
  rw [Array.length_toList]
  have h2 : s.size = s.data.size := rfl
  omega
theorem byte_rng (s : ByteArray) {i : Nat} (h : i < s.size) : 0 ≤ rd (nums s) i ∧ rd (nums s) i ≤ 255 := by
  rw [rd_getElem (by rw [nums_length]; exact h)]
  exact nums_byte s _ (List.getElem_mem _)
set_option maxHeartbeats 1000000 in
set_option maxRecDepth 100000 in
theorem uNext_calls (s : ByteArray) (w : World) (hs : s.size ≤ 140737488355328) :
    Calls Try.prog 93 #[.string s] w fun e w' => e = .returned (.int .i64 (uNext (nums s) : Nat)) ∧ w' = w := by
  go_enter Try.func93, Try.ntmps93
  have Hu := Lib.hid (show uNext (nums s) = uNext (nums s) from rfl)
  obtain ⟨r, hr⟩ : ∃ r, r = uNext (nums s) := ⟨_, rfl⟩
  rw [← hr]
  have Hr := Lib.hid hr
  clear hr
  by_cases h0 : 0 < s.size
  · have he := toList_some h0
    obtain ⟨x, hx⟩ : ∃ x : Int, (s[0].toNat : Int) = x := ⟨_, rfl⟩
    have hxr := byte_rng s h0
    rw [rd_nums h0, hx] at hxr
    have Hx := Lib.hid (show rd (nums s) 0 = x by rw [rd_nums h0, hx])
    go_wp2_with fail
    refine (uSize_calls x _ hxr).mono ?_
    rintro e w1 ⟨rfl, rfl⟩
    obtain ⟨n, hn⟩ : ∃ n, n = uSize x := ⟨_, rfl⟩
    have hn4 : n ≤ 4 := by rw [hn]; exact uSize_le x
    rw [← hn]
    have Hn := Lib.hid hn
    clear hn
    by_cases h1 : n = 0
    · subst h1
      have hr0 : r = 0 := by rw [Hr.out]; unfold uNext; rw [Hx.out, ← Hn.out]; split <;> rfl
      subst hr0
      go_wp2_with fail
      go_ret
      exact ⟨rfl, rfl⟩
    · have h1b : ((n : Int) == 0) = false := by simp; omega
      by_cases h2 : s.size < n
      · have hr0 : r = 0 := by
          rw [Hr.out]; unfold uNext; rw [Hx.out, ← Hn.out, if_neg]
          rw [nums_length]
          omega
        subst hr0
        go_wp2_with fail
        go_ret
        exact ⟨rfl, rfl⟩
      · go_wp2_with fail
        go_loopw [4] (fun i wr => ∃ k : Nat, k ≤ n ∧ 1 ≤ k ∧ i = .int .i64 k ∧ Hid (∀ i, i < k → 1 ≤ i → uFits (nums s) i) ∧ wr = w1) (fun i _ => n - (intOf i).toNat)
        case atStart => exact ⟨1, by omega, by omega, rfl, Lib.hid (fun i hi h => by omega), rfl⟩
        case round =>
          obtain ⟨k, hk, hk1, rfl, HF, hw⟩ := hrel
          obtain ⟨W, hW⟩ : ∃ W, W = wr := ⟨_, rfl⟩
          rw [← hW] at hw ⊢
          subst hw
          clear hW
          by_cases hlt : k < n
          · have hks : k < s.size := by omega
            obtain ⟨y, hy⟩ : ∃ y : Int, (s[k].toNat : Int) = y := ⟨_, rfl⟩
            have hyr := byte_rng s hks
            rw [rd_nums hks, hy] at hyr
            have Hy := Lib.hid (show rd (nums s) k = y by rw [rd_nums hks, hy])
            obtain ⟨hy0, hy1⟩ := hyr
            -- what a byte that doesn't fit comes to
            have Hbad : Hid (¬ uFits (nums s) k → r = 0) := Lib.hid (fun hf => by
              rw [Hr.out]; unfold uNext; rw [Hx.out, ← Hn.out, if_neg]
              rintro ⟨_, _, h3⟩
              exact hf (h3.2 k hlt hk1))
            by_cases hk2 : k = 1
            · subst hk2
              go_wp2_with fail
              refine (uSecond_calls x _ hxr).mono ?_
              rintro e w3 ⟨rfl, hw3⟩
              obtain ⟨W3, hW3⟩ : ∃ W, W = w3 := ⟨_, rfl⟩
              rw [← hW3] at hw3 ⊢
              subst hw3
              clear hW3
              obtain ⟨lo, hlo⟩ : ∃ lo, lo = uLow x := ⟨_, rfl⟩
              obtain ⟨hi, hhi⟩ : ∃ hi, hi = uHigh x := ⟨_, rfl⟩
              rw [← hlo, ← hhi]
              have Hf : Hid (uFits (nums s) 1 ↔ lo ≤ y ∧ y ≤ hi) := Lib.hid (by unfold uFits; rw [Hx.out, Hy.out, if_pos rfl, if_pos rfl, hlo, hhi])
              clear hlo hhi
              by_cases hl : y < lo
              · have hr0 : r = 0 := Hbad.out (fun h => by have := Hf.out.1 h; omega)
                subst hr0
                go_wp2_with fail
                go_ret
                exact ⟨rfl, rfl⟩
              · by_cases hh : hi < y
                · have hr0 : r = 0 := Hbad.out (fun h => by have := Hf.out.1 h; omega)
                  subst hr0
                  go_wp2_with fail
                  go_ret
                  exact ⟨rfl, rfl⟩
                · go_wp2_with fail
                  go_roundw
                  case rel =>
                    refine ⟨2, by omega, by omega, rfl, Lib.hid (fun i hi2 hi1 => ?_), trivial⟩
                    obtain rfl : i = 1 := by omega
                    exact Hf.out.2 ⟨by omega, by omega⟩
                  case measure => simp [intOf]; omega
            · have hk1b : ((k : Int) == 1) = false := by simp; omega
              have Hf : Hid (uFits (nums s) k ↔ 128 ≤ y ∧ y ≤ 191) := Lib.hid (by unfold uFits; rw [Hy.out, if_neg hk2, if_neg hk2])
              by_cases hl : y < 128
              · have hr0 : r = 0 := Hbad.out (fun h => by have := Hf.out.1 h; omega)
                subst hr0
                go_wp2_with fail
                go_ret
                exact ⟨rfl, rfl⟩
              · by_cases hh : 191 < y
                · have hr0 : r = 0 := Hbad.out (fun h => by have := Hf.out.1 h; omega)
                  subst hr0
                  go_wp2_with fail
                  go_ret
                  exact ⟨rfl, rfl⟩
                · go_wp2_with fail
                  go_roundw
                  case rel =>
                    refine ⟨k + 1, by omega, by omega, by go_num, Lib.hid (fun i hi2 hi1 => ?_), trivial⟩
                    rcases Nat.lt_or_ge i k with g | g
                    · exact HF.out i g hi1
                    · obtain rfl : i = k := by omega
                      exact Hf.out.2 ⟨by omega, by omega⟩
                  case measure => simp [intOf]; omega
          · obtain rfl : k = n := by omega
            have hrn : r = k := by
              rw [Hr.out]
              refine uNext_is (by omega) (by rw [nums_length]; omega) ⟨?_, HF.out⟩
              rw [Hx.out, ← Hn.out]
            subst hrn
            go_wp2_with fail
            go_ret
            exact ⟨rfl, rfl⟩
  · have he := toList_none h0
    have hr0 : r = 0 := by
      rw [Hr.out]; unfold uNext; rw [if_neg]
      rw [nums_length]
      omega
    subst hr0
    go_wp2_with fail
    go_ret
    exact ⟨rfl, rfl⟩
set_option maxHeartbeats 1000000 in
set_option maxRecDepth 100000 in
theorem uWhere_calls (s : ByteArray) (w : World) (hs : s.size ≤ 140737488355328) :
    Calls Try.prog 68 #[.string s] w fun e w' => e = .returned (.int .i64 (uWhere (nums s) : Nat)) ∧ w' = w := by
  go_enter Try.func68, Try.ntmps68
  obtain ⟨r, hr⟩ : ∃ r, r = uWhere (nums s) := ⟨_, rfl⟩
  rw [← hr]
  have Hr := Lib.hid hr
  clear hr
  go_wp2_with fail
  go_loopw [3] (fun i wr => ∃ k : Nat, k ≤ s.size ∧ i = .int .i64 k ∧ Hid (r = k + uWhere ((nums s).drop k)) ∧ wr = w) (fun i _ => s.size - (intOf i).toNat)
  case atStart => exact ⟨0, by omega, rfl, Lib.hid (by rw [Hr.out]; simp), rfl⟩
  case round =>
    obtain ⟨k, hk, rfl, HF, hw⟩ := hrel
    obtain ⟨W, hW⟩ : ∃ W, W = wr := ⟨_, rfl⟩
    rw [← hW] at hw ⊢
    subst hw
    clear hW
    by_cases hlt : k < s.size
    · go_wp2_with fail
      have hsz : (s.extract k s.size).size ≤ 140737488355328 := by rw [ByteArray.size_extract]; omega
      have HN := Lib.hid (nums_extract s k (Nat.le_refl _))
      obtain ⟨t, ht⟩ : ∃ t, t = s.extract k s.size := ⟨_, rfl⟩
      rw [← ht] at hsz HN ⊢
      have HT : Hid (nums t = (nums s).drop k) := Lib.hid (by rw [HN.out, List.take_of_length_le]; rw [List.length_drop, nums_length]; omega)
      clear ht
      refine (uNext_calls t _ hsz).mono ?_
      rintro e w3 ⟨rfl, hw3⟩
      obtain ⟨W3, hW3⟩ : ∃ W, W = w3 := ⟨_, rfl⟩
      rw [← hW3] at hw3 ⊢
      subst hw3
      clear hW3
      obtain ⟨n, hn⟩ : ∃ n, n = uNext (nums t) := ⟨_, rfl⟩
      have hle := uNext_le (nums t)
      rw [← hn] at hle ⊢
      rw [HT.out] at hn hle
      rw [List.length_drop, nums_length] at hle
      have Hn := Lib.hid hn
      clear hn
      by_cases h1 : n = 0
      · subst h1
        have hrk : r = k := by rw [HF.out, uWhere, ← Hn.out, if_pos rfl]; rfl
        subst hrk
        go_wp2_with fail
        go_ret
        exact ⟨rfl, rfl⟩
      · have h1b : ((n : Int) == 0) = false := by simp; omega
        go_wp2_with fail
        go_roundw
        case rel =>
          refine ⟨k + n, by omega, by go_num, Lib.hid ?_, trivial⟩
          rw [HF.out, uWhere, ← Hn.out, if_neg h1, List.drop_drop, Nat.add_assoc]
        case measure => simp [intOf]; omega
    · obtain rfl : k = s.size := by omega
      have hrk : r = s.size := by
        rw [HF.out, List.drop_of_length_le (by rw [nums_length]; omega), uWhere, if_pos (by rfl)]
        rfl
      go_wp2_with fail
      go_ret
      exact ⟨by rw [hrk]; rfl, rfl⟩
/-- Valid of one text. -/
theorem uValid_calls (s : ByteArray) (b : Nat) (w : World) (hs : s.size ≤ 140737488355328) (hc : w.cell? ⟨b, 0, none⟩ = some (.string s)) :
    Calls Try.prog 31 #[.slice (some ⟨b, 0, none⟩) 1 1] w fun e w' => e = .returned (.bool (decide (Utf s))) ∧ w' = w := by
  go_enter Try.func31, Try.ntmps31
  obtain ⟨r, hr⟩ : ∃ r : Bool, r = decide (Utf s) := ⟨_, rfl⟩
  rw [← hr]
  have Hr := Lib.hid hr
  clear hr
  go_wp2_with fail
  go_loopw [7] (fun i wr => ∃ k : Nat, k ≤ 1 ∧ i = .int .i64 k ∧ (k = 1 → r = true) ∧ wr = w) (fun i _ => 1 - (intOf i).toNat)
  case atStart => exact ⟨0, by omega, rfl, (fun h => by omega), rfl⟩
  case round =>
    obtain ⟨k, hk, rfl, hkr, hw⟩ := hrel
    obtain ⟨W, hW⟩ : ∃ W, W = wr := ⟨_, rfl⟩
    rw [← hW] at hw ⊢
    subst hw
    clear hW
    rcases (show k = 0 ∨ k = 1 by omega) with rfl | rfl
    · clear hkr
      go_wp2_with fail
      refine (uWhere_calls s _ hs).mono ?_
      rintro e w3 ⟨rfl, hw3⟩
      obtain ⟨W3, hW3⟩ : ∃ W, W = w3 := ⟨_, rfl⟩
      rw [← hW3] at hw3 ⊢
      subst hw3
      clear hW3
      have hle := uWhere_le (nums s).length (nums s) (Nat.le_refl _)
      rw [nums_length] at hle
      have Hi : Hid (Utf s ↔ uWhere (nums s) = s.size) := Lib.hid Iff.rfl
      obtain ⟨n, hn⟩ : ∃ n, n = uWhere (nums s) := ⟨_, rfl⟩
      rw [← hn] at hle Hi ⊢
      clear hn
      by_cases h1 : n = s.size
      · have h1b : ((n : Int) != s.size) = false := by simp; omega
        have hrt : r = true := by rw [Hr.out]; exact decide_eq_true (Hi.out.2 h1)
        clear h1
        go_wp2_with fail
        go_roundw
        case rel => exact ⟨1, by omega, rfl, fun _ => hrt, trivial⟩
        case measure => simp [intOf]
      · have h1b : ((n : Int) != s.size) = true := by simp; omega
        have hrt : r = false := by rw [Hr.out]; exact decide_eq_false (fun h => h1 (Hi.out.1 h))
        subst hrt
        go_wp2_with fail
        go_ret
        exact ⟨rfl, rfl⟩
    · have hrt := hkr rfl
      subst hrt
      go_wp2_with fail
      go_ret
      exact ⟨rfl, rfl⟩
end Go.Proofs.Ytdbkbeojedndbaa
