/-
  Texts joined into one file: LebSW, TextW.
-/
import Derived.Test.YtdbkbeojedndbaaJHeadG5
import Derived.Test.YtdbkbeojedndbaaJHeadG3
import Derived.Deep.RegionWith
import Derived.Deep.Cut
import Derived.Test.YtdbkbeojedndbaaJHeadG2
import Derived.Deep.QuietTactic
import Derived.BigQuiet
/-
  The walks of leb.S, leb.GetS, leb.All and of the reference's S.
-/
namespace Go.Proofs.Ytdbkbeojedndbaa
open Go.RowKit

theorem i64_div {q : Int} (h : I64 q) : I64 (q / 128) := by unfold I64 at h ⊢; omega
set_option maxHeartbeats 1000000 in
set_option maxRecDepth 100000 in
theorem S_calls (n : Int) (w : World) (hn : I64 n) :
    Calls Try.prog 45 #[.int .i64 n] w fun e w' => ∃ v, e = .returned v ∧ w'.ownsRow w.heap.size 5 1 v (lebS n).length (ints .u8 (lebS n)) ∧ Below w.heap.size w w' := by
  go_enter Try.func45, Try.ntmps45
  go_wp2_with fail
  go_loopw [0, 3] (fun x v wr => ∃ (q : Int) (L : List Int), x = .int .i64 q ∧ -9223372036854775808 ≤ q ∧ q ≤ 9223372036854775807 ∧ Hid (L ++ lebS q = lebS n) ∧ L.length ≤ 10 ∧ Hid (wr.ownsRow w.heap.size 5 1 v L.length (ints .u8 L)) ∧ Hid (Below w.heap.size w wr)) (fun x _ _ => (intOf x).natAbs)
  case atStart => exact ⟨n, [], rfl, hn.1, hn.2, Lib.hid rfl, by simp, World.ownsRow_nil _ _ _ _, Below.refl _ _⟩
  case round =>
    obtain ⟨q, L, rfl, hq0, hq1, HL, hl10, HO, HB⟩ := hrel
    obtain ⟨W, hW⟩ : ∃ W, W = wr := ⟨_, rfl⟩
    subst hW
    obtain ⟨m, hm⟩ : ∃ m, m = L.length := ⟨_, rfl⟩
    rw [← hm] at HO hl10
    have Hm := Lib.hid hm
    obtain ⟨Av, cv, hv⟩ := own_slice HO.out
    subst hv
    have hsz := HB.out.size
    have Hlen := Lib.hid (lebS_10 hn)
    have Hlq := Lib.hid (lebS_10 (n := q) ⟨hq0, hq1⟩)
    clear hm hn
    by_cases h1 : q < -64
    · have hlen9 : m + 1 ≤ 10 := by
        have h2 := congrArg List.length HL.out
        rw [List.length_append, ← Hm.out] at h2
        have h3 := Hlen.out
        have h4 := Hlq.out
        omega
      have hor := or_128 (y := q % 256) (by omega)
      have hd1 : decide (q < -64) = true := decide_eq_true h1
      go_wp2_with (at_builtin; refine wpList_app3 rfl _ _ rfl elU8b HO.out rfl rfl rfl rfl rfl (by omega) hsz ?_; intro g4 cg w4 hown4 hfr4 hat4 hlt4; have Hown4 := Lib.hid hown4; have Hfr4 := Lib.hid hfr4; clear hown4 hfr4 hat4)
      go_roundw
      case rel =>
        have e9 : ints .u8 L ++ (#[Value.int .u8 (q % 128 + 128)] : Array Value).toList = ints .u8 (L ++ [q % 128 + 128]) := by rw [ints_append]; rfl
        have h4 := Hown4.out
        first | rw [e9] at h4 | rw [show q % 256 % 128 = q % 128 by omega, e9] at h4
        refine ⟨q / 128, L ++ [q % 128 + 128], rfl, by omega, by omega, ?_, by rw [List.length_append, ← Hm.out]; exact hlen9, by rw [List.length_append, ← Hm.out]; exact h4, HB.out.trans (Hfr4.out.below hsz (fun o ho i e => by simp at ho; subst ho; exact (HO.out.lt i e).1))⟩
        rw [List.append_assoc]
        rw [← HL.out, lebS_more (n := q) (by omega)]
        rfl
      case measure => simp [intOf]; omega
    · have hd1 : decide (q < -64) = false := decide_eq_false h1
      by_cases h2 : 63 < q
      · have hlen9 : m + 1 ≤ 10 := by
          have h2 := congrArg List.length HL.out
          rw [List.length_append, ← Hm.out] at h2
          have h3 := Hlen.out
          have h4 := Hlq.out
          omega
        have hor := or_128 (y := q % 256) (by omega)
        have hd2 : decide (63 < q) = true := decide_eq_true h2
        go_wp2_with (at_builtin; refine wpList_app3 rfl _ _ rfl elU8b HO.out rfl rfl rfl rfl rfl (by omega) hsz ?_; intro g4 cg w4 hown4 hfr4 hat4 hlt4; have Hown4 := Lib.hid hown4; have Hfr4 := Lib.hid hfr4; clear hown4 hfr4 hat4)
        go_roundw
        case rel =>
          have e9 : ints .u8 L ++ (#[Value.int .u8 (q % 128 + 128)] : Array Value).toList = ints .u8 (L ++ [q % 128 + 128]) := by rw [ints_append]; rfl
          have h4 := Hown4.out
          first | rw [e9] at h4 | rw [show q % 256 % 128 = q % 128 by omega, e9] at h4
          refine ⟨q / 128, L ++ [q % 128 + 128], rfl, by omega, by omega, ?_, by rw [List.length_append, ← Hm.out]; exact hlen9, by rw [List.length_append, ← Hm.out]; exact h4, HB.out.trans (Hfr4.out.below hsz (fun o ho i e => by simp at ho; subst ho; exact (HO.out.lt i e).1))⟩
          rw [List.append_assoc]
          rw [← HL.out, lebS_more (n := q) (by omega)]
          rfl
        case measure => simp [intOf]; omega
      · have hd2 : decide (63 < q) = false := decide_eq_false h2
        have hand := and_127 (y := q % 256) (by omega)
        go_wp2_with (at_builtin; refine wpList_app3 rfl _ _ rfl elU8b HO.out rfl rfl rfl rfl rfl (by omega) hsz ?_; intro g4 cg w4 hown4 hfr4 hat4 hlt4; have Hown4 := Lib.hid hown4; have Hfr4 := Lib.hid hfr4; clear hown4 hfr4 hat4)
        go_ret
        have e9 : ints .u8 L ++ (#[Value.int .u8 (q % 128)] : Array Value).toList = ints .u8 (lebS n) := by rw [← HL.out, lebS_last (n := q) (by omega), ints_append]; rfl
        have e5 : (lebS n).length = m + 1 := by rw [← HL.out, List.length_append, lebS_last (n := q) (by omega), ← Hm.out]; rfl
        have h4 := Hown4.out
        first | rw [e9] at h4 | rw [show q % 256 % 128 = q % 128 by omega, e9] at h4
        exact ⟨_, rfl, by rw [e5]; exact h4, HB.out.trans (Hfr4.out.below hsz (fun o ho i e => by simp at ho; subst ho; exact (HO.out.lt i e).1))⟩
-- printed by gen_lebs.py
theorem w64 (n : Int) : wrap64 n = IntKind.i64.wrap n := by unfold wrap64; rw [IntKind.wrap_i64]
set_option maxHeartbeats 1000000 in
set_option maxRecDepth 100000 in
theorem rS_calls : ∀ (f : Nat) (n : Int) (w : World), n.natAbs < f → I64 n →
    Calls Try.prog 37 #[.int .i64 n] w fun e w' => ∃ v, e = .returned v ∧ w'.ownsRow w.heap.size 5 1 v (lebS n).length (ints .u8 (lebS n)) ∧ Below w.heap.size w w' := by
  intro f
  induction f with
  | zero => intro n w h; omega
  | succ f ih =>
    intro n w hf hn
    have Hn := Lib.hid hn
    go_enter Try.func37, Try.ntmps37
    by_cases h0 : n < 0
    · by_cases h9 : n % 128 = 0
      · obtain ⟨r, hr⟩ : ∃ r, r = n.tmod 128 := ⟨_, rfl⟩
        obtain ⟨q, hq⟩ : ∃ q, q = n.tdiv 128 := ⟨_, rfl⟩
        have HE := Lib.hid (show n % 128 = r by rw [hr, Int.tmod_eq_emod]; split <;> omega)
        have HQ := Lib.hid (show n / 128 = q by rw [hq, Int.tdiv_eq_ediv]; split <;> omega)
        have hrb : (r != 0) = false := by rw [← HE.out, h9]; rfl
        have hr0 : 0 ≤ r := by have := HE.out; omega
        have hr1 : r ≤ 127 := by have := HE.out; omega
        have hq1 : -9223372036854775808 ≤ q := by have := HQ.out; have := hn.1; omega
        have hq2 : q ≤ 9223372036854775807 := by have := HQ.out; have := hn.2; omega
        have ht := hr.symm
        have ht2 := hq.symm
        clear hr hq h9
        have h2 : n ≤ 63 := by omega
        by_cases h1 : -64 ≤ n
        · have hlo := Lib.hid (lebS_last ⟨h1, h2⟩)
          go_wp2_with fail
          go_ret
          have hl := World.ownsRow_lit (base := w.heap.size) (size := 1) (e := 5) w #[.int .u8 r] 1 (Nat.le_refl _) (by simp [maxLen]) rfl
          refine ⟨_, rfl, ?_, (Below.refl _ _).alloc (Nat.le_refl _) _⟩
          rw [hlo.out, HE.out]
          exact hl
        · have hmo := Lib.hid (lebS_more (n := n) (by omega))
          rw [HE.out, HQ.out] at hmo
          have Hi := Lib.hid (show I64 q by rw [← HQ.out]; exact i64_div Hn.out)
          have h10 := Lib.hid (lebS_10 Hi.out)
          have hl := World.ownsRow_lit (base := w.heap.size) (size := 1) (e := 5) w #[.int .u8 (128 + r)] 1 (Nat.le_refl _) (by simp [maxLen]) rfl
          have Hl := Lib.hid hl
          have hab : q.natAbs < f := by have := HQ.out; omega
          have Hab := Lib.hid hab
          clear hl hn hab hf
          go_wp2_with fail
          refine (ih q _ Hab.out Hi.out).mono ?_
          rintro e w2 ⟨v2, rfl, ho2, hb2⟩
          obtain ⟨A2, c2, rfl, _, hr2, hn2⟩ := own_rdV ho2
          obtain ⟨m, hm⟩ : ∃ m, m = (lebS q).length := ⟨_, rfl⟩
          have hm10 : m ≤ 10 := by rw [hm]; exact h10.out.2
          rw [← hm] at hr2 hn2 ⊢
          have Hr2 := Lib.hid hr2
          have Hn2 := Lib.hid hn2
          have Hm := Lib.hid hm
          have Hl2 := Lib.hid (own_below Hl.out hb2)
          have HB2 := Lib.hid (((Below.refl w.heap.size w).alloc (Nat.le_refl _) _).trans (hb2.mono (by simp)))
          have hs2 := HB2.out.size
          clear ho2 hr2 hn2 hm hb2
          go_wp2_with (at_builtin; refine wpList_appV rfl _ _ rfl elU8b Hl2.out rfl rfl Hr2.out Hn2.out (ints_all _ _) (by omega) hs2 ?_; intro v4 w4 hown4 hfr4 hat4; have Hown4 := Lib.hid hown4; have Hfr4 := Lib.hid hfr4; clear hown4 hfr4 hat4)
          go_ret
          have e9 : (#[Value.int .u8 (128 + r)] : Array Value).toList ++ ints .u8 (lebS q) = ints .u8 (lebS n) := by
            rw [hmo.out, Int.add_comm]; rfl
          have e5 : (lebS n).length = 1 + m := by rw [hmo.out, List.length_cons, ← Hm.out]; omega
          have h4 := Hown4.out
          rw [e9] at h4
          exact ⟨_, rfl, by rw [e5]; exact h4, HB2.out.trans (Hfr4.out.below hs2 (fun o ho i e => by simp at ho; subst ho; exact (Hl2.out.lt i e).1))⟩
      · obtain ⟨r, hr⟩ : ∃ r, r = n.tmod 128 := ⟨_, rfl⟩
        obtain ⟨q, hq⟩ : ∃ q, q = n.tdiv 128 := ⟨_, rfl⟩
        have HE0 := Lib.hid (show n % 128 = r + 128 by rw [hr, Int.tmod_eq_emod]; split <;> omega)
        have HQ := Lib.hid (show n / 128 = q - 1 by rw [hq, Int.tdiv_eq_ediv, show Int.sign 128 = 1 from rfl]; split <;> omega)
        have hrb : (r != 0) = true := by have := HE0.out; simp; omega
        have hr0 : r < 0 := by have := HE0.out; omega
        have hr1 : -127 ≤ r := by have := HE0.out; omega
        have hq1 : -9223372036854775807 ≤ q := by have := HQ.out; have := hn.1; omega
        have hq2 : q ≤ 9223372036854775807 := by have := HQ.out; have := hn.2; omega
        have ht := hr.symm
        have ht2 := hq.symm
        clear hr hq h9
        go_upto_region 4 with fail
        obtain ⟨s, hs⟩ : ∃ s, s = r + 128 := ⟨_, rfl⟩
        rw [← hs]
        have HE := Lib.hid (show n % 128 = s by rw [hs]; exact HE0.out)
        have hs0 : 1 ≤ s := by omega
        have hs1 : s ≤ 127 := by omega
        clear hs
        have h2 : n ≤ 63 := by omega
        by_cases h1 : -64 ≤ n
        · have hlo := Lib.hid (lebS_last ⟨h1, h2⟩)
          go_wp2_with fail
          go_ret
          have hl := World.ownsRow_lit (base := w.heap.size) (size := 1) (e := 5) w #[.int .u8 s] 1 (Nat.le_refl _) (by simp [maxLen]) rfl
          refine ⟨_, rfl, ?_, (Below.refl _ _).alloc (Nat.le_refl _) _⟩
          rw [hlo.out, HE.out]
          exact hl
        · have hmo := Lib.hid (lebS_more (n := n) (by omega))
          rw [HE.out, HQ.out] at hmo
          have Hi := Lib.hid (show I64 (q - 1) by rw [← HQ.out]; exact i64_div Hn.out)
          have h10 := Lib.hid (lebS_10 Hi.out)
          have hl := World.ownsRow_lit (base := w.heap.size) (size := 1) (e := 5) w #[.int .u8 (128 + s)] 1 (Nat.le_refl _) (by simp [maxLen]) rfl
          have Hl := Lib.hid hl
          have hab : (q - 1).natAbs < f := by have := HQ.out; omega
          have Hab := Lib.hid hab
          clear hl hn hab hf
          go_wp2_with fail
          refine (ih (q - 1) _ Hab.out Hi.out).mono ?_
          rintro e w2 ⟨v2, rfl, ho2, hb2⟩
          obtain ⟨A2, c2, rfl, _, hr2, hn2⟩ := own_rdV ho2
          obtain ⟨m, hm⟩ : ∃ m, m = (lebS (q - 1)).length := ⟨_, rfl⟩
          have hm10 : m ≤ 10 := by rw [hm]; exact h10.out.2
          rw [← hm] at hr2 hn2 ⊢
          have Hr2 := Lib.hid hr2
          have Hn2 := Lib.hid hn2
          have Hm := Lib.hid hm
          have Hl2 := Lib.hid (own_below Hl.out hb2)
          have HB2 := Lib.hid (((Below.refl w.heap.size w).alloc (Nat.le_refl _) _).trans (hb2.mono (by simp)))
          have hs2 := HB2.out.size
          clear ho2 hr2 hn2 hm hb2
          go_wp2_with (at_builtin; refine wpList_appV rfl _ _ rfl elU8b Hl2.out rfl rfl Hr2.out Hn2.out (ints_all _ _) (by omega) hs2 ?_; intro v4 w4 hown4 hfr4 hat4; have Hown4 := Lib.hid hown4; have Hfr4 := Lib.hid hfr4; clear hown4 hfr4 hat4)
          go_ret
          have e9 : (#[Value.int .u8 (128 + s)] : Array Value).toList ++ ints .u8 (lebS (q - 1)) = ints .u8 (lebS n) := by
            rw [hmo.out, Int.add_comm]; rfl
          have e5 : (lebS n).length = 1 + m := by rw [hmo.out, List.length_cons, ← Hm.out]; omega
          have h4 := Hown4.out
          rw [e9] at h4
          exact ⟨_, rfl, by rw [e5]; exact h4, HB2.out.trans (Hfr4.out.below hs2 (fun o ho i e => by simp at ho; subst ho; exact (Hl2.out.lt i e).1))⟩
    · obtain ⟨r, hr⟩ : ∃ r, r = n.tmod 128 := ⟨_, rfl⟩
      obtain ⟨q, hq⟩ : ∃ q, q = n.tdiv 128 := ⟨_, rfl⟩
      have HE := Lib.hid (show n % 128 = r by rw [hr, Int.tmod_eq_emod]; split <;> omega)
      have HQ := Lib.hid (show n / 128 = q by rw [hq, Int.tdiv_eq_ediv]; split <;> omega)
      have hr0 : 0 ≤ r := by have := HE.out; omega
      have hr1 : r ≤ 127 := by have := HE.out; omega
      have hq1 : -9223372036854775808 ≤ q := by have := HQ.out; have := hn.1; omega
      have hq2 : q ≤ 9223372036854775807 := by have := HQ.out; have := hn.2; omega
      have ht := hr.symm
      have ht2 := hq.symm
      clear hr hq
      have h1 : -64 ≤ n := by omega
      by_cases h2 : n ≤ 63
      · have hlo := Lib.hid (lebS_last ⟨h1, h2⟩)
        go_wp2_with fail
        go_ret
        have hl := World.ownsRow_lit (base := w.heap.size) (size := 1) (e := 5) w #[.int .u8 r] 1 (Nat.le_refl _) (by simp [maxLen]) rfl
        refine ⟨_, rfl, ?_, (Below.refl _ _).alloc (Nat.le_refl _) _⟩
        rw [hlo.out, HE.out]
        exact hl
      · have hmo := Lib.hid (lebS_more (n := n) (by omega))
        rw [HE.out, HQ.out] at hmo
        have Hi := Lib.hid (show I64 q by rw [← HQ.out]; exact i64_div Hn.out)
        have h10 := Lib.hid (lebS_10 Hi.out)
        have hl := World.ownsRow_lit (base := w.heap.size) (size := 1) (e := 5) w #[.int .u8 (128 + r)] 1 (Nat.le_refl _) (by simp [maxLen]) rfl
        have Hl := Lib.hid hl
        have hab : q.natAbs < f := by have := HQ.out; omega
        have Hab := Lib.hid hab
        clear hl hn hab hf
        go_wp2_with fail
        refine (ih q _ Hab.out Hi.out).mono ?_
        rintro e w2 ⟨v2, rfl, ho2, hb2⟩
        obtain ⟨A2, c2, rfl, _, hr2, hn2⟩ := own_rdV ho2
        obtain ⟨m, hm⟩ : ∃ m, m = (lebS q).length := ⟨_, rfl⟩
        have hm10 : m ≤ 10 := by rw [hm]; exact h10.out.2
        rw [← hm] at hr2 hn2 ⊢
        have Hr2 := Lib.hid hr2
        have Hn2 := Lib.hid hn2
        have Hm := Lib.hid hm
        have Hl2 := Lib.hid (own_below Hl.out hb2)
        have HB2 := Lib.hid (((Below.refl w.heap.size w).alloc (Nat.le_refl _) _).trans (hb2.mono (by simp)))
        have hs2 := HB2.out.size
        clear ho2 hr2 hn2 hm hb2
        go_wp2_with (at_builtin; refine wpList_appV rfl _ _ rfl elU8b Hl2.out rfl rfl Hr2.out Hn2.out (ints_all _ _) (by omega) hs2 ?_; intro v4 w4 hown4 hfr4 hat4; have Hown4 := Lib.hid hown4; have Hfr4 := Lib.hid hfr4; clear hown4 hfr4 hat4)
        go_ret
        have e9 : (#[Value.int .u8 (128 + r)] : Array Value).toList ++ ints .u8 (lebS q) = ints .u8 (lebS n) := by
          rw [hmo.out, Int.add_comm]; rfl
        have e5 : (lebS n).length = 1 + m := by rw [hmo.out, List.length_cons, ← Hm.out]; omega
        have h4 := Hown4.out
        rw [e9] at h4
        exact ⟨_, rfl, by rw [e5]; exact h4, HB2.out.trans (Hfr4.out.below hs2 (fun o ho i e => by simp at ho; subst ho; exact (Hl2.out.lt i e).1))⟩
set_option maxHeartbeats 1000000 in
set_option maxRecDepth 100000 in
theorem GetS_calls (A : Option Addr) (n c : Nat) (b : List Int) (w : World) (hR : Rd w .u8 A n b) (hA : A = none → n = 0 ∧ c = 0) (hc : n ≤ c) (hb : ∀ x ∈ b, 0 ≤ x ∧ x ≤ 255) (hn : n ≤ 1000000) :
    Calls Try.prog 67 #[.slice A n c] w fun e w' => ∃ (v : Int) (k : Nat) (f : Int), e = .returned (.tuple #[.int .i64 v, .int .i64 k, .int .i64 f]) ∧ Hid (IsGetS b v k f) ∧ Below w.heap.size w w' := by
  have HR := Lib.hid hR
  have Hl := Lib.hid hR.1
  have Hb := Lib.hid hb
  clear hR hb
  go_enter Try.func67, Try.ntmps67
  go_wp2_with fail
  refine (span_calls A n c b w HR.out hn).mono ?_
  rintro e w' ⟨s, f, rfl, Hs, rfl⟩
  by_cases hf : f = 0
  · subst hf
    have hs10 : 1 ≤ s ∧ s ≤ 10 ∧ s ≤ n := by
      rcases Hs.out with ⟨_, h1, h2, h3, _⟩ | ⟨_, h, _⟩ | ⟨_, h, _⟩
      · rw [Hl.out] at h3; exact ⟨h1, h2, h3⟩
      · omega
      · omega
    obtain ⟨hs1, hs2, hs3⟩ := hs10
    obtain ⟨b0, o0, e0, hcell⟩ := HR.out.2 (by omega)
    subst e0
    have Hcell := Lib.hid hcell
    clear hcell
    go_wp2_with fail
    go_loopw [7, 23] (fun v i wr => ∃ k : Nat, k ≤ s ∧ i = .int .i64 k ∧ v = .int .i64 (IntKind.i64.wrap (valB (b.take k))) ∧ wr = w') (fun _ i _ => s - (intOf i).toNat)
    case atStart => exact ⟨0, by omega, rfl, rfl, rfl⟩
    case round =>
      obtain ⟨k, hk, rfl, rfl, hw⟩ := hrel
      obtain ⟨W, hW⟩ : ∃ W, W = wr := ⟨_, rfl⟩
      rw [← hW] at hw ⊢
      subst hw
      clear hW
      obtain ⟨q, hq⟩ : ∃ q, q = IntKind.i64.wrap (valB (b.take k)) := ⟨_, rfl⟩
      rw [← hq]
      have Hq := Lib.hid hq
      by_cases hlt : k < s
      · clear hq
        have c0 := Hcell.out k (by omega)
        obtain ⟨x, hx⟩ : ∃ x, x = rd b k := ⟨_, rfl⟩
        rw [← hx] at c0
        have HX := Lib.hid hx
        have hx255 : 0 ≤ x ∧ x ≤ 255 := by rw [hx, rd_getElem (by rw [Hl.out]; omega)]; exact Hb.out _ (List.getElem_mem _)
        obtain ⟨hx0, hx1⟩ := hx255
        clear hx
        have hst := step_valS (b := b) (k := k) (by omega) (by rw [Hl.out]; omega) HX.out ⟨hx0, hx1⟩ Hq.out
        rw [← w64, ← w64] at hst
        have Hst := Lib.hid hst
        clear hst
        go_wp2_with fail
        go_roundw
        case rel => exact ⟨k + 1, by omega, by go_num, by rw [Hst.out], trivial⟩
        case measure => simp [intOf]; omega
      · obtain rfl : k = s := by omega
        obtain ⟨x9, hx9⟩ : ∃ x, x = rd b (k - 1) := ⟨_, rfl⟩
        have c9 := Hcell.out (k - 1) (by omega)
        rw [← hx9] at c9
        have HX9 := Lib.hid hx9
        have hx255 : 0 ≤ x9 ∧ x9 ≤ 255 := by rw [hx9, rd_getElem (by rw [Hl.out]; omega)]; exact Hb.out _ (List.getElem_mem _)
        obtain ⟨hx0, hx1⟩ := hx255
        have hqi : -9223372036854775808 ≤ q ∧ q ≤ 9223372036854775807 := by rw [hq, IntKind.wrap_i64]; omega
        have ha64 := and_64 ⟨hx0, hx1⟩
        clear hx9 hq
        by_cases h9 : k < 10
        · have hsm := Lib.hid (sval_small (b := b) hs1 (by omega) (by rw [Hl.out]; omega))
          have hV := valB_take_lt b k
          have hp9 := pow9 (k := k) (by omega)
          have hqV : q = (valB (b.take k) : Nat) := by rw [Hq.out, IntKind.wrap_i64]; omega
          by_cases hsg : 64 ≤ x9 % 128
          · have hor : bits .or .i64 q (IntKind.i64.wrap (-1 * 2 ^ (7 * k))) = svalB (b.take k) := by
              rw [hqV, or_sign hs1 (by omega) hV, hsm.out.1, ← HX9.out, if_pos hsg]
              try simp
            rw [if_pos hsg] at ha64
            rw [← w64, Int.neg_one_mul] at hor
            obtain ⟨z, hz⟩ : ∃ z, z = svalB (b.take k) := ⟨_, rfl⟩
            rw [← hz] at hor
            have Hz := Lib.hid hz
            have hzi : I64 z := by rw [hz]; exact hsm.out.2
            clear hqV hV hp9 hz
            obtain ⟨lq, hlq⟩ : ∃ l, l = (lebS z).length := ⟨_, rfl⟩
            have hlq10 : lq ≤ 10 := by rw [hlq]; exact (lebS_10 hzi).2
            have Hlq := Lib.hid hlq
            have Hzi := Lib.hid hzi
            clear hlq hzi
            go_wp2_with fail
            refine (S_calls z _ Hzi.out).mono ?_
            rintro e w2 ⟨v2, rfl, ho2, hb2⟩
            rw [← Hlq.out] at ho2
            obtain ⟨A2, c2, rfl⟩ := own_slice ho2
            have HB2 := Lib.hid hb2
            clear ho2 hb2
            by_cases hl : lq = k
            · have hg := Lib.hid (getS_some Hb.out Hs.out (by rw [← Hz.out]; exact Hzi.out) (by rw [← Hz.out, ← Hlq.out]; exact hl))
              rw [← Hz.out] at hg
              subst hl
              go_wp2_with fail
              refine bodyPost_ret (v := .tuple #[.int .i64 z, .int .i64 lq, .int .i64 0]) (by simp [results, Try.results67, go_sem]) rfl ?_
              exact ⟨z, _, 0, rfl, hg.out, HB2.out⟩
            · have hlb : ((lq : Int) != k) = true := by simp; omega
              have hg := Lib.hid (getS_none Hs.out (fun _ e => hl (by rw [Hlq.out, Hz.out]; exact e)))
              go_wp2_with fail
              refine bodyPost_ret (v := .tuple #[.int .i64 0, .int .i64 0, .int .i64 3]) (by simp [results, Try.results67, go_sem]) rfl ?_
              exact ⟨0, 0, 3, rfl, hg.out, HB2.out⟩
          · rw [if_neg hsg] at ha64
            obtain ⟨z, hz⟩ : ∃ z, z = svalB (b.take k) := ⟨_, rfl⟩
            have Hz := Lib.hid hz
            have hzi : I64 z := by rw [hz]; exact hsm.out.2
            have hqz : q = z := by rw [hz, hsm.out.1, ← HX9.out, if_neg hsg, hqV]; omega
            clear hqV hV hp9 hz
            subst hqz
            obtain ⟨lq, hlq⟩ : ∃ l, l = (lebS q).length := ⟨_, rfl⟩
            have hlq10 : lq ≤ 10 := by rw [hlq]; exact (lebS_10 hzi).2
            have Hlq := Lib.hid hlq
            have Hzi := Lib.hid hzi
            clear hlq hzi
            go_wp2_with fail
            refine (S_calls q _ Hzi.out).mono ?_
            rintro e w2 ⟨v2, rfl, ho2, hb2⟩
            rw [← Hlq.out] at ho2
            obtain ⟨A2, c2, rfl⟩ := own_slice ho2
            have HB2 := Lib.hid hb2
            clear ho2 hb2
            by_cases hl : lq = k
            · have hg := Lib.hid (getS_some Hb.out Hs.out (by rw [← Hz.out]; exact Hzi.out) (by rw [← Hz.out, ← Hlq.out]; exact hl))
              rw [← Hz.out] at hg
              subst hl
              go_wp2_with fail
              refine bodyPost_ret (v := .tuple #[.int .i64 q, .int .i64 lq, .int .i64 0]) (by simp [results, Try.results67, go_sem]) rfl ?_
              exact ⟨q, _, 0, rfl, hg.out, HB2.out⟩
            · have hlb : ((lq : Int) != k) = true := by simp; omega
              have hg := Lib.hid (getS_none Hs.out (fun _ e => hl (by rw [Hlq.out, Hz.out]; exact e)))
              go_wp2_with fail
              refine bodyPost_ret (v := .tuple #[.int .i64 0, .int .i64 0, .int .i64 3]) (by simp [results, Try.results67, go_sem]) rfl ?_
              exact ⟨0, 0, 3, rfl, hg.out, HB2.out⟩
        · obtain rfl : k = 10 := by omega
          by_cases he : x9 = 0 ∨ x9 = 127
          · have hst := sval_ten (b := b) (by rw [Hl.out]; omega) (by have := HX9.out; simp only [Nat.reduceSub] at this; rw [← this]; exact he)
            have h8 := valB_take_lt b 9
            rw [show (128 : Nat) ^ 9 = 9223372036854775808 by decide] at h8
            obtain ⟨z, hz⟩ : ∃ z, z = svalB (b.take 10) := ⟨_, rfl⟩
            have Hz := Lib.hid hz
            have hzi : I64 z := by rw [hz]; exact hst.2.1
            have hqz : q = z := by
              have h9e : rd b 9 = x9 := HX9.out.symm
              rw [hz, hst.1, Hq.out, IntKind.wrap_i64, hst.2.2, h9e]
              rcases he with e | e
              · rw [e, if_pos rfl]; omega
              · rw [e, if_neg (by decide)]; omega
            have He := Lib.hid he
            clear hst h8 hz he
            subst hqz
            rcases He.out with rfl | rfl
            · obtain ⟨lq, hlq⟩ : ∃ l, l = (lebS q).length := ⟨_, rfl⟩
              have hlq10 : lq ≤ 10 := by rw [hlq]; exact (lebS_10 hzi).2
              have Hlq := Lib.hid hlq
              have Hzi := Lib.hid hzi
              clear hlq hzi
              go_wp2_with fail
              refine (S_calls q _ Hzi.out).mono ?_
              rintro e w2 ⟨v2, rfl, ho2, hb2⟩
              rw [← Hlq.out] at ho2
              obtain ⟨A2, c2, rfl⟩ := own_slice ho2
              have HB2 := Lib.hid hb2
              clear ho2 hb2
              by_cases hl : lq = 10
              · have hg := Lib.hid (getS_some Hb.out Hs.out (by rw [← Hz.out]; exact Hzi.out) (by rw [← Hz.out, ← Hlq.out]; exact hl))
                rw [← Hz.out] at hg
                subst hl
                go_wp2_with fail
                refine bodyPost_ret (v := .tuple #[.int .i64 q, .int .i64 10, .int .i64 0]) (by simp [results, Try.results67, go_sem]) rfl ?_
                exact ⟨q, _, 0, rfl, hg.out, HB2.out⟩
              · have hlb : ((lq : Int) != 10) = true := by simp; omega
                have hg := Lib.hid (getS_none Hs.out (fun _ e => hl (by rw [Hlq.out, Hz.out]; exact e)))
                go_wp2_with fail
                refine bodyPost_ret (v := .tuple #[.int .i64 0, .int .i64 0, .int .i64 3]) (by simp [results, Try.results67, go_sem]) rfl ?_
                exact ⟨0, 0, 3, rfl, hg.out, HB2.out⟩
            · obtain ⟨lq, hlq⟩ : ∃ l, l = (lebS q).length := ⟨_, rfl⟩
              have hlq10 : lq ≤ 10 := by rw [hlq]; exact (lebS_10 hzi).2
              have Hlq := Lib.hid hlq
              have Hzi := Lib.hid hzi
              clear hlq hzi
              go_wp2_with fail
              refine (S_calls q _ Hzi.out).mono ?_
              rintro e w2 ⟨v2, rfl, ho2, hb2⟩
              rw [← Hlq.out] at ho2
              obtain ⟨A2, c2, rfl⟩ := own_slice ho2
              have HB2 := Lib.hid hb2
              clear ho2 hb2
              by_cases hl : lq = 10
              · have hg := Lib.hid (getS_some Hb.out Hs.out (by rw [← Hz.out]; exact Hzi.out) (by rw [← Hz.out, ← Hlq.out]; exact hl))
                rw [← Hz.out] at hg
                subst hl
                go_wp2_with fail
                refine bodyPost_ret (v := .tuple #[.int .i64 q, .int .i64 10, .int .i64 0]) (by simp [results, Try.results67, go_sem]) rfl ?_
                exact ⟨q, _, 0, rfl, hg.out, HB2.out⟩
              · have hlb : ((lq : Int) != 10) = true := by simp; omega
                have hg := Lib.hid (getS_none Hs.out (fun _ e => hl (by rw [Hlq.out, Hz.out]; exact e)))
                go_wp2_with fail
                refine bodyPost_ret (v := .tuple #[.int .i64 0, .int .i64 0, .int .i64 3]) (by simp [results, Try.results67, go_sem]) rfl ?_
                exact ⟨0, 0, 3, rfl, hg.out, HB2.out⟩
          · have hn0 : ¬ x9 = 0 := fun h => he (.inl h)
            have hn1 : ¬ x9 = 127 := fun h => he (.inr h)
            have hg := Lib.hid (getS_ten Hs.out ⟨by have := HX9.out; simp only [Nat.reduceSub] at this; rw [← this]; exact hn0, by have := HX9.out; simp only [Nat.reduceSub] at this; rw [← this]; exact hn1⟩)
            have hb0 : ((x9 : Int) != 0) = true := by simpa using hn0
            have hb1 : ((x9 : Int) != 127) = true := by simpa using hn1
            have hlz := Lib.hid (lebS_10 hqi)
            obtain ⟨lq, hlq⟩ : ∃ l, l = (lebS q).length := ⟨_, rfl⟩
            have Hlq := Lib.hid hlq
            have hlq10 : lq ≤ 10 := by rw [hlq]; exact hlz.out.2
            clear hlq he
            go_wp2_with fail
            refine (S_calls q _ hqi).mono ?_
            rintro e w2 ⟨v2, rfl, ho2, hb2⟩
            rw [← Hlq.out] at ho2
            obtain ⟨A2, c2, rfl⟩ := own_slice ho2
            have HB2 := Lib.hid hb2
            clear ho2 hb2
            by_cases hl : lq = 10
            · subst hl
              go_wp2_with fail
              refine bodyPost_ret (v := .tuple #[.int .i64 0, .int .i64 0, .int .i64 3]) (by simp [results, Try.results67, go_sem]) rfl ?_
              exact ⟨0, 0, 3, rfl, hg.out, HB2.out⟩
            · have hlb : ((lq : Int) != 10) = true := by simp; omega
              go_wp2_with fail
              refine bodyPost_ret (v := .tuple #[.int .i64 0, .int .i64 0, .int .i64 3]) (by simp [results, Try.results67, go_sem]) rfl ?_
              exact ⟨0, 0, 3, rfl, hg.out, HB2.out⟩
  · have hfb : (f == 0) = false := by simpa using hf
    go_wp2_with fail
    refine bodyPost_ret (v := .tuple #[.int .i64 0, .int .i64 0, .int .i64 f]) (by simp [results, Try.results67, go_sem]) rfl ?_
    exact ⟨0, 0, f, rfl, getS_err Hs.out hf, Below.refl _ _⟩
theorem flatU_next {l : List Int} {k : Nat} (h : k < l.length) : (l.take (k + 1)).flatMap (fun x => lebU x.toNat) = (l.take k).flatMap (fun x => lebU x.toNat) ++ lebU (rd l k).toNat := by
  rw [List.take_succ_eq_append_getElem h, List.flatMap_append, rd_getElem h]
  simp
set_option maxHeartbeats 1000000 in
set_option maxRecDepth 100000 in
theorem All_calls (A : Option Addr) (n c : Nat) (l : List Int) (w : World) (hR : Rd w .u64 A n l) (hl : ∀ x ∈ l, 0 ≤ x ∧ x < 18446744073709551616) (hn : n ≤ 1000000) :
    Calls Try.prog 44 #[.slice A n c] w fun e w' => ∃ v, e = .returned v ∧ w'.ownsRow w.heap.size 5 1 v (l.flatMap fun x => lebU x.toNat).length (ints .u8 (l.flatMap fun x => lebU x.toNat)) ∧ Below w.heap.size w w' := by
  have HR := Lib.hid hR
  have Hl := Lib.hid hl
  clear hR hl
  go_enter Try.func44, Try.ntmps44
  go_wp2_with fail
  go_loopw [3, 8] (fun v i wr => ∃ (k m : Nat) (L : List Int), k ≤ n ∧ i = .int .i64 k ∧ m ≤ 10 * k ∧ Hid (L = (l.take k).flatMap fun x => lebU x.toNat) ∧ Hid (wr.ownsRow w.heap.size 5 1 v m (ints .u8 L)) ∧ Hid (Below w.heap.size w wr)) (fun _ i _ => n - (intOf i).toNat)
  case atStart => exact ⟨0, 0, [], by omega, rfl, by omega, Lib.hid rfl, Lib.hid (World.ownsRow_nil _ _ _ _), Lib.hid (Below.refl _ _)⟩
  case round =>
    obtain ⟨k, m, L, hk, rfl, hm, HL, HO, HB⟩ := hrel
    obtain ⟨W, hW⟩ : ∃ W, W = wr := ⟨_, rfl⟩
    subst hW
    obtain ⟨Av, cv, hv⟩ := own_slice HO.out
    subst hv
    have hsz := HB.out.size
    by_cases hlt : k < n
    · obtain ⟨b0, o0, e0, hc⟩ := (HR.out.below HB.out).2 (by omega)
      subst e0
      have c0 := hc k hlt
      have hkl : k < l.length := by rw [HR.out.1]; exact hlt
      obtain ⟨x, hx⟩ : ∃ x, x = (rd l k).toNat := ⟨_, rfl⟩
      have hxr : 0 ≤ rd l k ∧ rd l k < 18446744073709551616 := by rw [rd_getElem hkl]; exact Hl.out _ (List.getElem_mem _)
      have hxe : rd l k = (x : Int) := by omega
      have hx64 : x < 18446744073709551616 := by omega
      rw [hxe] at c0
      have Hnx := Lib.hid (flatU_next hkl)
      rw [← hx] at Hnx
      have h10 := lebU_10 hx64
      obtain ⟨j, hj⟩ : ∃ j, j = (lebU x).length := ⟨_, rfl⟩
      rw [← hj] at h10
      have Hj := Lib.hid hj
      clear hc hxr hxe hx hj
      go_wp2_with fail
      refine (U_calls x _ hx64).mono ?_
      rintro e w2 ⟨v2, rfl, ho2, hb2⟩
      rw [← Hj.out] at ho2
      obtain ⟨A2, c2, rfl, _, hr2, hn2⟩ := own_rdV ho2
      have Hr2 := Lib.hid hr2
      have Hn2 := Lib.hid hn2
      have HO2 := Lib.hid (own_below HO.out hb2)
      have HB2 := Lib.hid (below_seq HB.out (Nat.le_refl _) hb2)
      have hs2 := HB2.out.size
      clear ho2 hr2 hn2 hb2
      go_wp2_with (at_builtin; refine wpList_appV rfl _ _ rfl elU8b HO2.out rfl rfl Hr2.out Hn2.out (ints_all _ _) (by omega) hs2 ?_; intro v4 w4 hown4 hfr4 hat4; have Hown4 := Lib.hid hown4; have Hfr4 := Lib.hid hfr4; clear hown4 hfr4 hat4)
      go_roundw
      case rel =>
        refine ⟨k + 1, m + j, L ++ lebU x, by omega, by go_num, by omega, Lib.hid (by rw [HL.out, Hnx.out]), Lib.hid ?_, Lib.hid (HB2.out.trans (Hfr4.out.below hs2 (fun o ho i e => by simp at ho; subst ho; exact (HO2.out.lt i e).1)))⟩
        rw [ints_append]
        exact Hown4.out
      case measure => simp [intOf]; omega
    · obtain rfl : k = n := by omega
      have hL : L = l.flatMap fun x => lebU x.toNat := by rw [HL.out, List.take_of_length_le (by rw [HR.out.1]; omega)]
      have hml : m = L.length := by have := HO.out.1; rw [ints_length] at this; omega
      have Hx := Lib.hid (show W.ownsRow w.heap.size 5 1 (.slice Av m cv) (l.flatMap fun x => lebU x.toNat).length (ints .u8 (l.flatMap fun x => lebU x.toNat)) by rw [← hL, ← hml]; exact HO.out)
      clear hL hml
      go_wp2_with fail
      go_ret
      exact ⟨_, rfl, Hx.out, HB.out⟩
end Go.Proofs.Ytdbkbeojedndbaa
/-
  The walk of actors.text.
-/
namespace Go.Proofs.Ytdbkbeojedndbaa
open Go.RowKit

/-- A slice of bytes that is read. -/
structure BSl (w : World) (A : Option Addr) (n c : Nat) (b : List Int) : Prop where
  rd : Rd w .u8 A n b
  nil : A = none → n = 0 ∧ c = 0
  cap : n ≤ c
theorem BSl.below {w w' : World} {A : Option Addr} {n c : Nat} {b : List Int} (h : BSl w A n c b) (hb : Below w.heap.size w w') : BSl w' A n c b := ⟨h.rd.below hb, h.nil, h.cap⟩
theorem rd_drop_at {w : World} {b0 o0 n : Nat} {b : List Int} (h : Rd w .u8 (some ⟨b0, o0, none⟩) n b) (hn : 0 < n) {k : Nat} (hk : k ≤ n) : Rd w .u8 (some ⟨b0, o0 + k, none⟩) (n - k) (b.drop k) := by
  refine ⟨by rw [List.length_drop, h.1], fun h0 => ⟨b0, o0 + k, rfl, fun j hj => ?_⟩⟩
  obtain ⟨_, _, e, hc⟩ := h.2 hn
  cases e
  have := hc (k + j) (by omega)
  rw [Nat.add_assoc, this]
  unfold Go.Proofs.Ytdbkbeojedndbaa.rd
  rw [List.getD_eq_getElem?_getD, List.getD_eq_getElem?_getD, List.getElem?_drop]
theorem rd_take_at {w : World} {A : Option Addr} {n : Nat} {b : List Int} (h : Rd w .u8 A n b) {v : Nat} (hv : v ≤ n) : Rd w .u8 A v (b.take v) := by
  refine ⟨by rw [List.length_take, h.1]; omega, fun h0 => ?_⟩
  obtain ⟨b0, o0, e, hc⟩ := h.2 (by omega)
  exact ⟨b0, o0, e, fun j hj => by rw [take_rdl hj]; exact hc j (by omega)⟩
/-- What text ends with. -/
structure TextEnd (w : World) (A : Option Addr) (n : Nat) (b : List Int) (e : Ending) (w' : World) : Prop where
  bel : Below w.heap.size w w'
  is : ∃ (v k : Nat) (f : Int), IsGet b v k f ∧
    ((f ≠ 0 ∧ e = .returned (.tuple #[.string ⟨#[]⟩, .slice none 0 0, .int .i64 f])) ∨
     (f = 0 ∧ (v < 1 ∨ 16 < v) ∧ e = .returned (.tuple #[.string ⟨#[]⟩, .slice none 0 0, .int .i64 4])) ∨
     (f = 0 ∧ 1 ≤ v ∧ v ≤ 16 ∧ n < k + v ∧ e = .returned (.tuple #[.string ⟨#[]⟩, .slice none 0 0, .int .i64 2])) ∨
     (f = 0 ∧ 1 ≤ v ∧ v ≤ 16 ∧ k + v ≤ n ∧ ∃ A' c', e = .returned (.tuple #[.string (textAt b k v), .slice A' (n - (k + v)) c', .int .i64 0]) ∧ BSl w' A' (n - (k + v)) c' (b.drop (k + v)) ∧ ∃ b1 o1 o2, A = some ⟨b1, o1, none⟩ ∧ A' = some ⟨b1, o2, none⟩))
set_option maxHeartbeats 1000000 in
set_option maxRecDepth 100000 in
theorem text_calls (A : Option Addr) (n c : Nat) (b : List Int) (w : World) (hR : BSl w A n c b) (hb : ∀ x ∈ b, 0 ≤ x ∧ x ≤ 255) (hn : n ≤ 1000000) :
    Calls Try.prog 69 #[.slice A n c] w (TextEnd w A n b) := by
  have HR := Lib.hid hR
  have Hl := Lib.hid hR.rd.1
  have Hb := Lib.hid hb
  have hcap := hR.cap
  clear hR hb
  go_enter Try.func69, Try.ntmps69
  go_wp2_with fail
  refine (GetU_calls A n c b w HR.out.rd HR.out.nil hcap Hb.out hn).mono ?_
  rintro e w1 ⟨v, k, f, rfl, Hg, hb1⟩
  have HB1 := Lib.hid hb1
  have HR1 := Lib.hid (HR.out.below hb1)
  clear hb1
  by_cases hf : f = 0
  · subst hf
    obtain ⟨hk1, hk10, hkn, hv64⟩ := isGet_rng Hg.out
    rw [Hl.out] at hkn
    by_cases hv : 1 ≤ v ∧ v ≤ 16
    · obtain ⟨hv1, hv16⟩ := hv
      have hsub : (n : Int) - k = ((n - k : Nat) : Int) := by omega
      by_cases hkv : k + v ≤ n
      · obtain ⟨b0, o0, e0, _⟩ := HR1.out.rd.2 (by omega)
        subst e0
        have hrk := rd_drop_at HR1.out.rd (by omega) hkn
        have hrt := rd_take_at hrk (v := v) (by omega)
        have hcv : ∀ m, (convert 22 9 (.slice (some ⟨b0, o0 + k, none⟩) v (c - k))).run Try.prog (w1.drewN m) = .ok (.string (strOfNums ((b.drop k).take v))) (w1.drewN m) := fun m => conv_all (hrt.below (below_drewN (Below.refl _ _) m))
        obtain ⟨q, hq⟩ : ∃ q, q = k + v := ⟨_, rfl⟩
        rw [← hq] at hkv
        have Hrkv := Lib.hid (rd_drop_at HR1.out.rd (by omega) hkv)
        have hadd : (k : Int) + v = (q : Int) := by omega
        have hvq : q - k = v := by omega
        have hkq : k < q := by omega
        have hkc0 : k < c := by omega
        have hnk : ¬ n - k < v := by omega
        have Hq := Lib.hid hq
        clear hrk hrt hq
        by_cases hkc : q < c
        · go_upto_region 8 with fail
          clear hsub
          go_quiet (fail)
          have HBd := Lib.hid (below_drewN HB1.out)
          go_wp2_with fail
          refine bodyPost_ret (v := .tuple #[.string (strOfNums ((b.drop k).take v)), .slice (some ⟨b0, o0 + q, none⟩) (n - q) (c - q), .int .i64 0]) (by simp [results, Try.results69, go_sem]) rfl ?_
          refine ⟨below_drewN HB1.out _, v, k, 0, Hg.out, .inr (.inr (.inr ⟨rfl, hv1, hv16, by have := Hq.out; omega, some ⟨b0, o0 + q, none⟩, c - q, ?_, ⟨?_, (fun e => by cases e), ?_⟩, b0, o0, _, rfl, rfl⟩))⟩
          · rw [← Hq.out]; rfl
          · rw [← Hq.out]
            exact Hrkv.out.below (below_drewN (Below.refl _ _) _)
          · have := Hq.out; omega
        · go_upto_region 8 with fail
          clear hsub
          go_quiet (fail)
          have HBd := Lib.hid (below_drewN HB1.out)
          go_wp2_with fail
          refine bodyPost_ret (v := .tuple #[.string (strOfNums ((b.drop k).take v)), .slice (some ⟨b0, o0, none⟩) (n - q) (c - q), .int .i64 0]) (by simp [results, Try.results69, go_sem]) rfl ?_
          refine ⟨below_drewN HB1.out _, v, k, 0, Hg.out, .inr (.inr (.inr ⟨rfl, hv1, hv16, by have := Hq.out; omega, some ⟨b0, o0, none⟩, c - q, ?_, ⟨?_, (fun e => by cases e), ?_⟩, b0, o0, _, rfl, rfl⟩))⟩
          · rw [← Hq.out]; rfl
          · rw [← Hq.out]
            exact ⟨by rw [List.length_drop, Hl.out], fun h => by omega⟩
          · have := Hq.out; omega
      · go_wp2_with fail
        refine bodyPost_ret (v := .tuple #[.string ⟨#[]⟩, .slice none 0 0, .int .i64 2]) (by simp [results, Try.results69, go_sem]) rfl ?_
        exact ⟨HB1.out, v, k, 0, Hg.out, .inr (.inr (.inl ⟨rfl, hv1, hv16, by omega, rfl⟩))⟩
    · have hvo : v < 1 ∨ 16 < v := by omega
      have Hvo := Lib.hid hvo
      by_cases hv1 : 1 ≤ v
      · have hv17 : ¬ v ≤ 16 := by omega
        clear hv hvo
        go_wp2_with fail
        refine bodyPost_ret (v := .tuple #[.string ⟨#[]⟩, .slice none 0 0, .int .i64 4]) (by simp [results, Try.results69, go_sem]) rfl ?_
        exact ⟨HB1.out, v, k, 0, Hg.out, .inr (.inl ⟨rfl, Hvo.out, rfl⟩)⟩
      · clear hv hvo
        go_wp2_with fail
        refine bodyPost_ret (v := .tuple #[.string ⟨#[]⟩, .slice none 0 0, .int .i64 4]) (by simp [results, Try.results69, go_sem]) rfl ?_
        exact ⟨HB1.out, v, k, 0, Hg.out, .inr (.inl ⟨rfl, Hvo.out, rfl⟩)⟩
  · have hfb : (f == 0) = false := by simpa using hf
    go_wp2_with fail
    refine bodyPost_ret (v := .tuple #[.string ⟨#[]⟩, .slice none 0 0, .int .i64 f]) (by simp [results, Try.results69, go_sem]) rfl ?_
    exact ⟨HB1.out, v, k, f, Hg.out, .inl ⟨hf, rfl⟩⟩
theorem BSl.old {w w' : World} {B : Nat} {A : Option Addr} {n c : Nat} {b : List Int} (h : BSl w A n c b) (hb : Below B w w') (hA : ∀ b1 o1, A = some ⟨b1, o1, none⟩ → b1 < B) : BSl w' A n c b := by
  refine ⟨⟨h.rd.1, fun hn => ?_⟩, h.nil, h.cap⟩
  obtain ⟨b1, o1, e, hc⟩ := h.rd.2 hn
  exact ⟨b1, o1, e, fun j hj => (hb.cell (p := ⟨b1, o1 + j, none⟩) (hA b1 o1 e)).trans (hc j hj)⟩
end Go.Proofs.Ytdbkbeojedndbaa
