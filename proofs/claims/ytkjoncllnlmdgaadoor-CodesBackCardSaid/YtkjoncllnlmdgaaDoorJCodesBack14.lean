/-
  Texts joined into one file: Get, CodesQ, BackP, BackQ, BackR.
-/
import Derived.Test.YtkjoncllnlmdgaaDoorJCodesBack12
import Derived.Test.YtkjoncllnlmdgaaDoorJCodesBack8
import Derived.Test.YtkjoncllnlmdgaaDoorJCodesBack13
import Derived.Test.YtkjoncllnlmdgaaDoorJCodesBack1
import Derived.Test.YtkjoncllnlmdgaaDoorJCodesBack7
/-
  The walk of Get (package codes).
-/
namespace Go.Proofs.YtkjoncllnlmdgaaDoor
open Go.RowKit



theorem OrdAt.grown {w w1 : World} {r : Nat} (h : OrdAt w) (hg : w.grownBy w1 (some r)) (hr : 0 ≠ r) : OrdAt w1 := fun j hj => hg.cell (h j hj) (by simpa using hr)
theorem OrdAt.below {w w1 : World} (h : OrdAt w) (hb : Below w.heap.size w w1) : OrdAt w1 := fun j hj => kept_cell hb (h j hj)
theorem Bits_any (r : Nat) (A : Option Addr) (len cap at' n : Nat) (bs : List Int) (w : World) (hR : RdrAt w r A len cap at') (hB : Rd w .u8 A len bs) (hb : ∀ j, j < len → 0 ≤ rd bs j ∧ rd bs j ≤ 255) (hne : ∀ b o, A = some ⟨b, o, none⟩ → b ≠ r) (hlen : len ≤ 1000000) (hat : at' ≤ 8 * len) (hn : n ≤ 60) :
    Calls Tryd.prog 39 #[.pointer (some ⟨r, 0, none⟩), .int .i64 n] w fun e w' => ((at' + n ≤ 8 * len ∧ e = .returned (.tuple #[(.int .u64 (numAt bs at' n : Nat)), .bool true]) ∧ RdrAt w' r A len cap (at' + n)) ∨ (8 * len < at' + n ∧ e = .returned (.tuple #[.int .u64 0, .bool false]) ∧ RdrAt w' r A len cap at')) ∧ w.grownBy w' (some r) := by
  rcases Nat.lt_or_ge (8 * len) (at' + n) with h | h
  · refine (BitsShort_calls r A len cap at' n w hR (by omega) hat hn h).mono ?_
    rintro e w1 ⟨rfl, hb1⟩
    exact ⟨.inr ⟨h, rfl, hR.keep hb1⟩, grown_below (grown_refl _ _) hb1⟩
  · refine (Bits_calls r A len cap at' n bs w hR hB hb hne (by omega) hat hn h).mono ?_
    rintro e w1 ⟨rfl, h1, h2⟩
    exact ⟨.inl ⟨h, rfl, h1⟩, h2⟩
set_option maxHeartbeats 4000000 in
set_option maxRecDepth 100000 in
theorem Get_calls (r : Nat) (A : Option Addr) (len cap p : Nat) (bs : List Int) (w : World) (hO : OrdAt w) (hor : 0 ≠ r) (hR : RdrAt w r A len cap p) (hB : Rd w .u8 A len bs) (hb : ∀ j, j < len → 0 ≤ rd bs j ∧ rd bs j ≤ 255) (hne : ∀ b o, A = some ⟨b, o, none⟩ → b ≠ r) (hlen : len ≤ 1000000) (hp : p ≤ 8 * len) :
    Calls Tryd.prog 16 #[.pointer (some ⟨r, 0, none⟩)] w fun e w' =>
      ((∃ l1 l2 q A1 c1 A2 c2, getS bs (8 * len) p = some (l1, l2, q) ∧ e = .returned (.tuple #[.slice A1 l1.length c1, .slice A2 l2.length c2, .bool true]) ∧ Rd w' .i64 A1 l1.length l1 ∧ Rd w' .i64 A2 l2.length l2 ∧ RdrAt w' r A len cap q) ∨
       (getS bs (8 * len) p = none ∧ e = .returned (.tuple #[.slice none 0 0, .slice none 0 0, .bool false]) ∧ ∃ q, q ≤ 8 * len ∧ RdrAt w' r A len cap q)) ∧ w.grownBy w' (some r) := by
  have HO := Lib.hid hO
  have HR := Lib.hid hR
  have HB := Lib.hid hB
  have Hb := Lib.hid hb
  clear hO hR hB hb
  go_enter Tryd.func16, Tryd.ntmps16
  go_wp2_with fail
  refine (Bits_any r A len cap p 5 bs _ HR.out HB.out Hb.out hne hlen hp (by omega)).mono ?_
  rintro e w1 ⟨hx1, hg1⟩
  have Hg1 := Lib.hid hg1
  have HB1 := Lib.hid (HB.out.grown hg1 hne)
  clear hg1
  rcases Nat.lt_or_ge (8 * len) (p + 14) with h14 | h14
  · have hno := Lib.hid (getS_short (bs := bs) (T := 8 * len) (p := p) h14)
    have key : ∃ (a : Nat) (ba : Bool) (q1 : Nat), a ≤ 31 ∧ e = .returned (.tuple #[.int .u64 a, .bool ba]) ∧ RdrAt w1 r A len cap q1 ∧ q1 ≤ 8 * len ∧ (8 * len < q1 + 5 ∨ (q1 = p + 5)) := by
      rcases hx1 with ⟨h1, rfl, h2⟩ | ⟨h1, rfl, h2⟩
      · exact ⟨_, _, _, by have := numAt_lt bs p 5; omega, rfl, h2, h1, .inr rfl⟩
      · exact ⟨0, _, _, by omega, rfl, h2, hp, .inl h1⟩
    obtain ⟨a, ba, q1, ha, rfl, hr1, hq1, hqq⟩ := key
    have Hr1 := Lib.hid hr1
    clear hx1 hr1
    go_wp2_with fail
    refine (Bits_any r A len cap q1 5 bs _ Hr1.out HB1.out Hb.out hne hlen hq1 (by omega)).mono ?_
    rintro e w2 ⟨hx2, hg2⟩
    have Hg2 := Lib.hid (grown_trans Hg1.out hg2)
    have HB2 := Lib.hid (HB1.out.grown hg2 hne)
    clear hg2
    have key : ∃ (d : Nat) (bd : Bool) (q2 : Nat), d ≤ 31 ∧ e = .returned (.tuple #[.int .u64 d, .bool bd]) ∧ RdrAt w2 r A len cap q2 ∧ q2 ≤ 8 * len ∧ (8 * len < q2 + 4 ∨ (8 * len < q2 + 5 ∧ d = 0)) := by
      rcases hx2 with ⟨h1, rfl, h2⟩ | ⟨h1, rfl, h2⟩
      · exact ⟨_, _, _, by have := numAt_lt bs q1 5; omega, rfl, h2, h1, .inl (by omega)⟩
      · exact ⟨0, _, _, by omega, rfl, h2, hq1, .inr ⟨h1, rfl⟩⟩
    obtain ⟨d, bd, q2, hd, rfl, hr2, hq2, hqq2⟩ := key
    have Hr2 := Lib.hid hr2
    clear hx2 hr2
    go_wp2_with fail
    refine (Bits_any r A len cap q2 4 bs _ Hr2.out HB2.out Hb.out hne hlen hq2 (by omega)).mono ?_
    rintro e w3 ⟨hx3, hg3⟩
    have Hg3 := Lib.hid (grown_trans Hg2.out hg3)
    have HB3 := Lib.hid (HB2.out.grown hg3 hne)
    clear hg3
    rcases hx3 with ⟨h1, rfl, h2⟩ | ⟨h1, rfl, h2⟩
    · obtain rfl : d = 0 := by omega
      have Hr3 := Lib.hid h2
      have hM16 := numAt_lt bs q2 4
      obtain ⟨M, hM⟩ : ∃ M, numAt bs q2 4 = M := ⟨_, rfl⟩
      rw [hM] at hM16 ⊢
      replace hM16 : M ≤ 15 := by omega
      clear h2 hM
      by_cases ha29 : 29 < a
      · have t2 : (29 : Int) < (a : Int) := by omega
        go_wp2
        refine bodyPost_ret (v := .tuple #[.slice none 0 0, .slice none 0 0, .bool false]) (by simp [results, Tryd.results16, go_sem]) rfl ⟨.inr ⟨hno.out, rfl, _, by omega, Hr3.out⟩, Hg3.out⟩
      · have hsz3 := Hg3.out.size
        have t2 : (a : Int) ≤ 29 := by omega
        have hsl := fun W => ord_slice W .u64 ((M : Int) + 4) (M + 4) (by omega) (by omega)
        go_wp2_with (at_make; refine wpList_mk1 (base := w3.heap.size) (n := 19) _ rfl _ _ rfl elIntN rfl rfl rfl rfl (by omega) (Nat.le_refl _) ?_; intro w4 hown4 hb4 hsz4)
        have HO4 := Lib.hid ((HO.out.grown Hg3.out hor).below hb4)
        have Hr4 := Lib.hid (Hr3.out.keep hb4)
        have Hg4 := Lib.hid (grown_below Hg3.out hb4)
        have HB4 := Lib.hid (HB3.out.below hb4)
        clear hown4 hb4
        have i1 : (0 : Int) < (M : Int) + 4 := by omega
        go_loopw [49] (fun i wr => i = .int .i64 0 ∧ w4 = wr) (fun _ _ => 0)
        case atStart => exact ⟨rfl, rfl⟩
        case round =>
          obtain ⟨rfl, rfl⟩ := hrel
          have z := HO4.out 0 (by omega)
          go_wp2_with fail
          refine (BitsShort_calls r A len cap (q2 + 4) 3 _ Hr4.out (by omega) h1 (by omega) (by omega)).mono ?_
          rintro e w5 ⟨rfl, hb5⟩
          have Hg5 := Lib.hid (grown_below Hg4.out hb5)
          have Hr5 := Lib.hid (Hr4.out.keep hb5)
          clear hb5
          go_wp2
          refine bodyPost_ret (v := .tuple #[.slice none 0 0, .slice none 0 0, .bool false]) (by simp [results, Tryd.results16, go_sem]) rfl ⟨.inr ⟨hno.out, rfl, _, h1, Hr5.out⟩, Hg5.out⟩
    · have Hr3 := Lib.hid h2
      clear h2
      go_wp2
      refine bodyPost_ret (v := .tuple #[.slice none 0 0, .slice none 0 0, .bool false]) (by simp [results, Tryd.results16, go_sem]) rfl ⟨.inr ⟨hno.out, rfl, _, hq2, Hr3.out⟩, Hg3.out⟩
  · rcases hx1 with ⟨h1, rfl, h2⟩ | ⟨h1, rfl, h2⟩
    case inr => omega
    have Hr1 := Lib.hid h2
    clear h1 h2
    go_wp2_with fail
    refine (Bits_calls r A len cap (p + 5) 5 bs _ Hr1.out HB1.out Hb.out hne (by omega) (by omega) (by omega) (by omega)).mono ?_
    rintro e w2 ⟨rfl, hr2, hg2⟩
    have Hg2 := Lib.hid (grown_trans Hg1.out hg2)
    have HB2 := Lib.hid (HB1.out.grown hg2 hne)
    have Hr2 := Lib.hid hr2
    clear hg2 hr2
    go_wp2_with fail
    refine (Bits_calls r A len cap (p + 5 + 5) 4 bs _ Hr2.out HB2.out Hb.out hne (by omega) (by omega) (by omega) (by omega)).mono ?_
    rintro e w3 ⟨rfl, hr3, hg3⟩
    have Hg3 := Lib.hid (grown_trans Hg2.out hg3)
    have HB3 := Lib.hid (HB2.out.grown hg3 hne)
    have Hr3 : Hid (RdrAt w3 r A len cap (p + 14)) := hr3
    clear hg3 hr3
    have ha32 := numAt_lt bs p 5
    have hd32 := numAt_lt bs (p + 5) 5
    have hM16 := numAt_lt bs (p + 5 + 5) 4
    obtain ⟨a, ha⟩ : ∃ a, numAt bs p 5 = a := ⟨_, rfl⟩
    obtain ⟨d, hd⟩ : ∃ d, numAt bs (p + 5) 5 = d := ⟨_, rfl⟩
    obtain ⟨M, hM⟩ : ∃ M, numAt bs (p + 5 + 5) 4 = M := ⟨_, rfl⟩
    rw [ha, hd, hM]
    rw [ha] at ha32
    rw [hd] at hd32
    rw [hM] at hM16
    have Ha := Lib.hid ha
    have Hd := Lib.hid hd
    have HM : Hid (numAt bs (p + 10) 4 = M) := hM
    replace ha32 : a ≤ 31 := by omega
    replace hd32 : d ≤ 31 := by omega
    replace hM16 : M ≤ 15 := by omega
    clear ha hd hM
    by_cases hbig : 29 < a ∨ 29 < d
    · have hno := Lib.hid (getS_big (bs := bs) (T := 8 * len) (p := p) (by rw [Ha.out, Hd.out]; exact hbig))
      rcases Nat.lt_or_ge 29 a with hb2 | hb2
      · have t2 : (29 : Int) < (a : Int) := by omega
        go_wp2
        refine bodyPost_ret (v := .tuple #[.slice none 0 0, .slice none 0 0, .bool false]) (by simp [results, Tryd.results16, go_sem]) rfl ⟨.inr ⟨hno.out, rfl, _, h14, Hr3.out⟩, Hg3.out⟩
      · have t2 : (a : Int) ≤ 29 := by omega
        have t3 : (29 : Int) < (d : Int) := by omega
        clear hb2
        go_wp2
        refine bodyPost_ret (v := .tuple #[.slice none 0 0, .slice none 0 0, .bool false]) (by simp [results, Tryd.results16, go_sem]) rfl ⟨.inr ⟨hno.out, rfl, _, h14, Hr3.out⟩, Hg3.out⟩
    · have ha29 : a ≤ 29 := by omega
      have hd29 : d ≤ 29 := by omega
      clear hbig
      have hsz3 := Hg3.out.size
      have t2 : (a : Int) ≤ 29 := by omega
      have t3 : (d : Int) ≤ 29 := by omega
      have hsl := fun W => ord_slice W .u64 ((M : Int) + 4) (M + 4) (by omega) (by omega)
      go_wp2_with (at_make; refine wpList_mk1 (base := w3.heap.size) (n := 19) _ rfl _ _ rfl elIntN rfl rfl rfl rfl (by omega) (Nat.le_refl _) ?_; intro w4 hown4 hb4 hsz4)
      have Hown4 := Lib.hid hown4
      have Hr4 := Lib.hid (Hr3.out.keep hb4)
      have Hg4 := Lib.hid (grown_below Hg3.out hb4)
      clear hown4 hb4
      go_loopw [49] (fun i wr => ∃ k : Nat, k ≤ M + 4 ∧ i = .int .i64 k ∧ p + 14 + 3 * k ≤ 8 * len ∧ Hid (wr.ownsRow w3.heap.size 3 1 (.slice (some ⟨w3.heap.size, 0, none⟩) 19 19) 19 (ints .i64 (lensS bs (p + 14) k))) ∧ Hid (RdrAt wr r A len cap (p + 14 + 3 * k)) ∧ Hid (w.grownBy wr (some r))) (fun i _ => M + 4 - (intOf i).toNat)
      case atStart => exact ⟨0, by omega, rfl, by omega, Hown4.out, Hr4.out, Hg4.out⟩
      case round =>
        obtain ⟨k, hk, rfl, hkT, Hown, Hr, Hg⟩ := hrel
        obtain ⟨wr, hwr⟩ : ∃ W, W = wr := ⟨_, rfl⟩
        subst hwr
        by_cases hlt : k < M + 4
        · have z := HO.out.grown Hg.out hor k (by omega)
          have hol := ordL_lt k
          have hnx : lensS bs (p + 14) (k + 1) = (lensS bs (p + 14) k).set (ordL.getD k 0) (numAt bs (p + 14 + 3 * k) 3 : Nat) := rfl
          have hll := lensS_length bs (p + 14) k
          obtain ⟨oi, hoi⟩ : ∃ oi, oi = ordL.getD k 0 := ⟨_, rfl⟩
          rw [← hoi] at hol hnx z
          have Hnx := Lib.hid hnx
          have Hll := Lib.hid hll
          clear hnx hoi hll
          have i1 : (k : Int) < (M : Int) + 4 := by omega
          have i6 : (oi : Int) < 19 := by omega
          go_wp2_with fail
          refine (Bits_any r A len cap (p + 14 + 3 * k) 3 bs _ Hr.out (HB.out.grown Hg.out hne) Hb.out hne hlen hkT (by omega)).mono ?_
          rintro e w5 ⟨hx5, hg5⟩
          have Hg5 := Lib.hid (grown_trans Hg.out hg5)
          have Hown5 := Lib.hid (Hown.out.kept hg5 (.inr (own_ne Hr.out (by decide) Hown.out)))
          clear hg5
          rcases hx5 with ⟨h1, rfl, h2⟩ | ⟨h1, rfl, h2⟩
          · have Hr5 := Lib.hid h2
            have hgr := own_ne Hr5.out (by decide) Hown5.out
            have hgr : w3.heap.size ≠ r := fun e => hgr (by rw [← e]; rfl)
            have z0 := Hown5.out.cellAt oi (by omega)
            rw [ints_get (by rw [Hll.out]; exact hol)] at z0
            have f0 := Hown5.out.frozenAt oi
            have hx8 := numAt_lt bs (p + 14 + 3 * k) 3
            obtain ⟨X, hX⟩ : ∃ X, numAt bs (p + 14 + 3 * k) 3 = X := ⟨_, rfl⟩
            rw [hX] at hx8 ⊢
            rw [hX] at Hnx
            replace hx8 : X ≤ 7 := by omega
            clear h2 hX
            go_wp2
            go_roundw
            case rel =>
              have hfr : Fr w5 (w5.setCell ⟨w3.heap.size, oi, none⟩ (.int .i64 X)) [some w3.heap.size] := (Fr.refl _ _).set _ _ (.inl (by simp))
              refine ⟨k + 1, by omega, by go_num, by omega, ?_, Hr5.out.fr hfr (fun o ho e => by simp at ho; subst ho; cases e; exact hgr rfl), grown_fr Hg5.out hfr (fun o ho j e => by simp at ho; subst ho; cases e; exact hsz3)⟩
              have h9 := own_store Hown5.out oi (.int .i64 X)
              rw [← ints_set, ← Hnx.out] at h9
              exact h9
            case measure => simp [intOf]; omega
          · have hno := Lib.hid (getS_few (bs := bs) (T := 8 * len) (p := p) (by rw [HM.out]; omega))
            have Hr5 := Lib.hid h2
            clear h2
            go_wp2
            refine bodyPost_ret (v := .tuple #[.slice none 0 0, .slice none 0 0, .bool false]) (by simp [results, Tryd.results16, go_sem]) rfl ⟨.inr ⟨hno.out, rfl, _, hkT, Hr5.out⟩, Hg5.out⟩
        · obtain rfl : k = M + 4 := by omega
          have hxl := Lib.hid (lensS_length bs (p + 14) (M + 4))
          obtain ⟨xs, hxs⟩ : ∃ xs, xs = lensS bs (p + 14) (M + 4) := ⟨_, rfl⟩
          rw [← hxs] at Hown hxl
          have Hxs := Lib.hid hxs
          obtain ⟨_, _, e9, _, hrx⟩ := own_rd Hown.out
          cases e9
          have HRx := Lib.hid hrx
          clear hxs hrx
          go_wp2_with fail
          refine (New_calls _ 19 19 xs _ HRx.out (by omega)).mono ?_
          rintro e w6 ⟨hx6, hb6⟩
          have Hg6 := Lib.hid (grown_below Hg.out hb6)
          have Hr6 := Lib.hid (Hr.out.keep hb6)
          have hsr := Hr.out.lt
          clear hb6
          rcases hx6 with ⟨hr, rfl⟩ | ⟨hr, h, rfl, hcod⟩
          · have hno := Lib.hid (getS_bad (bs := bs) (T := 8 * len) (p := p) (by rw [HM.out, ← Hxs.out]; exact hr))
            clear hr
            go_wp2
            refine bodyPost_ret (v := .tuple #[.slice none 0 0, .slice none 0 0, .bool false]) (by simp [results, Tryd.results16, go_sem]) rfl ⟨.inr ⟨hno.out, rfl, _, hkT, Hr6.out⟩, Hg6.out⟩
          · have hgl := getS_list (bs := bs) (T := 8 * len) (p := p) (by omega) Ha.out Hd.out HM.out ha29 hd29 (by rw [← Hxs.out]; exact hr)
            rw [← Hxs.out] at hgl
            have hhr : h ≠ r := by obtain ⟨_, _, _, h2, _⟩ := hcod; omega
            have HC := Lib.hid hcod
            obtain ⟨n, hn⟩ : ∃ n, n = a + 257 + (d + 1) := ⟨_, rfl⟩
            obtain ⟨q0, hq0⟩ : ∃ q0, q0 = p + 14 + 3 * (M + 4) := ⟨_, rfl⟩
            rw [← hn, ← hq0] at hgl
            rw [← hq0] at Hr6
            have h258 : 258 ≤ n := by omega
            have hn1000 : n ≤ 1000 := by omega
            have e2 : n - (a + 257) = d + 1 := by omega
            have hq0T : q0 ≤ 8 * len := by omega
            have Hgl := Lib.hid hgl
            have sn : (a : Int) + 257 + (d : Int) + 1 = ((n : Nat) : Int) := by omega
            clear hr hcod hgl
            clear hn hq0
            go_wp2_with fail
            try rw [sn]
            refine (list_calls h r wr.heap.size A len cap q0 n xs bs _ HC.out (by rw [hxl.out]; omega) Hr6.out (HB.out.grown Hg6.out hne) Hb.out hne hlen (by omega) hhr (by omega)).mono ?_
            rintro e w7 ⟨hx7, hg7⟩
            have Hg7 := Lib.hid (grown_trans Hg6.out hg7)
            clear hg7
            rcases hx7 with ⟨l, q, v, hl, rfl, hown7, hr7⟩ | ⟨hl, rfl, q, hq, hr7⟩
            · have hln := (listS_len (out := []) (by simp) (by omega) hl)
              have hgo := Hgl.out
              rw [hl] at hgo
              obtain ⟨go, co, rfl, _, _, hco, hoc, _⟩ := own_form hown7 (by omega)
              have z := hoc 256 _ (ints_get (by omega))
              obtain ⟨_, _, e8, _, hro⟩ := own_rd hown7
              cases e8
              have Hro := Lib.hid hro
              have Hr7 := Lib.hid hr7
              have Hgo := Lib.hid hgo
              obtain ⟨hl1, hl2⟩ := hln
              obtain ⟨y, hy⟩ : ∃ y, rd l 256 = y := ⟨_, rfl⟩
              rw [hy] at z
              have Hy := Lib.hid hy
              clear hoc hro hy hown7 hr7 hgo
              by_cases hy0 : y = 0
              · have hno2 : getS bs (8 * len) p = none := by rw [Hgo.out]; simp [Hy.out, hy0]
                have Hno := Lib.hid hno2
                subst hy0
                clear hno2
                go_wp2
                refine bodyPost_ret (v := .tuple #[.slice none 0 0, .slice none 0 0, .bool false]) (by simp [results, Tryd.results16, go_sem]) rfl ⟨.inr ⟨Hno.out, rfl, _, hl2, Hr7.out⟩, Hg7.out⟩
              · have hyes : getS bs (8 * len) p = some (l.take (a + 257), l.drop (a + 257), q) := by rw [Hgo.out]; simp [Hy.out, hy0]
                have Hyes := Lib.hid hyes
                have d0 : (y == 0) = false := by simpa using hy0
                have s1 : ((a : Int) + 257).toNat = a + 257 := by omega
                have f1 := rd_front Hro.out (a + 257) (by omega)
                have f2 := rd_back Hro.out (a + 257) (by omega)
                have l1 : (l.take (a + 257)).length = a + 257 := by rw [List.length_take]; omega
                rw [e2] at f2
                have l2 : (l.drop (a + 257)).length = d + 1 := by rw [List.length_drop, hl1, e2]
                have F1 := Lib.hid f1
                have F2 := Lib.hid f2
                have L1 := Lib.hid l1
                have L2 := Lib.hid l2
                clear hyes f1 f2 l1 l2
                go_wp2
                go_region
                go_wp2
                refine bodyPost_ret (v := .tuple #[.slice (some ⟨go, 0, none⟩) (a + 257) (a + 257), .slice (some ⟨go, 0 + (a + 257), none⟩) (d + 1) (co - (a + 257)), .bool true]) (by simp [results, Tryd.results16, go_sem]) rfl ⟨.inl ⟨_, _, q, _, _, _, _, Hyes.out, by rw [L1.out, L2.out], ?_, ?_, ?_⟩, grown_below Hg7.out (Below.refl _ _).drew⟩
                · rw [L1.out]; exact F1.out.drew
                · rw [L2.out]; exact F2.out.drew
                · exact Hr7.out.keep (Below.refl _ _).drew
            · have hno2 : getS bs (8 * len) p = none := by rw [Hgl.out, hl]
              have Hno := Lib.hid hno2
              have Hr7 := Lib.hid hr7
              clear hno2 hr7
              go_wp2
              refine bodyPost_ret (v := .tuple #[.slice none 0 0, .slice none 0 0, .bool false]) (by simp [results, Tryd.results16, go_sem]) rfl ⟨.inr ⟨Hno.out, rfl, _, hq, Hr7.out⟩, Hg7.out⟩
end Go.Proofs.YtkjoncllnlmdgaaDoor
/-
  Plain facts: what an item tells.
-/
namespace Go.Proofs.YtkjoncllnlmdgaaDoor
theorem takeWhile_all {xs : List Int} {p : Int → Bool} {j : Nat} (h : j < (xs.takeWhile p).length) : p (rd xs j) = true := by
  induction xs generalizing j with
  | nil => simp at h
  | cons x xs ih =>
    by_cases hx : p x = true
    · simp only [List.takeWhile, hx, List.length_cons] at h
      cases j with
      | zero => simpa [rd] using hx
      | succ j => simpa [rd] using ih (by omega)
    · have hx' : p x = false := by simpa using hx
      simp [List.takeWhile, hx'] at h
theorem runLen_all {xs : List Int} {k j : Nat} (h : j < runLen xs k) : rd xs (k + j) = rd xs k := by
  have := takeWhile_all (xs := xs.drop k) (p := fun x => x == rd xs k) h
  rw [rd_drop] at this
  simpa using this
/-- What stands at a place: one of four. -/
theorem itemAt_kind (xs : List Int) (k : Nat) :
    (∃ e : Nat, itemAt xs k = (⟨18, 7, e⟩, 11 + e) ∧ e ≤ 127 ∧ rd xs k = 0) ∨
    (∃ e : Nat, itemAt xs k = (⟨17, 3, e⟩, 3 + e) ∧ e ≤ 7 ∧ rd xs k = 0) ∨
    (∃ e : Nat, itemAt xs k = (⟨16, 2, e⟩, 3 + e) ∧ e ≤ 3 ∧ 0 < k ∧ rd xs (k - 1) = rd xs k) ∨
    itemAt xs k = (⟨rd xs k, 0, 0⟩, 1) := by
  by_cases h0 : rd xs k = 0
  · by_cases h1 : 11 ≤ runLen xs k
    · refine .inl ⟨min (runLen xs k) 138 - 11, ?_, by omega, h0⟩
      rw [itemAt_18 h0 h1]
      simp only [Prod.mk.injEq, Item.mk.injEq, true_and]
      omega
    · by_cases h2 : 3 ≤ runLen xs k
      · refine .inr (.inl ⟨runLen xs k - 3, ?_, by omega, h0⟩)
        rw [itemAt_17 h0 h2 (by omega)]
        simp only [Prod.mk.injEq, Item.mk.injEq, true_and]
        omega
      · exact .inr (.inr (.inr (itemAt_one (.inl ⟨h0, by omega⟩))))
  · by_cases h : 0 < k ∧ rd xs (k - 1) = rd xs k ∧ 3 ≤ runLen xs k
    · obtain ⟨h1, h2, h3⟩ := h
      refine .inr (.inr (.inl ⟨min (runLen xs k) 6 - 3, ?_, by omega, h1, h2⟩))
      rw [itemAt_16 h0 h1 h2 h3]
      simp only [Prod.mk.injEq, Item.mk.injEq, true_and]
      omega
    · refine .inr (.inr (.inr (itemAt_one (.inr ⟨h0, ?_⟩))))
      by_cases h1 : k = 0
      · exact .inl h1
      · by_cases h2 : rd xs (k - 1) = rd xs k
        · exact .inr (.inr (by omega))
        · exact .inr (.inl h2)
/-- All that an item covers is alike. -/
theorem itemAt_alike (xs : List Int) (k : Nat) (hk : k < xs.length) : ∀ j, j < (itemAt xs k).2 → rd xs (k + j) = rd xs k := by
  have hp := runLen_pos hk
  intro j hj
  have : (itemAt xs k).2 ≤ runLen xs k := by
    unfold itemAt
    split <;> (try split) <;> (try split) <;> simp <;> omega
  exact runLen_all (by omega)
theorem take_next (xs : List Int) (k j : Nat) (v : Int) (h : k + j < xs.length) (hv : rd xs (k + j) = v) : xs.take (k + j + 1) = xs.take (k + j) ++ [v] := by
  rw [List.take_succ_eq_append_getElem h, ← rd_getElem h, hv]
theorem rd_takeQ (xs : List Int) (k j : Nat) (h : j < k) : rd (xs.take k) j = rd xs j := by simp [rd, List.getD_eq_getElem?_getD, h]
end Go.Proofs.YtkjoncllnlmdgaaDoor
/-
  What was put is told again: the bits of two codes' lengths tell the lengths (no program).
-/
namespace Go.Proofs.YtkjoncllnlmdgaaDoor
open Go.RowKit

/-- These bits stand at the place. -/
def BitsAt (bs : List Int) (p : Nat) (l : List Int) : Prop := ∀ i, i < l.length → ((bitAt bs (p + i) : Nat) : Int) = rd l i
theorem BitsAt.left {bs : List Int} {p : Nat} {a b : List Int} (h : BitsAt bs p (a ++ b)) : BitsAt bs p a := fun i hi => by
  rw [h i (by rw [List.length_append]; omega), rd_appL hi]
theorem BitsAt.right {bs : List Int} {p : Nat} {a b : List Int} (h : BitsAt bs p (a ++ b)) : BitsAt bs (p + a.length) b := fun i hi => by
  rw [Nat.add_assoc, h (a.length + i) (by rw [List.length_append]; omega), rd_appR]
theorem bitsAt_pack {L : List Int} (h : Bit01 L) : BitsAt (packB L) 0 L := fun i hi => by
  rw [Nat.zero_add, bitAt_packB h (by omega)]
  have := h.rd i
  omega
theorem pk_low (x n : Nat) : pk (fun i => x / 2 ^ i % 2) n = x % 2 ^ n := by
  induction n with
  | zero => simp [pk, Nat.mod_one]
  | succ n ih =>
    show pk _ n + (x / 2 ^ n % 2) * 2 ^ n = _
    rw [ih, Nat.mod_pow_succ, Nat.mul_comm]
theorem num_low {bs : List Int} {p x n : Nat} (h : BitsAt bs p (lowOf x n)) (hx : x < 2 ^ n) : numAt bs p n = x := by
  rw [numAt_pk, pk_congr (g := fun i => x / 2 ^ i % 2) (fun i hi => ?_), pk_low, Nat.mod_eq_of_lt hx]
  have h1 := h i (by rw [lowOf_length]; exact hi)
  rw [rd_lowOf hi] at h1
  omega
theorem rd_hiOf {x n i : Nat} (h : i < n) : rd (hiOf x n) i = ((x / 2 ^ (n - 1 - i) % 2 : Nat) : Int) := by
  rw [rd_getElem (by rw [hiOf_length]; exact h)]
  unfold hiOf
  rw [List.getElem_reverse, ← rd_getElem, rd_lowOf (by rw [lowOf_length]; omega), lowOf_length]
theorem code_hi {bs : List Int} {p x n : Nat} (h : BitsAt bs p (hiOf x n)) (hx : x < 2 ^ n) : ∀ k, k ≤ n → codeTo bs p k = x / 2 ^ (n - k) := by
  intro k
  induction k with
  | zero =>
    intro _
    rw [Nat.sub_zero, Nat.div_eq_of_lt hx]
    rfl
  | succ k ih =>
    intro hk
    have h1 := h k (by rw [hiOf_length]; omega)
    rw [rd_hiOf (by omega)] at h1
    show 2 * codeTo bs p k + bitAt bs (p + k) = _
    have e : n - k = n - (k + 1) + 1 := by omega
    rw [ih (by omega), e, Nat.pow_succ, ← Nat.div_div_eq_div_mul]
    rw [show n - 1 - k = n - (k + 1) from by omega] at h1
    omega
theorem first_left (c : List Int) (h0 : rd c 0 = 0) (k : Nat) : firstAt c k + rd c k + leftAt c k = 2 ^ k := by
  induction k with
  | zero =>
    show 0 + rd c 0 + 1 = 1
    omega
  | succ k ih =>
    have e1 : firstAt c (k + 1) = 2 * (firstAt c k + rd c k) := rfl
    have e2 : leftAt c (k + 1) = 2 * leftAt c k - rd c (k + 1) := rfl
    rw [e1, e2, Int.pow_succ]
    omega
theorem left_nn {xs : List Int} (h : rightB xs = true) (k : Nat) (hk : k ≤ 15) : 0 ≤ leftAt (cntOf xs) k := by
  unfold rightB rightOf at h
  simp only [Bool.and_eq_true] at h
  obtain ⟨_, h2, _⟩ := h
  cases k with
  | zero => show (0 : Int) ≤ 1; omega
  | succ k =>
    unfold leftOk at h2
    have := List.all_eq_true.1 h2 k (List.mem_range.2 (by omega))
    simpa using this
theorem code_lt {xs : List Int} (h : rightB xs = true) {s : Nat} (hs : s < xs.length) (h0 : 0 < rd xs s) (h15 : rd xs s ≤ 15) : 0 ≤ codeAt xs s ∧ (codeAt xs s).toNat < 2 ^ (rd xs s).toNat := by
  have h1 := first_left (cntOf xs) (rd_cntOf_zero xs) (rd xs s).toNat
  have h2 := left_nn h (rd xs s).toNat (by omega)
  have h3 := rd_cntOf_pos xs (rd xs s).toNat (by omega) (by omega)
  rw [Int.toNat_of_nonneg (by omega)] at h3
  have h4 := before_lt xs (rd xs s) hs hs rfl
  have h5 := firstAt_le (cntOf xs) xs.length (by omega) (rd_cntOf xs) (rd xs s).toNat (by omega)
  have hc : codeAt xs s = firstAt (cntOf xs) (rd xs s).toNat + (before xs (rd xs s) s : Nat) := by
    unfold codeAt nextCode
    rw [if_pos ⟨h0, h15⟩, Int.toNat_of_nonneg (by omega)]
  have e : ((2 ^ (rd xs s).toNat : Nat) : Int) = (2 : Int) ^ (rd xs s).toNat := by simp
  rw [hc]
  omega
theorem hit_put {xs bs : List Int} {p m s : Nat} (h : rightB xs = true) (hs : s < xs.length) (h0 : 0 < rd xs s) (h15 : rd xs s ≤ 15) (hm : (rd xs s).toNat ≤ m) (hb : BitsAt bs p (hiOf (codeAt xs s).toNat (rd xs s).toNat)) : Hit xs bs p m s := by
  obtain ⟨c0, c1⟩ := code_lt h hs h0 h15
  refine ⟨hs, h0, h15, hm, ?_⟩
  rw [code_hi hb c1 _ (Nat.le_refl _), Nat.sub_self, Nat.pow_zero, Nat.div_one, Int.toNat_of_nonneg c0]
theorem ord_inj : ∀ i, i < 19 → ∀ j, j < 19 → ordL.getD i 0 = ordL.getD j 0 → i = j := by decide
theorem ord_all : ∀ s, s < 19 → ∃ i, i < 19 ∧ ordL.getD i 0 = s := by decide
theorem lensS_at (bs : List Int) (p : Nat) : ∀ k, k ≤ 19 → ∀ i, i < 19 → rd (lensS bs p k) (ordL.getD i 0) = if i < k then ((numAt bs (p + 3 * i) 3 : Nat) : Int) else 0 := by
  intro k
  induction k with
  | zero =>
    intro _ i _
    rw [if_neg (by omega)]
    exact rd_zeros 19 _
  | succ k ih =>
    intro hk i hi
    show rd ((lensS bs p k).set (ordL.getD k 0) _) _ = _
    rw [rd_set (by rw [lensS_length]; exact ordL_lt k)]
    by_cases e : ordL.getD k 0 = ordL.getD i 0
    · have := ord_inj k (by omega) i hi e
      subst this
      rw [if_pos rfl, if_pos (by omega)]
    · rw [if_neg e, ih (by omega) i hi]
      by_cases g : i < k
      · rw [if_pos g, if_pos (by omega)]
      · have : i ≠ k := fun e2 => e (by rw [e2])
        rw [if_neg g, if_neg (by omega)]
theorem lensS_put {bs ls : List Int} {p many : Nat} (hl : ls.length = 19) (hm : many ≤ 19) (hr : ∀ j, 0 ≤ rd ls j ∧ rd ls j ≤ 7) (hb : BitsAt bs p (lows (ordV ls) 3 many)) (h0 : ∀ i, many ≤ i → i < 19 → rd ls (ordL.getD i 0) = 0) : lensS bs p many = ls := by
  apply ext_rd (by rw [lensS_length, hl])
  intro j hj
  rw [lensS_length] at hj
  obtain ⟨i, hi, rfl⟩ := ord_all j hj
  rw [lensS_at bs p many hm i hi]
  split
  · rename_i hlt
    have hbi : BitsAt bs (p + 3 * i) (lowOf (rd (ordV ls) i).toNat 3) := by
      have key : ∀ d, i + 1 + d ≤ many → BitsAt bs p (lows (ordV ls) 3 (i + 1 + d)) → BitsAt bs (p + 3 * i) (lowOf (rd (ordV ls) i).toNat 3) := by
        intro d
        induction d with
        | zero =>
          intro _ h
          rw [Nat.add_zero, lows_succ] at h
          have h2 := h.right
          rwa [lows_length] at h2
        | succ d ih =>
          intro hd h
          rw [show i + 1 + (d + 1) = i + 1 + d + 1 from rfl, lows_succ] at h
          exact ih (by omega) h.left
      have e : i + 1 + (many - (i + 1)) = many := by omega
      exact key (many - (i + 1)) (by omega) (by rw [e]; exact hb)
    have hv := hr (ordL.getD i 0)
    rw [rd_ordV hi] at hbi
    rw [num_low hbi (by
      have : (2 : Nat) ^ 3 = 8 := by decide
      omega), Int.toNat_of_nonneg hv.1]
  · exact (h0 i (by omega) hi).symm
theorem tn_out (l : List Int) (least : Nat) : ∀ d i, tn l least d ≤ i → i < least + d → rd l i = 0 := by
  intro d
  induction d with
  | zero => intro i h1 h2; unfold tn at h1; omega
  | succ d ih =>
    intro i h1 h2
    unfold tn at h1
    split at h1
    · rename_i h0
      rcases Nat.lt_or_ge i (least + d) with g | g
      · exact ih i h1 g
      · rw [show i = least + d from by omega]; exact h0
    · omega
/-- A symbol that is met has a code. -/
theorem wtsIt_pos (its : List Item) (hs : ∀ k, k < its.length → itS its k ≤ 18) : ∀ k, k ≤ its.length → ∀ j, j < k → 0 < rd (wtsIt its k) (itS its j) := by
  intro k
  induction k with
  | zero => intro _ j hj; omega
  | succ k ih =>
    intro hk j hj
    have hw := wtsIt_le its hs k (itS its k) (by omega)
    have h18 := hs k (by omega)
    show 0 < rd ((wtsIt its k).set _ _) _
    rw [rd_set (by rw [wtsIt_length]; omega)]
    split
    · omega
    · rename_i hne
      rcases Nat.lt_or_ge j k with g | g
      · exact ih (by omega) j g
      · rw [show j = k from by omega] at hne
        exact absurd rfl hne
theorem lensIt_pos (its : List Item) (hs : ∀ k, k < its.length → itS its k ≤ 18) {j : Nat} (hj : j < its.length) : 0 < rd (lensIt its) (itS its j) := by
  have h18 := hs j hj
  obtain ⟨wt, e1, e2, e3, e4⟩ := lensOf_is (m := 7) (by omega) (fun x hx => (wtsIt_nn its hs its.length (Nat.le_refl _) x hx).1) (lensIt_few its)
  unfold lensIt
  rw [e1]
  have h1 := onceM_pos wt (itS its j) (by rw [e2, wtsIt_length]; omega)
  exact h1.2.2 ((e3 _).2 (wtsIt_pos its hs its.length (Nat.le_refl _) j hj))
theorem lensIt_right (its : List Item) (hs : ∀ k, k < its.length → itS its k ≤ 18) (h0 : 0 < its.length) : rightB (lensIt its) = true := by
  obtain ⟨wt, e1, e2, e3, e4⟩ := lensOf_is (m := 7) (by omega) (fun x hx => (wtsIt_nn its hs its.length (Nat.le_refl _) x hx).1) (lensIt_few its)
  unfold lensIt
  rw [e1]
  refine rightB_once wt ?_ (fun x hx => ?_)
  · have hp := wtsIt_pos its hs its.length (Nat.le_refl _) 0 h0
    have h18 := hs 0 h0
    have hm : itS its 0 ∈ posTo wt wt.length := mem_posTo.2 ⟨by rw [e2, wtsIt_length]; omega, (e3 _).2 hp⟩
    exact List.length_pos_of_mem hm
  · have := e4 x hx
    omega
end Go.Proofs.YtkjoncllnlmdgaaDoor
/-
  What was put is told again, part two: items, and all of it (no program).
-/
namespace Go.Proofs.YtkjoncllnlmdgaaDoor
open Go.RowKit

theorem bitsIt_front {bs ls : List Int} {its : List Item} {p : Nat} {k : Nat} : ∀ d, BitsAt bs p (bitsIt ls its (k + d)) → BitsAt bs p (bitsIt ls its k) := by
  intro d
  induction d with
  | zero => exact id
  | succ d ih =>
    intro h
    rw [show k + (d + 1) = k + d + 1 from rfl, bitsIt_succ, List.append_assoc] at h
    exact ih h.left
theorem bitsIt_mono {ls : List Int} {its : List Item} {k : Nat} (d : Nat) : (bitsIt ls its k).length ≤ (bitsIt ls its (k + d)).length := by
  induction d with
  | zero => exact Nat.le_refl _
  | succ d ih =>
    rw [show k + (d + 1) = k + d + 1 from rfl, bitsIt_succ, List.length_append, List.length_append]
    omega
theorem take_rep {A : List Int} {i : Nat} {v : Int} : ∀ st, i + st ≤ A.length → (∀ j, j < st → rd A (i + j) = v) → A.take (i + st) = A.take i ++ List.replicate st v := by
  intro st
  induction st with
  | zero => intro _ _; simp
  | succ st ih =>
    intro h hv
    rw [show i + (st + 1) = i + st + 1 from rfl, take_next A i st v (by omega) (hv st (by omega)), ih (by omega) (fun j hj => hv j (by omega)), List.replicate_succ', List.append_assoc]
structure PutBits (A bs : List Int) (T base : Nat) : Prop where
  rng : ∀ j, j < A.length → 0 ≤ rd A j ∧ rd A j ≤ 15
  bits : BitsAt bs base (bitsIt (lensIt (items A)) (items A) (items A).length)
  room : base + (bitsIt (lensIt (items A)) (items A) (items A).length).length ≤ T
theorem listS_items {A bs : List Int} {T base : Nat} (H : PutBits A bs T base) : ∀ (f i k : Nat) (pre : List Item), items A = pre ++ itemsFrom A A.length i → k = pre.length → i ≤ A.length → A.length - i < f →
    listS (lensIt (items A)) bs T A.length f (base + (bitsIt (lensIt (items A)) (items A) k).length) (A.take i) = some (A, base + (bitsIt (lensIt (items A)) (items A) (items A).length).length) := by
  have hok : ∀ it ∈ items A, ItemOk it := items_ok H.rng
  have hs18 : ∀ k, k < (items A).length → itS (items A) k ≤ 18 := fun k hk => (it_at hok hk).2.1
  have hll := lensIt_length (items A)
  intro f
  induction f with
  | zero => intro i k pre _ _ _ h; omega
  | succ f ih =>
    intro i k pre hpre hk hi hf
    have hlen : (A.take i).length = i := by rw [List.length_take]; omega
    rcases Nat.lt_or_ge i A.length with hlt | hge
    · have hst := itemAt_step A i hlt
      have halike := itemAt_alike A i hlt
      have hstep := itemsFrom_step A i hlt
      obtain ⟨it, st, hit⟩ : ∃ it st, itemAt A i = (it, st) := ⟨_, _, rfl⟩
      rw [hit] at hst halike hstep
      simp only at hst halike hstep
      have hpre2 : items A = (pre ++ [it]) ++ itemsFrom A A.length (i + st) := by rw [hpre, hstep]; simp
      have hkl : k < (items A).length := by rw [hpre, hstep, List.length_append, List.length_cons, hk]; omega
      have hke : (items A)[k] = it := by
        have h9 : (items A)[k]? = some it := by
          rw [hpre, hstep, hk, List.getElem?_append_right (Nat.le_refl _), Nat.sub_self]
          rfl
        rw [List.getElem?_eq_getElem hkl] at h9
        exact Option.some.inj h9
      obtain ⟨hie, h18, h7, h127⟩ := it_at hok hkl
      rw [hke] at hie
      have hpos := lensIt_pos (items A) hs18 hkl
      have hrng := lensIt_rng (items A) hs18 (itS (items A) k)
      have hright := lensIt_right (items A) hs18 (by omega)
      have hsucc := bitsIt_succ (lensIt (items A)) (items A) k
      have hbk : BitsAt bs base (bitsIt (lensIt (items A)) (items A) (k + 1)) := bitsIt_front ((items A).length - (k + 1)) (by rw [show k + 1 + ((items A).length - (k + 1)) = (items A).length from by omega]; exact H.bits)
      have hmono := bitsIt_mono (ls := lensIt (items A)) (its := items A) (k := k + 1) ((items A).length - (k + 1))
      rw [show k + 1 + ((items A).length - (k + 1)) = (items A).length from by omega] at hmono
      have hroom := H.room
      obtain ⟨S, hS⟩ : ∃ S, S = itS (items A) k := ⟨_, rfl⟩
      obtain ⟨B, hB⟩ : ∃ B, B = itB (items A) k := ⟨_, rfl⟩
      obtain ⟨E, hE⟩ : ∃ E, E = itE (items A) k := ⟨_, rfl⟩
      rw [← hS, ← hB, ← hE] at hie hsucc
      rw [← hS] at h18 hpos hrng
      rw [← hB] at h7
      rw [← hE] at h127
      have hcode : rd (codesOf (lensIt (items A))) S = codeAt (lensIt (items A)) S := rd_codesOf _ S (by omega)
      rw [hcode] at hsucc
      obtain ⟨q, hq⟩ : ∃ q, q = base + (bitsIt (lensIt (items A)) (items A) k).length := ⟨_, rfl⟩
      obtain ⟨Ln, hLn⟩ : ∃ Ln, Ln = (rd (lensIt (items A)) S).toNat := ⟨_, rfl⟩
      have hq2 : base + (bitsIt (lensIt (items A)) (items A) (k + 1)).length = q + Ln + B := by
        rw [hsucc, List.length_append, List.length_append, hiOf_length, lowOf_length, ← hLn, hq]
        omega
      rw [hsucc] at hbk
      have hb1 := hbk.left.right
      have hb2 := hbk.right
      rw [← hLn] at hb1 hb2
      rw [List.length_append, hiOf_length, ← Nat.add_assoc, ← hq] at hb2
      rw [← hq] at hb1
      have hhit : Hit (lensIt (items A)) bs q (T - q) S := hit_put hright (by omega) hpos (by omega) (by omega) (by rw [← hLn]; exact hb1)
      have hn0 : ¬ A.length ≤ (A.take i).length := by omega
      rw [← hq]
      have next := ih (i + st) (k + 1) (pre ++ [it]) hpre2 (by rw [List.length_append, hk]; rfl) (by omega) (by omega)
      rw [hq2] at next
      have many : ∀ least size : Nat, 16 ≤ S → st = least + E → B = size → leastS S = least → sizeS S = size → E < 2 ^ size → (S = 16 → 0 < i) → (∀ j, j < st → rd A (i + j) = valueS (A.take i) S) → listS (lensIt (items A)) bs T A.length (f + 1) q (A.take i) = some (A, base + (bitsIt (lensIt (items A)) (items A) (items A).length).length) := by
        intro least size h16 hst2 hBs hls hss hE2 h16i hval
        have hnum : numAt bs (q + Ln) size = E := by
          rw [hBs] at hb2
          exact num_low hb2 hE2
        have hmany : manyS bs (q + Ln) S = st := by
          unfold manyS
          rw [hls, hss, hnum, hst2]
        have hmo := listS_more (f := f) hn0 hhit (by omega) (fun h => by have := h16i h.1; have := h.2; omega) (by rw [← hLn, hss]; omega) (by rw [← hLn, hmany, hlen]; omega)
        rw [← hLn, hss, hmany, ← take_rep st (by omega) hval, ← hBs] at hmo
        rw [hmo]
        exact next
      rcases itemAt_kind A i with ⟨e, h1, h2, h3⟩ | ⟨e, h1, h2, h3⟩ | ⟨e, h1, h2, h3, h4⟩ | h1
      · rw [hit] at h1
        simp only [Prod.mk.injEq] at h1
        obtain ⟨hi1, hi2⟩ := h1
        rw [hi1] at hie
        simp only [Item.mk.injEq] at hie
        obtain ⟨a1, a2, a3⟩ := hie
        have eS : S = 18 := by omega
        have eB : B = 7 := by omega
        have eE : E = e := by omega
        exact many 11 7 (by omega) (by omega) eB (by rw [eS]; rfl) (by rw [eS]; rfl) (by
          have : (2 : Nat) ^ 7 = 128 := by decide
          omega) (fun h => by omega) (fun j hj => by
          rw [halike j hj, h3, eS]
          rfl)
      · rw [hit] at h1
        simp only [Prod.mk.injEq] at h1
        obtain ⟨hi1, hi2⟩ := h1
        rw [hi1] at hie
        simp only [Item.mk.injEq] at hie
        obtain ⟨a1, a2, a3⟩ := hie
        have eS : S = 17 := by omega
        have eB : B = 3 := by omega
        have eE : E = e := by omega
        exact many 3 3 (by omega) (by omega) eB (by rw [eS]; rfl) (by rw [eS]; rfl) (by
          have : (2 : Nat) ^ 3 = 8 := by decide
          omega) (fun h => by omega) (fun j hj => by
          rw [halike j hj, h3, eS]
          rfl)
      · rw [hit] at h1
        simp only [Prod.mk.injEq] at h1
        obtain ⟨hi1, hi2⟩ := h1
        rw [hi1] at hie
        simp only [Item.mk.injEq] at hie
        obtain ⟨a1, a2, a3⟩ := hie
        have eS : S = 16 := by omega
        have eB : B = 2 := by omega
        have eE : E = e := by omega
        exact many 3 2 (by omega) (by omega) eB (by rw [eS]; rfl) (by rw [eS]; rfl) (by
          have : (2 : Nat) ^ 2 = 4 := by decide
          omega) (fun _ => h3) (fun j hj => by
          rw [halike j hj, ← h4, eS]
          show _ = rd (A.take i) ((A.take i).length - 1)
          rw [hlen, rd_takeQ A i (i - 1) (by omega)])
      · rw [hit] at h1
        simp only [Prod.mk.injEq] at h1
        obtain ⟨hi1, hi2⟩ := h1
        rw [hi1] at hie
        simp only [Item.mk.injEq] at hie
        obtain ⟨a1, a2, a3⟩ := hie
        have hA := H.rng i hlt
        have eB : B = 0 := by omega
        have hlo := listS_low (f := f) hn0 hhit (by omega)
        rw [hlo, ← hLn]
        have ht : A.take (i + st) = A.take i ++ [(S : Int)] := by
          rw [hi2, ← a1]
          exact take_next A i 0 (rd A i) (by omega) (by rw [Nat.add_zero])
        rw [ht, eB, Nat.add_zero] at next
        exact next
    · obtain rfl : i = A.length := by omega
      have hkl : k = (items A).length := by rw [hpre, itemsFrom_end A A.length A.length (Nat.le_refl _), List.append_nil, hk]
      rw [hkl, listS_done (by omega) (by rw [hlen]; exact Nat.le_refl _), List.take_length]
end Go.Proofs.YtkjoncllnlmdgaaDoor
/-
  What was put is told again, part three: getS of putS (no program).
-/
namespace Go.Proofs.YtkjoncllnlmdgaaDoor
open Go.RowKit

theorem getS_is {bs : List Int} {T p a d m : Nat} (h1 : p + 14 + 3 * (m + 4) ≤ T) (ha : numAt bs p 5 = a) (hd : numAt bs (p + 5) 5 = d) (hm : numAt bs (p + 10) 4 = m) (h2 : a ≤ 29) (h3 : d ≤ 29) (h4 : rightB (lensS bs (p + 14) (m + 4)) = true) :
    getS bs T p = match listS (lensS bs (p + 14) (m + 4)) bs T (a + 257 + (d + 1)) (a + 257 + (d + 1) + 1) (p + 14 + 3 * (m + 4)) [] with
      | none => none
      | some (l, q) => if rd l 256 = 0 then none else some (l.take (a + 257), l.drop (a + 257), q) := by
  subst ha hd hm
  unfold getS
  rw [if_neg (by omega), if_neg (by omega), if_neg (by omega), if_neg (by rw [h4]; decide)]
  rfl
theorem getS_put {X Y bs : List Int} {T p : Nat} (hX : 257 ≤ X.length) (hX2 : X.length ≤ 286) (hY : 1 ≤ Y.length) (hY2 : Y.length ≤ 30) (hx15 : ∀ j, 0 ≤ rd X j ∧ rd X j ≤ 15) (hy15 : ∀ j, 0 ≤ rd Y j ∧ rd Y j ≤ 15) (hb : BitsAt bs p (putS X Y)) (hT : p + (putS X Y).length ≤ T) :
    getS bs T p = if rd X 256 = 0 then none else some (X.take (tn X 257 (X.length - 257)), Y.take (tn Y 1 (Y.length - 1)), p + (putS X Y).length) := by
  have ta := tn_rng X 257 (X.length - 257)
  have tb := tn_rng Y 1 (Y.length - 1)
  obtain ⟨a, ha⟩ : ∃ a, a = tn X 257 (X.length - 257) := ⟨_, rfl⟩
  obtain ⟨b, hbb⟩ : ∃ b, b = tn Y 1 (Y.length - 1) := ⟨_, rfl⟩
  obtain ⟨A, hA⟩ : ∃ A, A = X.take a ++ Y.take b := ⟨_, rfl⟩
  have hits : itsOf X Y = items A := by unfold itsOf; rw [← ha, ← hbb, hA]
  have hAl : A.length = a + b := by rw [hA, List.length_append, List.length_take, List.length_take]; omega
  have hrng : ∀ j, j < A.length → 0 ≤ rd A j ∧ rd A j ≤ 15 := fun j hj => by
    rw [hA]
    rcases Nat.lt_or_ge j a with g | g
    · rw [rd_appL (by rw [List.length_take]; omega), rd_takeQ X a j g]
      exact hx15 j
    · obtain ⟨i, rfl⟩ : ∃ i, j = (X.take a).length + i := ⟨j - (X.take a).length, by rw [List.length_take]; omega⟩
      rw [List.length_take] at hj
      rw [rd_appR, rd_takeQ Y b i (by omega)]
      exact hy15 i
  have hok : ∀ it ∈ items A, ItemOk it := items_ok hrng
  have hs18 : ∀ k, k < (items A).length → itS (items A) k ≤ 18 := fun k hk => (it_at hok hk).2.1
  have hpos : 0 < (items A).length := by
    have h1 := itemsFrom_step A 0 (by omega)
    have h2 : items A = itemsFrom A A.length 0 := rfl
    rw [h2, h1, List.length_cons]
    omega
  have hright := lensIt_right (items A) hs18 hpos
  have hlr := lensIt_rng (items A) hs18
  have hll := lensIt_length (items A)
  have tm := tn_rng (ordV (lensIt (items A))) 4 15
  obtain ⟨mv, hmv⟩ : ∃ mv, mv = tn (ordV (lensIt (items A))) 4 15 := ⟨_, rfl⟩
  have hput : putS X Y = lowOf (a - 257) 5 ++ (lowOf (b - 1) 5 ++ (lowOf (mv - 4) 4 ++ (lows (ordV (lensIt (items A))) 3 mv ++ bitsIt (lensIt (items A)) (items A) (items A).length))) := by
    unfold putS manyOf headS
    rw [hits, ← ha, ← hbb, ← hmv]
    simp only [List.append_assoc]
  rw [← ha] at ta
  rw [← hbb] at tb
  rw [← hmv] at tm
  rw [hput] at hb
  have b1 := hb.left
  have b2 := hb.right.left
  have b3 := hb.right.right.left
  have b4 := hb.right.right.right.left
  have b5 := hb.right.right.right.right
  rw [lowOf_length] at b2 b3 b4 b5
  rw [lowOf_length] at b3 b4 b5
  rw [lowOf_length] at b4 b5
  rw [lows_length] at b5
  have p5 : (2 : Nat) ^ 5 = 32 := by decide
  have p4 : (2 : Nat) ^ 4 = 16 := by decide
  have n1 := num_low b1 (by omega)
  have n2 := num_low b2 (by omega)
  have n3 := num_low (p := p + 10) (x := mv - 4) (n := 4) (by rw [show p + 10 = p + 5 + 5 from by omega]; exact b3) (by omega)
  have hlen : (putS X Y).length = 14 + 3 * mv + (bitsIt (lensIt (items A)) (items A) (items A).length).length := by
    rw [hput]
    simp only [List.length_append, lowOf_length, lows_length]
    omega
  have h0 : ∀ i, mv ≤ i → i < 19 → rd (lensIt (items A)) (ordL.getD i 0) = 0 := fun i h1 h2 => by
    rw [← rd_ordV h2]
    exact tn_out (ordV (lensIt (items A))) 4 15 i (by rw [← hmv]; exact h1) (by omega)
  have b4' : BitsAt bs (p + 14) (lows (ordV (lensIt (items A))) 3 mv) := by
    rw [show p + 14 = p + 5 + 5 + 4 from by omega]
    exact b4
  have hlens := lensS_put hll (by omega) hlr b4' h0
  have em : mv - 4 + 4 = mv := by omega
  have ea : a - 257 + 257 = a := by omega
  have eb : b - 1 + 1 = b := by omega
  have hget := getS_is (bs := bs) (T := T) (p := p) (a := a - 257) (d := b - 1) (m := mv - 4) (by omega) n1 n2 n3 (by omega) (by omega) (by rw [em, hlens]; exact hright)
  rw [em, ea, eb, hlens] at hget
  have hPB : PutBits A bs T (p + 14 + 3 * mv) := ⟨hrng, by rw [show p + 14 + 3 * mv = p + 5 + 5 + 4 + 3 * mv from by omega]; exact b5, by omega⟩
  have hlist := listS_items hPB (a + b + 1) 0 0 [] rfl rfl (by omega) (by omega)
  rw [show bitsIt (lensIt (items A)) (items A) 0 = [] from rfl, List.take_zero, List.length_nil, hAl] at hlist
  simp only [Nat.add_zero] at hlist
  rw [hget, hlist]
  have h256 : rd A 256 = rd X 256 := by
    rw [hA, rd_appL (by rw [List.length_take]; omega), rd_takeQ X a 256 (by omega)]
  have hta : A.take a = X.take a := by
    rw [hA, List.take_append_of_le_length (by rw [List.length_take]; omega), List.take_take, Nat.min_self]
  have htb : A.drop a = Y.take b := by
    rw [hA]
    have e : (X.take a).length = a := by rw [List.length_take]; omega
    exact List.drop_left' e
  simp only
  rw [h256, hta, htb, hlen, ← ha, ← hbb]
  have eq1 : p + 14 + 3 * mv + (bitsIt (lensIt (items A)) (items A) (items A).length).length = p + (14 + 3 * mv + (bitsIt (lensIt (items A)) (items A) (items A).length).length) := by omega
  rw [eq1]
end Go.Proofs.YtkjoncllnlmdgaaDoor
