/-
  Texts joined into one file: Get, Inf1, Inf2.
-/
import Derived.Test.YtkjoncllnlmdgaaDoorJInfH1
import Derived.Test.YtkjoncllnlmdgaaDoorJAw916
import Derived.Test.YtkjoncllnlmdgaaDoorJAw910
import Derived.Test.YtkjoncllnlmdgaaDoorJInfH2
import Derived.Test.YtkjoncllnlmdgaaDoorJAw97
import Derived.Test.YtkjoncllnlmdgaaDoorJAw915
/-
  The walk of Get (package codes).
-/
namespace Go.Proofs.YtkjoncllnlmdgaaDoor
open Go.RowKit



theorem OrdAt.grown {w w1 : World} {r : Nat} (h : OrdAt w) (hg : w.grownBy w1 (some r)) (hr : 0 ≠ r) : OrdAt w1 := fun j hj => hg.cell (h j hj) (by simpa using hr)
theorem OrdAt.below {w w1 : World} (h : OrdAt w) (hb : Below w.heap.size w w1) : OrdAt w1 := fun j hj => kept_cell hb (h j hj)
theorem Bits_any (r : Nat) (A : Option Addr) (len cap at' n : Nat) (bs : List Int) (w : World) (hR : RdrAt w r A len cap at') (hB : Rd w .u8 A len bs) (hb : ∀ j, j < len → 0 ≤ rd bs j ∧ rd bs j ≤ 255) (hne : ∀ b o, A = some ⟨b, o, none⟩ → b ≠ r) (hlen : len ≤ 1000000) (hat : at' ≤ 8 * len) (hn : n ≤ 60) :
    Calls Tryd.prog 39 #[.pointer (some ⟨r, 0, none⟩), .int .i64 n] w fun e w' => ((at' + n ≤ 8 * len ∧ e = .returned (.tuple #[(.int .u64 (numAt bs at' n : Nat)), .bool true]) ∧ RdrAt w' r A len cap (at' + n)) ∨ (8 * len < at' + n ∧ e = .returned (.tuple #[.int .u64 0, .bool false]) ∧ RdrAt w' r A len cap at')) ∧ w.grownBy w' (some r) := by
  rcases Nat.lt_or_ge (8 * len) (at' + n) with h | h
  · refine (BitsShort_calls r A len cap at' n w hR (by omega) hat hn h).mono ?_
    rintro e w1 ⟨rfl, hb1⟩
    exact ⟨.inr ⟨h, rfl, hR.keep hb1⟩, grown_below (grown_refl _ _) hb1⟩
  · refine (Bits_calls r A len cap at' n bs w hR hB hb hne (by omega) hat hn h).mono ?_
    rintro e w1 ⟨rfl, h1, h2⟩
    exact ⟨.inl ⟨h, rfl, h1⟩, h2⟩
set_option maxHeartbeats 4000000 in
set_option maxRecDepth 100000 in
theorem Get_calls (r : Nat) (A : Option Addr) (len cap p : Nat) (bs : List Int) (w : World) (hO : OrdAt w) (hor : 0 ≠ r) (hR : RdrAt w r A len cap p) (hB : Rd w .u8 A len bs) (hb : ∀ j, j < len → 0 ≤ rd bs j ∧ rd bs j ≤ 255) (hne : ∀ b o, A = some ⟨b, o, none⟩ → b ≠ r) (hlen : len ≤ 1000000) (hp : p ≤ 8 * len) :
    Calls Tryd.prog 16 #[.pointer (some ⟨r, 0, none⟩)] w fun e w' =>
      ((∃ l1 l2 q A1 c1 A2 c2, getS bs (8 * len) p = some (l1, l2, q) ∧ e = .returned (.tuple #[.slice A1 l1.length c1, .slice A2 l2.length c2, .bool true]) ∧ Rd w' .i64 A1 l1.length l1 ∧ Rd w' .i64 A2 l2.length l2 ∧ RdrAt w' r A len cap q) ∨
       (getS bs (8 * len) p = none ∧ e = .returned (.tuple #[.slice none 0 0, .slice none 0 0, .bool false]) ∧ ∃ q, q ≤ 8 * len ∧ RdrAt w' r A len cap q)) ∧ w.grownBy w' (some r) := by
  have HO := Lib.hid hO
  have HR := Lib.hid hR
  have HB := Lib.hid hB
  have Hb := Lib.hid hb
  clear hO hR hB hb
  go_enter Tryd.func16, Tryd.ntmps16
  go_wp2_with fail
  refine (Bits_any r A len cap p 5 bs _ HR.out HB.out Hb.out hne hlen hp (by omega)).mono ?_
  rintro e w1 ⟨hx1, hg1⟩
  have Hg1 := Lib.hid hg1
  have HB1 := Lib.hid (HB.out.grown hg1 hne)
  clear hg1
  rcases Nat.lt_or_ge (8 * len) (p + 14) with h14 | h14
  · have hno := Lib.hid (getS_short (bs := bs) (T := 8 * len) (p := p) h14)
    have key : ∃ (a : Nat) (ba : Bool) (q1 : Nat), a ≤ 31 ∧ e = .returned (.tuple #[.int .u64 a, .bool ba]) ∧ RdrAt w1 r A len cap q1 ∧ q1 ≤ 8 * len ∧ (8 * len < q1 + 5 ∨ (q1 = p + 5)) := by
      rcases hx1 with ⟨h1, rfl, h2⟩ | ⟨h1, rfl, h2⟩
      · exact ⟨_, _, _, by have := numAt_lt bs p 5; omega, rfl, h2, h1, .inr rfl⟩
      · exact ⟨0, _, _, by omega, rfl, h2, hp, .inl h1⟩
    obtain ⟨a, ba, q1, ha, rfl, hr1, hq1, hqq⟩ := key
    have Hr1 := Lib.hid hr1
    clear hx1 hr1
    go_wp2_with fail
    refine (Bits_any r A len cap q1 5 bs _ Hr1.out HB1.out Hb.out hne hlen hq1 (by omega)).mono ?_
    rintro e w2 ⟨hx2, hg2⟩
    have Hg2 := Lib.hid (grown_trans Hg1.out hg2)
    have HB2 := Lib.hid (HB1.out.grown hg2 hne)
    clear hg2
    have key : ∃ (d : Nat) (bd : Bool) (q2 : Nat), d ≤ 31 ∧ e = .returned (.tuple #[.int .u64 d, .bool bd]) ∧ RdrAt w2 r A len cap q2 ∧ q2 ≤ 8 * len ∧ (8 * len < q2 + 4 ∨ (8 * len < q2 + 5 ∧ d = 0)) := by
      rcases hx2 with ⟨h1, rfl, h2⟩ | ⟨h1, rfl, h2⟩
      · exact ⟨_, _, _, by have := numAt_lt bs q1 5; omega, rfl, h2, h1, .inl (by omega)⟩
      · exact ⟨0, _, _, by omega, rfl, h2, hq1, .inr ⟨h1, rfl⟩⟩
    obtain ⟨d, bd, q2, hd, rfl, hr2, hq2, hqq2⟩ := key
    have Hr2 := Lib.hid hr2
    clear hx2 hr2
    go_wp2_with fail
    refine (Bits_any r A len cap q2 4 bs _ Hr2.out HB2.out Hb.out hne hlen hq2 (by omega)).mono ?_
    rintro e w3 ⟨hx3, hg3⟩
    have Hg3 := Lib.hid (grown_trans Hg2.out hg3)
    have HB3 := Lib.hid (HB2.out.grown hg3 hne)
    clear hg3
    rcases hx3 with ⟨h1, rfl, h2⟩ | ⟨h1, rfl, h2⟩
    · obtain rfl : d = 0 := by omega
      have Hr3 := Lib.hid h2
      have hM16 := numAt_lt bs q2 4
      obtain ⟨M, hM⟩ : ∃ M, numAt bs q2 4 = M := ⟨_, rfl⟩
      rw [hM] at hM16 ⊢
      replace hM16 : M ≤ 15 := by omega
      clear h2 hM
      by_cases ha29 : 29 < a
      · have t2 : (29 : Int) < (a : Int) := by omega
        go_wp2
        refine bodyPost_ret (v := .tuple #[.slice none 0 0, .slice none 0 0, .bool false]) (by simp [results, Tryd.results16, go_sem]) rfl ⟨.inr ⟨hno.out, rfl, _, by omega, Hr3.out⟩, Hg3.out⟩
      · have hsz3 := Hg3.out.size
        have t2 : (a : Int) ≤ 29 := by omega
        have hsl := fun W => ord_slice W .u64 ((M : Int) + 4) (M + 4) (by omega) (by omega)
        go_wp2_with (at_make; refine wpList_mk1 (base := w3.heap.size) (n := 19) _ rfl _ _ rfl elIntN rfl rfl rfl rfl (by omega) (Nat.le_refl _) ?_; intro w4 hown4 hb4 hsz4)
        have HO4 := Lib.hid ((HO.out.grown Hg3.out hor).below hb4)
        have Hr4 := Lib.hid (Hr3.out.keep hb4)
        have Hg4 := Lib.hid (grown_below Hg3.out hb4)
        have HB4 := Lib.hid (HB3.out.below hb4)
        clear hown4 hb4
        have i1 : (0 : Int) < (M : Int) + 4 := by omega
        go_loopw [49] (fun i wr => i = .int .i64 0 ∧ w4 = wr) (fun _ _ => 0)
        case atStart => exact ⟨rfl, rfl⟩
        case round =>
          obtain ⟨rfl, rfl⟩ := hrel
          have z := HO4.out 0 (by omega)
          go_wp2_with fail
          refine (BitsShort_calls r A len cap (q2 + 4) 3 _ Hr4.out (by omega) h1 (by omega) (by omega)).mono ?_
          rintro e w5 ⟨rfl, hb5⟩
          have Hg5 := Lib.hid (grown_below Hg4.out hb5)
          have Hr5 := Lib.hid (Hr4.out.keep hb5)
          clear hb5
          go_wp2
          refine bodyPost_ret (v := .tuple #[.slice none 0 0, .slice none 0 0, .bool false]) (by simp [results, Tryd.results16, go_sem]) rfl ⟨.inr ⟨hno.out, rfl, _, h1, Hr5.out⟩, Hg5.out⟩
    · have Hr3 := Lib.hid h2
      clear h2
      go_wp2
      refine bodyPost_ret (v := .tuple #[.slice none 0 0, .slice none 0 0, .bool false]) (by simp [results, Tryd.results16, go_sem]) rfl ⟨.inr ⟨hno.out, rfl, _, hq2, Hr3.out⟩, Hg3.out⟩
  · rcases hx1 with ⟨h1, rfl, h2⟩ | ⟨h1, rfl, h2⟩
    case inr => omega
    have Hr1 := Lib.hid h2
    clear h1 h2
    go_wp2_with fail
    refine (Bits_calls r A len cap (p + 5) 5 bs _ Hr1.out HB1.out Hb.out hne (by omega) (by omega) (by omega) (by omega)).mono ?_
    rintro e w2 ⟨rfl, hr2, hg2⟩
    have Hg2 := Lib.hid (grown_trans Hg1.out hg2)
    have HB2 := Lib.hid (HB1.out.grown hg2 hne)
    have Hr2 := Lib.hid hr2
    clear hg2 hr2
    go_wp2_with fail
    refine (Bits_calls r A len cap (p + 5 + 5) 4 bs _ Hr2.out HB2.out Hb.out hne (by omega) (by omega) (by omega) (by omega)).mono ?_
    rintro e w3 ⟨rfl, hr3, hg3⟩
    have Hg3 := Lib.hid (grown_trans Hg2.out hg3)
    have HB3 := Lib.hid (HB2.out.grown hg3 hne)
    have Hr3 : Hid (RdrAt w3 r A len cap (p + 14)) := hr3
    clear hg3 hr3
    have ha32 := numAt_lt bs p 5
    have hd32 := numAt_lt bs (p + 5) 5
    have hM16 := numAt_lt bs (p + 5 + 5) 4
    obtain ⟨a, ha⟩ : ∃ a, numAt bs p 5 = a := ⟨_, rfl⟩
    obtain ⟨d, hd⟩ : ∃ d, numAt bs (p + 5) 5 = d := ⟨_, rfl⟩
    obtain ⟨M, hM⟩ : ∃ M, numAt bs (p + 5 + 5) 4 = M := ⟨_, rfl⟩
    rw [ha, hd, hM]
    rw [ha] at ha32
    rw [hd] at hd32
    rw [hM] at hM16
    have Ha := Lib.hid ha
    have Hd := Lib.hid hd
    have HM : Hid (numAt bs (p + 10) 4 = M) := hM
    replace ha32 : a ≤ 31 := by omega
    replace hd32 : d ≤ 31 := by omega
    replace hM16 : M ≤ 15 := by omega
    clear ha hd hM
    by_cases hbig : 29 < a ∨ 29 < d
    · have hno := Lib.hid (getS_big (bs := bs) (T := 8 * len) (p := p) (by rw [Ha.out, Hd.out]; exact hbig))
      rcases Nat.lt_or_ge 29 a with hb2 | hb2
      · have t2 : (29 : Int) < (a : Int) := by omega
        go_wp2
        refine bodyPost_ret (v := .tuple #[.slice none 0 0, .slice none 0 0, .bool false]) (by simp [results, Tryd.results16, go_sem]) rfl ⟨.inr ⟨hno.out, rfl, _, h14, Hr3.out⟩, Hg3.out⟩
      · have t2 : (a : Int) ≤ 29 := by omega
        have t3 : (29 : Int) < (d : Int) := by omega
        clear hb2
        go_wp2
        refine bodyPost_ret (v := .tuple #[.slice none 0 0, .slice none 0 0, .bool false]) (by simp [results, Tryd.results16, go_sem]) rfl ⟨.inr ⟨hno.out, rfl, _, h14, Hr3.out⟩, Hg3.out⟩
    · have ha29 : a ≤ 29 := by omega
      have hd29 : d ≤ 29 := by omega
      clear hbig
      have hsz3 := Hg3.out.size
      have t2 : (a : Int) ≤ 29 := by omega
      have t3 : (d : Int) ≤ 29 := by omega
      have hsl := fun W => ord_slice W .u64 ((M : Int) + 4) (M + 4) (by omega) (by omega)
      go_wp2_with (at_make; refine wpList_mk1 (base := w3.heap.size) (n := 19) _ rfl _ _ rfl elIntN rfl rfl rfl rfl (by omega) (Nat.le_refl _) ?_; intro w4 hown4 hb4 hsz4)
      have Hown4 := Lib.hid hown4
      have Hr4 := Lib.hid (Hr3.out.keep hb4)
      have Hg4 := Lib.hid (grown_below Hg3.out hb4)
      clear hown4 hb4
      go_loopw [49] (fun i wr => ∃ k : Nat, k ≤ M + 4 ∧ i = .int .i64 k ∧ p + 14 + 3 * k ≤ 8 * len ∧ Hid (wr.ownsRow w3.heap.size 3 1 (.slice (some ⟨w3.heap.size, 0, none⟩) 19 19) 19 (ints .i64 (lensS bs (p + 14) k))) ∧ Hid (RdrAt wr r A len cap (p + 14 + 3 * k)) ∧ Hid (w.grownBy wr (some r))) (fun i _ => M + 4 - (intOf i).toNat)
      case atStart => exact ⟨0, by omega, rfl, by omega, Hown4.out, Hr4.out, Hg4.out⟩
      case round =>
        obtain ⟨k, hk, rfl, hkT, Hown, Hr, Hg⟩ := hrel
        obtain ⟨wr, hwr⟩ : ∃ W, W = wr := ⟨_, rfl⟩
        subst hwr
        by_cases hlt : k < M + 4
        · have z := HO.out.grown Hg.out hor k (by omega)
          have hol := ordL_lt k
          have hnx : lensS bs (p + 14) (k + 1) = (lensS bs (p + 14) k).set (ordL.getD k 0) (numAt bs (p + 14 + 3 * k) 3 : Nat) := rfl
          have hll := lensS_length bs (p + 14) k
          obtain ⟨oi, hoi⟩ : ∃ oi, oi = ordL.getD k 0 := ⟨_, rfl⟩
          rw [← hoi] at hol hnx z
          have Hnx := Lib.hid hnx
          have Hll := Lib.hid hll
          clear hnx hoi hll
          have i1 : (k : Int) < (M : Int) + 4 := by omega
          have i6 : (oi : Int) < 19 := by omega
          go_wp2_with fail
          refine (Bits_any r A len cap (p + 14 + 3 * k) 3 bs _ Hr.out (HB.out.grown Hg.out hne) Hb.out hne hlen hkT (by omega)).mono ?_
          rintro e w5 ⟨hx5, hg5⟩
          have Hg5 := Lib.hid (grown_trans Hg.out hg5)
          have Hown5 := Lib.hid (Hown.out.kept hg5 (.inr (own_ne Hr.out (by decide) Hown.out)))
          clear hg5
          rcases hx5 with ⟨h1, rfl, h2⟩ | ⟨h1, rfl, h2⟩
          · have Hr5 := Lib.hid h2
            have hgr := own_ne Hr5.out (by decide) Hown5.out
            have hgr : w3.heap.size ≠ r := fun e => hgr (by rw [← e]; rfl)
            have z0 := Hown5.out.cellAt oi (by omega)
            rw [ints_get (by rw [Hll.out]; exact hol)] at z0
            have f0 := Hown5.out.frozenAt oi
            have hx8 := numAt_lt bs (p + 14 + 3 * k) 3
            obtain ⟨X, hX⟩ : ∃ X, numAt bs (p + 14 + 3 * k) 3 = X := ⟨_, rfl⟩
            rw [hX] at hx8 ⊢
            rw [hX] at Hnx
            replace hx8 : X ≤ 7 := by omega
            clear h2 hX
            go_wp2
            go_roundw
            case rel =>
              have hfr : Fr w5 (w5.setCell ⟨w3.heap.size, oi, none⟩ (.int .i64 X)) [some w3.heap.size] := (Fr.refl _ _).set _ _ (.inl (by simp))
              refine ⟨k + 1, by omega, by go_num, by omega, ?_, Hr5.out.fr hfr (fun o ho e => by simp at ho; subst ho; cases e; exact hgr rfl), grown_fr Hg5.out hfr (fun o ho j e => by simp at ho; subst ho; cases e; exact hsz3)⟩
              have h9 := own_store Hown5.out oi (.int .i64 X)
              rw [← ints_set, ← Hnx.out] at h9
              exact h9
            case measure => simp [intOf]; omega
          · have hno := Lib.hid (getS_few (bs := bs) (T := 8 * len) (p := p) (by rw [HM.out]; omega))
            have Hr5 := Lib.hid h2
            clear h2
            go_wp2
            refine bodyPost_ret (v := .tuple #[.slice none 0 0, .slice none 0 0, .bool false]) (by simp [results, Tryd.results16, go_sem]) rfl ⟨.inr ⟨hno.out, rfl, _, hkT, Hr5.out⟩, Hg5.out⟩
        · obtain rfl : k = M + 4 := by omega
          have hxl := Lib.hid (lensS_length bs (p + 14) (M + 4))
          obtain ⟨xs, hxs⟩ : ∃ xs, xs = lensS bs (p + 14) (M + 4) := ⟨_, rfl⟩
          rw [← hxs] at Hown hxl
          have Hxs := Lib.hid hxs
          obtain ⟨_, _, e9, _, hrx⟩ := own_rd Hown.out
          cases e9
          have HRx := Lib.hid hrx
          clear hxs hrx
          go_wp2_with fail
          refine (New_calls _ 19 19 xs _ HRx.out (by omega)).mono ?_
          rintro e w6 ⟨hx6, hb6⟩
          have Hg6 := Lib.hid (grown_below Hg.out hb6)
          have Hr6 := Lib.hid (Hr.out.keep hb6)
          have hsr := Hr.out.lt
          clear hb6
          rcases hx6 with ⟨hr, rfl⟩ | ⟨hr, h, rfl, hcod⟩
          · have hno := Lib.hid (getS_bad (bs := bs) (T := 8 * len) (p := p) (by rw [HM.out, ← Hxs.out]; exact hr))
            clear hr
            go_wp2
            refine bodyPost_ret (v := .tuple #[.slice none 0 0, .slice none 0 0, .bool false]) (by simp [results, Tryd.results16, go_sem]) rfl ⟨.inr ⟨hno.out, rfl, _, hkT, Hr6.out⟩, Hg6.out⟩
          · have hgl := getS_list (bs := bs) (T := 8 * len) (p := p) (by omega) Ha.out Hd.out HM.out ha29 hd29 (by rw [← Hxs.out]; exact hr)
            rw [← Hxs.out] at hgl
            have hhr : h ≠ r := by obtain ⟨_, _, _, h2, _⟩ := hcod; omega
            have HC := Lib.hid hcod
            obtain ⟨n, hn⟩ : ∃ n, n = a + 257 + (d + 1) := ⟨_, rfl⟩
            obtain ⟨q0, hq0⟩ : ∃ q0, q0 = p + 14 + 3 * (M + 4) := ⟨_, rfl⟩
            rw [← hn, ← hq0] at hgl
            rw [← hq0] at Hr6
            have h258 : 258 ≤ n := by omega
            have hn1000 : n ≤ 1000 := by omega
            have e2 : n - (a + 257) = d + 1 := by omega
            have hq0T : q0 ≤ 8 * len := by omega
            have Hgl := Lib.hid hgl
            have sn : (a : Int) + 257 + (d : Int) + 1 = ((n : Nat) : Int) := by omega
            clear hr hcod hgl
            clear hn hq0
            go_wp2_with fail
            try rw [sn]
            refine (list_calls h r wr.heap.size A len cap q0 n xs bs _ HC.out (by rw [hxl.out]; omega) Hr6.out (HB.out.grown Hg6.out hne) Hb.out hne hlen (by omega) hhr (by omega)).mono ?_
            rintro e w7 ⟨hx7, hg7⟩
            have Hg7 := Lib.hid (grown_trans Hg6.out hg7)
            clear hg7
            rcases hx7 with ⟨l, q, v, hl, rfl, hown7, hr7⟩ | ⟨hl, rfl, q, hq, hr7⟩
            · have hln := (listS_len (out := []) (by simp) (by omega) hl)
              have hgo := Hgl.out
              rw [hl] at hgo
              obtain ⟨go, co, rfl, _, _, hco, hoc, _⟩ := own_form hown7 (by omega)
              have z := hoc 256 _ (ints_get (by omega))
              obtain ⟨_, _, e8, _, hro⟩ := own_rd hown7
              cases e8
              have Hro := Lib.hid hro
              have Hr7 := Lib.hid hr7
              have Hgo := Lib.hid hgo
              obtain ⟨hl1, hl2⟩ := hln
              obtain ⟨y, hy⟩ : ∃ y, rd l 256 = y := ⟨_, rfl⟩
              rw [hy] at z
              have Hy := Lib.hid hy
              clear hoc hro hy hown7 hr7 hgo
              by_cases hy0 : y = 0
              · have hno2 : getS bs (8 * len) p = none := by rw [Hgo.out]; simp [Hy.out, hy0]
                have Hno := Lib.hid hno2
                subst hy0
                clear hno2
                go_wp2
                refine bodyPost_ret (v := .tuple #[.slice none 0 0, .slice none 0 0, .bool false]) (by simp [results, Tryd.results16, go_sem]) rfl ⟨.inr ⟨Hno.out, rfl, _, hl2, Hr7.out⟩, Hg7.out⟩
              · have hyes : getS bs (8 * len) p = some (l.take (a + 257), l.drop (a + 257), q) := by rw [Hgo.out]; simp [Hy.out, hy0]
                have Hyes := Lib.hid hyes
                have d0 : (y == 0) = false := by simpa using hy0
                have s1 : ((a : Int) + 257).toNat = a + 257 := by omega
                have f1 := rd_front Hro.out (a + 257) (by omega)
                have f2 := rd_back Hro.out (a + 257) (by omega)
                have l1 : (l.take (a + 257)).length = a + 257 := by rw [List.length_take]; omega
                rw [e2] at f2
                have l2 : (l.drop (a + 257)).length = d + 1 := by rw [List.length_drop, hl1, e2]
                have F1 := Lib.hid f1
                have F2 := Lib.hid f2
                have L1 := Lib.hid l1
                have L2 := Lib.hid l2
                clear hyes f1 f2 l1 l2
                go_wp2
                go_region
                go_wp2
                refine bodyPost_ret (v := .tuple #[.slice (some ⟨go, 0, none⟩) (a + 257) (a + 257), .slice (some ⟨go, 0 + (a + 257), none⟩) (d + 1) (co - (a + 257)), .bool true]) (by simp [results, Tryd.results16, go_sem]) rfl ⟨.inl ⟨_, _, q, _, _, _, _, Hyes.out, by rw [L1.out, L2.out], ?_, ?_, ?_⟩, grown_below Hg7.out (Below.refl _ _).drew⟩
                · rw [L1.out]; exact F1.out.drew
                · rw [L2.out]; exact F2.out.drew
                · exact Hr7.out.keep (Below.refl _ _).drew
            · have hno2 : getS bs (8 * len) p = none := by rw [Hgl.out, hl]
              have Hno := Lib.hid hno2
              have Hr7 := Lib.hid hr7
              clear hno2 hr7
              go_wp2
              refine bodyPost_ret (v := .tuple #[.slice none 0 0, .slice none 0 0, .bool false]) (by simp [results, Tryd.results16, go_sem]) rfl ⟨.inr ⟨Hno.out, rfl, _, hq, Hr7.out⟩, Hg7.out⟩
end Go.Proofs.YtkjoncllnlmdgaaDoor
/-
  The walks of package inflate: what an opener is; fail, num.
-/
namespace Go.Proofs.YtkjoncllnlmdgaaDoor
open Go.RowKit

/-- The first error is kept. -/
def errOf (err c : Int) : Int := if err = 0 then c else err
theorem errOf_zero (c : Int) : errOf 0 c = c := rfl
/-- An opener. -/
structure OSt (w : World) (B h r : Nat) (A : Option Addr) (len cap : Nat) (bs : List Int) (most : Int) (q : Nat) (v : Value) (out : List Int) (err : Int) : Prop where
  at' : w.heap[h]? = some (.cells #[.pointer (some ⟨r, 0, none⟩), .int .i64 most, v, .int .i64 err] 102 (0, 0))
  rdr : RdrAt w r A len cap q
  bytes : Rd w .u8 A len bs
  own : w.ownsRow B 5 1 v out.length (ints .u8 out)
  apart : ∀ b o, A = some ⟨b, o, none⟩ → b ≠ r ∧ b ≠ h ∧ v.ownBlock ≠ some b ∧ b < w.heap.size
  q8 : q ≤ 8 * len
theorem OSt.hr {w : World} {B h r : Nat} {A : Option Addr} {len cap : Nat} {bs : List Int} {most : Int} {q : Nat} {v : Value} {out : List Int} {err : Int} (H : OSt w B h r A len cap bs most q v out err) : h ≠ r := fun e => by
  have h1 := H.at'
  have h2 := H.rdr
  unfold RdrAt at h2
  rw [e] at h1
  rw [h1] at h2
  simp at h2
theorem OSt.lt {w : World} {B h r : Nat} {A : Option Addr} {len cap : Nat} {bs : List Int} {most : Int} {q : Nat} {v : Value} {out : List Int} {err : Int} (H : OSt w B h r A len cap bs most q v out err) : h < w.heap.size := (Array.getElem?_eq_some_iff.1 H.at').1
theorem OSt.c0 {w : World} {B h r : Nat} {A : Option Addr} {len cap : Nat} {bs : List Int} {most : Int} {q : Nat} {v : Value} {out : List Int} {err : Int} (H : OSt w B h r A len cap bs most q v out err) : w.cell? ⟨h, 0, none⟩ = some (.pointer (some ⟨r, 0, none⟩)) := by rw [cell_of_row w h 0 _ _ (0, 0) H.at']; rfl
theorem OSt.c1 {w : World} {B h r : Nat} {A : Option Addr} {len cap : Nat} {bs : List Int} {most : Int} {q : Nat} {v : Value} {out : List Int} {err : Int} (H : OSt w B h r A len cap bs most q v out err) : w.cell? ⟨h, 1, none⟩ = some (.int .i64 most) := by rw [cell_of_row w h 1 _ _ (0, 0) H.at']; rfl
theorem OSt.c2 {w : World} {B h r : Nat} {A : Option Addr} {len cap : Nat} {bs : List Int} {most : Int} {q : Nat} {v : Value} {out : List Int} {err : Int} (H : OSt w B h r A len cap bs most q v out err) : w.cell? ⟨h, 2, none⟩ = some v := by rw [cell_of_row w h 2 _ _ (0, 0) H.at']; rfl
theorem OSt.c3 {w : World} {B h r : Nat} {A : Option Addr} {len cap : Nat} {bs : List Int} {most : Int} {q : Nat} {v : Value} {out : List Int} {err : Int} (H : OSt w B h r A len cap bs most q v out err) : w.cell? ⟨h, 3, none⟩ = some (.int .i64 err) := by rw [cell_of_row w h 3 _ _ (0, 0) H.at']; rfl
theorem OSt.frozen {w : World} {B h r : Nat} {A : Option Addr} {len cap : Nat} {bs : List Int} {most : Int} {q : Nat} {v : Value} {out : List Int} {err : Int} (H : OSt w B h r A len cap bs most q v out err) (j : Nat) : w.frozen? ⟨h, j, none⟩ = false := frozen_of_row w h j _ _ H.at'
theorem OSt.ah {w : World} {B h r : Nat} {A : Option Addr} {len cap : Nat} {bs : List Int} {most : Int} {q : Nat} {v : Value} {out : List Int} {err : Int} (H : OSt w B h r A len cap bs most q v out err) : Apart v.ownBlock (some h) := own_apart H.at' (by decide) H.own
theorem OSt.ar {w : World} {B h r : Nat} {A : Option Addr} {len cap : Nat} {bs : List Int} {most : Int} {q : Nat} {v : Value} {out : List Int} {err : Int} (H : OSt w B h r A len cap bs most q v out err) : Apart v.ownBlock (some r) := own_apart H.rdr (by decide) H.own
theorem OSt.below {w w1 : World} {B h r : Nat} {A : Option Addr} {len cap : Nat} {bs : List Int} {most : Int} {q : Nat} {v : Value} {out : List Int} {err : Int} (H : OSt w B h r A len cap bs most q v out err) (hb : Below w.heap.size w w1) : OSt w1 B h r A len cap bs most q v out err :=
  ⟨(hb.block h H.lt).trans H.at', H.rdr.keep hb, H.bytes.below hb, own_below H.own hb, fun b o e => ⟨(H.apart b o e).1, (H.apart b o e).2.1, (H.apart b o e).2.2.1, Nat.lt_of_lt_of_le (H.apart b o e).2.2.2 hb.size⟩, H.q8⟩
/-- The reader goes on. -/
theorem OSt.read {w w1 : World} {B h r : Nat} {A : Option Addr} {len cap : Nat} {bs : List Int} {most : Int} {q q' : Nat} {v : Value} {out : List Int} {err : Int} (H : OSt w B h r A len cap bs most q v out err) (hg : w.grownBy w1 (some r)) (hR : RdrAt w1 r A len cap q') (hq : q' ≤ 8 * len) : OSt w1 B h r A len cap bs most q' v out err :=
  ⟨(hg.block h H.lt (by simpa using H.hr)).trans H.at', hR, H.bytes.grown hg (fun b o e => (H.apart b o e).1), own_fr H.own (Fr.ofGrown hg) (fun o ho => by simp at ho; subst ho; exact H.ar), fun b o e => ⟨(H.apart b o e).1, (H.apart b o e).2.1, (H.apart b o e).2.2.1, Nat.lt_of_lt_of_le (H.apart b o e).2.2.2 hg.size⟩, hq⟩
theorem OSt.setErr {w : World} {B h r : Nat} {A : Option Addr} {len cap : Nat} {bs : List Int} {most : Int} {q : Nat} {v : Value} {out : List Int} {err : Int} (H : OSt w B h r A len cap bs most q v out err) (c : Int) : OSt (w.setCell ⟨h, 3, none⟩ (.int .i64 c)) B h r A len cap bs most q v out c :=
  have hf : Fr w (w.setCell ⟨h, 3, none⟩ (.int .i64 c)) [some h] := (Fr.refl w [some h]).set _ _ (.inl (by simp))
  ⟨heap_setCell_same w h 3 _ _ _ H.at', H.rdr.fr hf (fun o ho => by simp at ho; subst ho; simpa using H.hr), H.bytes.frW hf (fun b o e s hs => by simp at hs; subst hs; simpa using Ne.symm (H.apart b o e).2.1), own_fr H.own hf (fun o ho => by simp at ho; subst ho; exact H.ah), fun b o e => ⟨(H.apart b o e).1, (H.apart b o e).2.1, (H.apart b o e).2.2.1, by simpa using (H.apart b o e).2.2.2⟩, H.q8⟩
/-- What a method leaves of old memory; where the bytes lie then. -/
structure OStep (w w' : World) (h r : Nat) (v v' : Value) : Prop where
  fr : Fr w w' [some h, some r, v.ownBlock]
  at' : v'.ownBlock = v.ownBlock ∨ ∀ k, v'.ownBlock = some k → w.heap.size ≤ k
theorem OStep.refl (w : World) (h r : Nat) (v : Value) : OStep w w h r v v := ⟨Fr.refl _ _, .inl rfl⟩
theorem OStep.trans {w w1 w2 : World} {h r : Nat} {v v1 v2 : Value} (a : OStep w w1 h r v v1) (b : OStep w1 w2 h r v1 v2) : OStep w w2 h r v v2 := by
  refine ⟨a.fr.trans b.fr (fun o ho => ?_), ?_⟩
  · simp at ho
    rcases ho with rfl | rfl | rfl
    · exact .inl (by simp)
    · exact .inl (by simp)
    · rcases a.at' with e | e
      · exact .inl (by simp [e])
      · exact .inr e
  · rcases b.at' with e | e
    · rw [e]; exact a.at'
    · exact .inr (fun k hk => Nat.le_trans a.fr.size (e k hk))
theorem OStep.below {w w1 w2 : World} {h r : Nat} {v v1 : Value} (a : OStep w w1 h r v v1) (b : Below w1.heap.size w1 w2) : OStep w w2 h r v v1 := ⟨a.fr.trans (Fr.ofBelow b []) (fun _ ho => by simp at ho), a.at'⟩
theorem OStep.ofRead {w w1 : World} {h r : Nat} {v : Value} (hg : w.grownBy w1 (some r)) : OStep w w1 h r v v := ⟨(Fr.ofGrown hg).mono (fun o ho => by simp at ho; simp [ho]), .inl rfl⟩
theorem OStep.ofBelow {w w1 : World} {h r : Nat} {v : Value} (b : Below w.heap.size w w1) : OStep w w1 h r v v := ⟨Fr.ofBelow b _, .inl rfl⟩
theorem OStep.drew {w w1 : World} {h r : Nat} {v v1 : Value} (a : OStep w w1 h r v v1) : OStep w w1.drew h r v v1 := ⟨a.fr.drew, a.at'⟩
/-- A coder lies apart from an opener. -/
theorem OStep.coder {w w1 : World} {B h r : Nat} {A : Option Addr} {len cap : Nat} {bs : List Int} {most : Int} {q : Nat} {v v' : Value} {out : List Int} {err : Int} (a : OStep w w1 h r v v') (H : OSt w B h r A len cap bs most q v out err) {base hc : Nat} {xs : List Int} (hC : Coder w base hc xs) : Coder w1 base hc xs := by
  obtain ⟨m, u, h1, h2, h3, h4, h5⟩ := hC
  refine ⟨m, u, h1, h2, (a.fr.block hc h3.lt (fun o ho e => ?_)).trans h3, h4, own_fr h5 a.fr (fun o ho => ?_)⟩
  · simp at ho
    rcases ho with rfl | rfl | rfl
    · have e2 : h = hc := by simpa using e
      have h9 := H.at'
      rw [e2, h3] at h9
      simp at h9
    · have e2 : r = hc := by simpa using e
      have h9 := H.rdr
      unfold RdrAt at h9
      rw [e2, h3] at h9
      simp at h9
    · exact own_apart h3 (by decide) H.own hc e rfl
  · simp at ho
    rcases ho with rfl | rfl | rfl
    · exact own_apart H.at' (by decide) h5
    · exact own_apart H.rdr (by decide) h5
    · exact own_apart2 (by decide) h5 H.own
set_option maxHeartbeats 400000 in
theorem fail_calls (h : Nat) (r : Nat) (c err most : Int) (v : Value) (w : World) (H : w.heap[h]? = some (.cells #[.pointer (some ⟨r, 0, none⟩), .int .i64 most, v, .int .i64 err] 102 (0, 0))) :
    Calls Tryd.prog 94 #[.pointer (some ⟨h, 0, none⟩), .int .i64 c] w fun e w' => e = .returned (.bool false) ∧ (err = 0 ∧ w' = w.setCell ⟨h, 3, none⟩ (.int .i64 c) ∨ err ≠ 0 ∧ w' = w) := by
  have c3 : w.cell? ⟨h, 3, none⟩ = some (.int .i64 err) := by rw [cell_of_row w h 3 _ _ (0, 0) H]; rfl
  have f3 := frozen_of_row w h 3 _ _ H
  clear H
  go_enter Tryd.func94, Tryd.ntmps94
  by_cases he : err = 0
  · subst he
    go_wp2
    go_ret
    exact ⟨rfl, rfl⟩
  · go_wp2
    go_ret
    exact ⟨rfl, .inr ⟨he, rfl⟩⟩
/-- What fail leaves. -/
theorem OSt.fail {w w1 : World} {B h r : Nat} {A : Option Addr} {len cap : Nat} {bs : List Int} {most : Int} {q : Nat} {v : Value} {out : List Int} {err c : Int} (H : OSt w B h r A len cap bs most q v out err) (hw : err = 0 ∧ w1 = w.setCell ⟨h, 3, none⟩ (.int .i64 c) ∨ err ≠ 0 ∧ w1 = w) : OSt w1 B h r A len cap bs most q v out (errOf err c) ∧ OStep w w1 h r v v := by
  rcases hw with ⟨rfl, rfl⟩ | ⟨he, rfl⟩
  · exact ⟨H.setErr c, (Fr.refl w _).set _ _ (.inl (by simp)), .inl rfl⟩
  · exact ⟨by unfold errOf; rw [if_neg he]; exact H, OStep.refl _ _ _ _⟩
theorem Ofail_calls (B h r : Nat) (A : Option Addr) (len cap : Nat) (bs : List Int) (most : Int) (q : Nat) (v : Value) (out : List Int) (err c : Int) (w : World) (H : OSt w B h r A len cap bs most q v out err) :
    Calls Tryd.prog 94 #[.pointer (some ⟨h, 0, none⟩), .int .i64 c] w fun e w' => e = .returned (.bool false) ∧ OSt w' B h r A len cap bs most q v out (errOf err c) ∧ OStep w w' h r v v := by
  refine (fail_calls h r c err most v w H.at').mono ?_
  rintro e w1 ⟨rfl, hw⟩
  exact ⟨rfl, H.fail hw⟩
set_option maxHeartbeats 1000000 in
theorem num_calls (B h r : Nat) (A : Option Addr) (len cap : Nat) (bs : List Int) (most : Int) (q n : Nat) (v : Value) (out : List Int) (err : Int) (w : World) (H : OSt w B h r A len cap bs most q v out err) (hb : ∀ j, j < len → 0 ≤ rd bs j ∧ rd bs j ≤ 255) (hlen : len ≤ 1000000) (hn : n ≤ 60) :
    Calls Tryd.prog 70 #[.pointer (some ⟨h, 0, none⟩), .int .i64 n] w fun e w' =>
      Hid (q + n ≤ 8 * len ∧ e = .returned (.int .i64 (numAt bs q n : Nat)) ∧ OSt w' B h r A len cap bs most (q + n) v out err ∨ 8 * len < q + n ∧ e = .returned (.int .i64 0) ∧ OSt w' B h r A len cap bs most q v out (errOf err 2)) ∧ OStep w w' h r v v := by
  have HH := Lib.hid H
  have Hb := Lib.hid hb
  have c0 := H.c0
  have hq8 := H.q8
  clear H hb
  go_enter Tryd.func70, Tryd.ntmps70
  go_wp2_with fail
  refine (Bits_any r A len cap q n bs _ HH.out.rdr HH.out.bytes Hb.out (fun b o e => (HH.out.apart b o e).1) hlen hq8 hn).mono ?_
  rintro e w1 ⟨hx, hg⟩
  have Hg := Lib.hid hg
  have hlt := numAt_lt bs q n
  have hp : (2 : Nat) ^ n ≤ 2 ^ 60 := Nat.pow_le_pow_right (by omega) hn
  have hp2 : (2 : Nat) ^ 60 = 1152921504606846976 := by decide
  rw [hp2] at hp
  obtain ⟨x, hxe⟩ : ∃ x, x = numAt bs q n := ⟨_, rfl⟩
  rw [← hxe] at hx hlt
  have hx60 : x < 1152921504606846976 := by omega
  have Hxe := Lib.hid hxe
  clear hg hxe hlt hp hp2
  rcases hx with ⟨hok, rfl, hR1⟩ | ⟨hno, rfl, hR1⟩
  · have HR1 := Lib.hid hR1
    clear hR1
    go_wp2_with fail
    go_ret
    exact ⟨Lib.hid (.inl ⟨hok, by rw [← Hxe.out]; rfl, HH.out.read Hg.out HR1.out hok⟩), OStep.ofRead Hg.out⟩
  · have HO1 := Lib.hid (HH.out.read Hg.out hR1 hq8)
    clear hR1
    go_wp2_with fail
    refine (Ofail_calls B h r A len cap bs most q v out err 2 _ HO1.out).mono ?_
    rintro e w2 ⟨rfl, hO2, hs2⟩
    have HO2 := Lib.hid hO2
    have Hs2 := Lib.hid hs2
    clear hO2 hs2
    go_wp2_with fail
    go_ret
    exact ⟨Lib.hid (.inr ⟨hno, rfl, HO2.out⟩), (OStep.ofRead Hg.out).trans Hs2.out⟩
end Go.Proofs.YtkjoncllnlmdgaaDoor
/-
  The walks of lz.Right, lz.Add, and of add (package inflate).
-/
namespace Go.Proofs.YtkjoncllnlmdgaaDoor
open Go.RowKit

set_option maxHeartbeats 1000000 in
set_option maxRecDepth 100000 in
theorem LRight_calls (b l d : Int) (n : Nat) (w : World) :
    Calls Tryd.prog 109 #[.agg #[.int .u8 b, .int .i64 l, .int .i64 d], .int .i64 n] w fun e w' => e = .returned (.bool (rightT b l d n)) ∧ Below w.heap.size w w' := by
  have Hb0 : Hid (Below w.heap.size w (w.alloc (.cells #[.int .u8 b, .int .i64 l, .int .i64 d] 120))) := (Below.refl _ _).alloc (Nat.le_refl _) _
  have q0 := cell_of_row (w.alloc (.cells #[.int .u8 b, .int .i64 l, .int .i64 d] 120)) w.heap.size 0 _ _ (0, 0) (heap_alloc_new w _)
  have q1 := cell_of_row (w.alloc (.cells #[.int .u8 b, .int .i64 l, .int .i64 d] 120)) w.heap.size 1 _ _ (0, 0) (heap_alloc_new w _)
  have q2 := cell_of_row (w.alloc (.cells #[.int .u8 b, .int .i64 l, .int .i64 d] 120)) w.heap.size 2 _ _ (0, 0) (heap_alloc_new w _)
  simp only [List.getElem?_toArray, List.getElem?_cons_succ, List.getElem?_cons_zero] at q0 q1 q2
  by_cases h0 : l = 0
  · subst h0
    have e : rightT b 0 d n = (d == 0) := by unfold rightT; rw [if_pos rfl]; rfl
    have He := Lib.hid e
    clear e
    go_enter Tryd.func109, Tryd.ntmps109
    go_wp2
    go_ret
    exact ⟨by rw [He.out]; rfl, Hb0.out⟩
  · by_cases h1 : b = 0
    · subst h1
      by_cases h2 : 3 ≤ l
      · skip
        by_cases h3 : l ≤ 258
        · skip
          by_cases h4 : 1 ≤ d
          · skip
            by_cases h5 : d ≤ 32768
            · skip
              have e : rightT 0 l d n = decide (d ≤ (n : Int)) := by unfold rightT; rw [if_neg h0]; simp [h2, h3, h4, h5]
              have He := Lib.hid e
              clear e
              go_enter Tryd.func109, Tryd.ntmps109
              go_wp2
              go_ret
              exact ⟨by rw [He.out]; rfl, Hb0.out⟩
            · have e : rightT 0 l d n = false := by unfold rightT; rw [if_neg h0]; simp only [decide_eq_false_iff_not]; omega
              have He := Lib.hid e
              clear e
              go_enter Tryd.func109, Tryd.ntmps109
              go_wp2
              go_ret
              exact ⟨by rw [He.out]; rfl, Hb0.out⟩
          · have e : rightT 0 l d n = false := by unfold rightT; rw [if_neg h0]; simp only [decide_eq_false_iff_not]; omega
            have He := Lib.hid e
            clear e
            go_enter Tryd.func109, Tryd.ntmps109
            go_wp2
            go_ret
            exact ⟨by rw [He.out]; rfl, Hb0.out⟩
        · have e : rightT 0 l d n = false := by unfold rightT; rw [if_neg h0]; simp only [decide_eq_false_iff_not]; omega
          have He := Lib.hid e
          clear e
          go_enter Tryd.func109, Tryd.ntmps109
          go_wp2
          go_ret
          exact ⟨by rw [He.out]; rfl, Hb0.out⟩
      · have e : rightT 0 l d n = false := by unfold rightT; rw [if_neg h0]; simp only [decide_eq_false_iff_not]; omega
        have He := Lib.hid e
        clear e
        go_enter Tryd.func109, Tryd.ntmps109
        go_wp2
        go_ret
        exact ⟨by rw [He.out]; rfl, Hb0.out⟩
    · have e : rightT b l d n = false := by unfold rightT; rw [if_neg h0]; simp only [decide_eq_false_iff_not]; omega
      have He := Lib.hid e
      clear e
      go_enter Tryd.func109, Tryd.ntmps109
      go_wp2
      go_ret
      exact ⟨by rw [He.out]; rfl, Hb0.out⟩
/-- Where a row of bytes lies when it has grown. -/
structure RStep (w w' : World) (v v' : Value) : Prop where
  fr : Fr w w' [v.ownBlock]
  at' : v'.ownBlock = v.ownBlock ∨ ∀ k, v'.ownBlock = some k → w.heap.size ≤ k
theorem RStep.refl (w : World) (v : Value) : RStep w w v v := ⟨Fr.refl _ _, .inl rfl⟩
theorem RStep.trans {w w1 w2 : World} {v v1 v2 : Value} (a : RStep w w1 v v1) (b : RStep w1 w2 v1 v2) : RStep w w2 v v2 := by
  refine ⟨a.fr.trans b.fr (fun o ho => ?_), ?_⟩
  · simp at ho
    subst ho
    rcases a.at' with e | e
    · exact .inl (by simp [e])
    · exact .inr e
  · rcases b.at' with e | e
    · rw [e]; exact a.at'
    · exact .inr (fun k hk => Nat.le_trans a.fr.size (e k hk))
theorem RStep.after {w w1 w2 : World} {v v1 : Value} (b : Below w.heap.size w w1) (a : RStep w1 w2 v v1) : RStep w w2 v v1 := ⟨(Fr.ofBelow b [v.ownBlock]).trans a.fr (fun _ ho => .inl ho), a.at'.imp id (fun e k hk => Nat.le_trans b.size (e k hk))⟩
set_option maxHeartbeats 1000000 in
set_option maxRecDepth 100000 in
theorem LAdd_calls (B : Nat) (v : Value) (b l d : Int) (out : List Int) (w : World) (H : w.ownsRow B 5 1 v out.length (ints .u8 out)) (hr : rightT b l d out.length = true) (hlen : out.length ≤ 1000000000) (hB : B ≤ w.heap.size) :
    Calls Tryd.prog 110 #[v, .agg #[.int .u8 b, .int .i64 l, .int .i64 d]] w fun e w' => ∃ v', e = .returned v' ∧ Hid (w'.ownsRow B 5 1 v' (addT b l d out).length (ints .u8 (addT b l d out))) ∧ RStep w w' v v' := by
  obtain ⟨W0, hW0⟩ : ∃ W, W = w.alloc (.cells #[.int .u8 b, .int .i64 l, .int .i64 d] 120) := ⟨_, rfl⟩
  obtain ⟨tb, htb⟩ : ∃ t, t = w.heap.size := ⟨_, rfl⟩
  have hrow : W0.heap[tb]? = some (.cells #[.int .u8 b, .int .i64 l, .int .i64 d] 120 (0, 0)) := by rw [hW0, htb]; exact heap_alloc_new w _
  have hb0 : Below w.heap.size w W0 := by rw [hW0]; exact (Below.refl _ _).alloc (Nat.le_refl _) _
  have Hb0 := Lib.hid hb0
  have HO0 := Lib.hid (own_below H hb0)
  have Hrow := Lib.hid hrow
  have hsz0 : B ≤ W0.heap.size := Nat.le_trans hB hb0.size
  have q0 := cell_of_row W0 tb 0 _ _ (0, 0) hrow
  have q1 := cell_of_row W0 tb 1 _ _ (0, 0) hrow
  have q2 := cell_of_row W0 tb 2 _ _ (0, 0) hrow
  simp only [List.getElem?_toArray, List.getElem?_cons_succ, List.getElem?_cons_zero] at q0 q1 q2
  have HW := Lib.hid hW0
  have Htb := Lib.hid htb
  clear hrow hb0 H hB hW0 htb
  by_cases h0 : l = 0
  · subst h0
    clear hr
    go_enter Tryd.func110, Tryd.ntmps110
    go_upto_region 1 with fail
    rw [← HW.out, ← Htb.out]
    go_wp2_with (first | (at_builtin; refine wpList_app3 rfl _ _ rfl elB HO0.out rfl rfl rfl rfl rfl (by omega) hsz0 ?_; intro g cap w1 hown1 hfr hat hlt) | fail)
    have e9 : ints .u8 out ++ [.int .u8 b] = ints .u8 (out ++ [b]) := by rw [ints_append]; rfl
    rw [e9] at hown1
    have Hown := Lib.hid hown1
    have Hst : Hid (RStep w w1 v (.slice (some ⟨g, 0, none⟩) (out.length + 1) cap)) := RStep.after Hb0.out ⟨hfr, by
      rcases hat with h | h
      · exact .inl (by rw [h]; rfl)
      · exact .inr (fun k hk => by have e8 : g = k := by simpa [Value.ownBlock] using hk
                                   omega)⟩
    clear hown1 hfr hat e9
    go_ret
    exact ⟨_, rfl, by rw [show addT b 0 d out = out ++ [b] from rfl, List.length_append]; exact Hown.out, Hst.out⟩
  · have hr2 : b = 0 ∧ 3 ≤ l ∧ l ≤ 258 ∧ 1 ≤ d ∧ d ≤ 32768 ∧ d ≤ out.length := by
      unfold rightT at hr
      rw [if_neg h0] at hr
      exact of_decide_eq_true hr
    obtain ⟨rfl, hl1, hl2, hd1, hd2, hd3⟩ := hr2
    obtain ⟨L, rfl⟩ : ∃ L : Nat, l = L := ⟨l.toNat, by omega⟩
    obtain ⟨D, rfl⟩ : ∃ D : Nat, d = D := ⟨d.toNat, by omega⟩
    have hadd : addT 0 L D out = copyT D L out := by unfold addT; rw [if_neg h0, Int.toNat_natCast, Int.toNat_natCast]
    have Hadd := Lib.hid hadd
    have hL : L ≤ 258 := by omega
    have hD1 : 1 ≤ D := by omega
    have hD2 : D ≤ out.length := by omega
    clear hr hadd hl1 hl2 hd1 hd2 hd3
    go_enter Tryd.func110, Tryd.ntmps110
    go_upto_region 1 with fail
    rw [← HW.out, ← Htb.out]
    go_wp2
    go_loopw [0, 15] (fun bv i wr => ∃ (k : Nat), k ≤ L ∧ i = .int .i64 k ∧ Hid (wr.ownsRow B 5 1 bv (out.length + k) (ints .u8 (copyT D k out))) ∧ Hid (RStep W0 wr v bv)) (fun _ i _ => L - (intOf i).toNat)
    case atStart => exact ⟨0, by omega, rfl, HO0.out, RStep.refl _ _⟩
    case round =>
      obtain ⟨k, hk, rfl, HO2, HS2⟩ := hrel
      obtain ⟨W1, hW1⟩ : ∃ W, W = wr := ⟨_, rfl⟩
      subst hW1
      have hrow1 : W1.heap[tb]? = _ := (HS2.out.fr.block tb (Array.getElem?_eq_some_iff.1 Hrow.out).1 (fun o ho e => by
        simp at ho
        subst ho
        exact own_apart Hrow.out (by decide) HO0.out tb e rfl)).trans Hrow.out
      have y1 := cell_of_row W1 tb 1 _ _ (0, 0) hrow1
      have y2 := cell_of_row W1 tb 2 _ _ (0, 0) hrow1
      simp only [List.getElem?_toArray, List.getElem?_cons_succ, List.getElem?_cons_zero] at y1 y2
      clear hrow1
      by_cases hlt : k < L
      · obtain ⟨n, hn⟩ : ∃ n, n = out.length + k := ⟨_, rfl⟩
        obtain ⟨j, hj⟩ : ∃ j, j = n - D := ⟨_, rfl⟩
        have hjn : (n : Int) - (D : Int) = (j : Int) := by omega
        have hj2 : j < n := by omega
        have hn2 : n ≤ 1000000258 := by omega
        have hsucc := copyT_succ D k out
        rw [copyT_length, ← hn, ← hj] at hsucc
        have hlc := copyT_length D k out
        rw [← hn] at hlc
        rw [← hn] at HO2
        obtain ⟨g, c, rfl, _, _, hcc, hcell, _⟩ := own_form HO2.out (by omega)
        have z := hcell j (.int .u8 (rd (copyT D k out) j)) (by rw [ints_get (by omega)])
        obtain ⟨x, hx⟩ : ∃ x, x = rd (copyT D k out) j := ⟨_, rfl⟩
        rw [← hx] at z hsucc
        have Hsucc := Lib.hid hsucc
        have Hn := Lib.hid hn
        have hsz2 := Nat.le_trans hsz0 HS2.out.fr.size
        clear hsucc hx hlc hj hcell hn
        go_wp2_with (first | (at_builtin; refine wpList_app3 rfl _ _ rfl elB HO2.out rfl rfl rfl rfl rfl (by omega) hsz2 ?_; intro g3 cap3 w3 hown3 hfr3 hat3 hlt3) | fail)
        have e9 : ints .u8 (copyT D k out) ++ [.int .u8 x] = ints .u8 (copyT D (k + 1) out) := by rw [Hsucc.out, ints_append]; rfl
        rw [e9] at hown3
        have Hown := Lib.hid hown3
        have Hst : Hid (RStep W0 w3 v (.slice (some ⟨g3, 0, none⟩) (n + 1) cap3)) := HS2.out.trans ⟨hfr3, by
          rcases hat3 with h | h
          · exact .inl (by rw [h]; rfl)
          · exact .inr (fun k hk => by have e8 : g3 = k := by simpa [Value.ownBlock] using hk
                                       omega)⟩
        clear hown3 hfr3 hat3 e9
        go_roundw
        case rel => exact ⟨k + 1, by omega, by go_num, by have := Hn.out; rw [show out.length + (k + 1) = n + 1 by omega]; exact Hown.out, Hst.out⟩
        case measure => simp [intOf]; omega
      · obtain rfl : k = L := by omega
        go_wp2
        go_ret
        exact ⟨_, rfl, by rw [Hadd.out, copyT_length]; exact HO2.out, RStep.after Hb0.out HS2.out⟩
end Go.Proofs.YtkjoncllnlmdgaaDoor
