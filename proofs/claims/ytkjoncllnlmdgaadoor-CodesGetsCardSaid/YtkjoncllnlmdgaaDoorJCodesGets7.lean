/-
  Texts joined into one file: Get, CodesGets.
-/
import Derived.Test.YtkjoncllnlmdgaaDoorJCodesGets4
import Derived.Test.YtkjoncllnlmdgaaDoorJCodesGets6
import Derived.Test.YtkjoncllnlmdgaaDoorJCodesGets1
/-
  The walk of Get (package codes).
-/
namespace Go.Proofs.YtkjoncllnlmdgaaDoor
open Go.RowKit



theorem OrdAt.grown {w w1 : World} {r : Nat} (h : OrdAt w) (hg : w.grownBy w1 (some r)) (hr : 0 ≠ r) : OrdAt w1 := fun j hj => hg.cell (h j hj) (by simpa using hr)
theorem OrdAt.below {w w1 : World} (h : OrdAt w) (hb : Below w.heap.size w w1) : OrdAt w1 := fun j hj => kept_cell hb (h j hj)
theorem Bits_any (r : Nat) (A : Option Addr) (len cap at' n : Nat) (bs : List Int) (w : World) (hR : RdrAt w r A len cap at') (hB : Rd w .u8 A len bs) (hb : ∀ j, j < len → 0 ≤ rd bs j ∧ rd bs j ≤ 255) (hne : ∀ b o, A = some ⟨b, o, none⟩ → b ≠ r) (hlen : len ≤ 1000000) (hat : at' ≤ 8 * len) (hn : n ≤ 60) :
    Calls Tryd.prog 39 #[.pointer (some ⟨r, 0, none⟩), .int .i64 n] w fun e w' => ((at' + n ≤ 8 * len ∧ e = .returned (.tuple #[(.int .u64 (numAt bs at' n : Nat)), .bool true]) ∧ RdrAt w' r A len cap (at' + n)) ∨ (8 * len < at' + n ∧ e = .returned (.tuple #[.int .u64 0, .bool false]) ∧ RdrAt w' r A len cap at')) ∧ w.grownBy w' (some r) := by
  rcases Nat.lt_or_ge (8 * len) (at' + n) with h | h
  · refine (BitsShort_calls r A len cap at' n w hR (by omega) hat hn h).mono ?_
    rintro e w1 ⟨rfl, hb1⟩
    exact ⟨.inr ⟨h, rfl, hR.keep hb1⟩, grown_below (grown_refl _ _) hb1⟩
  · refine (Bits_calls r A len cap at' n bs w hR hB hb hne (by omega) hat hn h).mono ?_
    rintro e w1 ⟨rfl, h1, h2⟩
    exact ⟨.inl ⟨h, rfl, h1⟩, h2⟩
set_option maxHeartbeats 4000000 in
set_option maxRecDepth 100000 in
theorem Get_calls (r : Nat) (A : Option Addr) (len cap p : Nat) (bs : List Int) (w : World) (hO : OrdAt w) (hor : 0 ≠ r) (hR : RdrAt w r A len cap p) (hB : Rd w .u8 A len bs) (hb : ∀ j, j < len → 0 ≤ rd bs j ∧ rd bs j ≤ 255) (hne : ∀ b o, A = some ⟨b, o, none⟩ → b ≠ r) (hlen : len ≤ 1000000) (hp : p ≤ 8 * len) :
    Calls Tryd.prog 16 #[.pointer (some ⟨r, 0, none⟩)] w fun e w' =>
      ((∃ l1 l2 q A1 c1 A2 c2, getS bs (8 * len) p = some (l1, l2, q) ∧ e = .returned (.tuple #[.slice A1 l1.length c1, .slice A2 l2.length c2, .bool true]) ∧ Rd w' .i64 A1 l1.length l1 ∧ Rd w' .i64 A2 l2.length l2 ∧ RdrAt w' r A len cap q) ∨
       (getS bs (8 * len) p = none ∧ e = .returned (.tuple #[.slice none 0 0, .slice none 0 0, .bool false]) ∧ ∃ q, q ≤ 8 * len ∧ RdrAt w' r A len cap q)) ∧ w.grownBy w' (some r) := by
  have HO := Lib.hid hO
  have HR := Lib.hid hR
  have HB := Lib.hid hB
  have Hb := Lib.hid hb
  clear hO hR hB hb
  go_enter Tryd.func16, Tryd.ntmps16
  go_wp2_with fail
  refine (Bits_any r A len cap p 5 bs _ HR.out HB.out Hb.out hne hlen hp (by omega)).mono ?_
  rintro e w1 ⟨hx1, hg1⟩
  have Hg1 := Lib.hid hg1
  have HB1 := Lib.hid (HB.out.grown hg1 hne)
  clear hg1
  rcases Nat.lt_or_ge (8 * len) (p + 14) with h14 | h14
  · have hno := Lib.hid (getS_short (bs := bs) (T := 8 * len) (p := p) h14)
    have key : ∃ (a : Nat) (ba : Bool) (q1 : Nat), a ≤ 31 ∧ e = .returned (.tuple #[.int .u64 a, .bool ba]) ∧ RdrAt w1 r A len cap q1 ∧ q1 ≤ 8 * len ∧ (8 * len < q1 + 5 ∨ (q1 = p + 5)) := by
      rcases hx1 with ⟨h1, rfl, h2⟩ | ⟨h1, rfl, h2⟩
      · exact ⟨_, _, _, by have := numAt_lt bs p 5; omega, rfl, h2, h1, .inr rfl⟩
      · exact ⟨0, _, _, by omega, rfl, h2, hp, .inl h1⟩
    obtain ⟨a, ba, q1, ha, rfl, hr1, hq1, hqq⟩ := key
    have Hr1 := Lib.hid hr1
    clear hx1 hr1
    go_wp2_with fail
    refine (Bits_any r A len cap q1 5 bs _ Hr1.out HB1.out Hb.out hne hlen hq1 (by omega)).mono ?_
    rintro e w2 ⟨hx2, hg2⟩
    have Hg2 := Lib.hid (grown_trans Hg1.out hg2)
    have HB2 := Lib.hid (HB1.out.grown hg2 hne)
    clear hg2
    have key : ∃ (d : Nat) (bd : Bool) (q2 : Nat), d ≤ 31 ∧ e = .returned (.tuple #[.int .u64 d, .bool bd]) ∧ RdrAt w2 r A len cap q2 ∧ q2 ≤ 8 * len ∧ (8 * len < q2 + 4 ∨ (8 * len < q2 + 5 ∧ d = 0)) := by
      rcases hx2 with ⟨h1, rfl, h2⟩ | ⟨h1, rfl, h2⟩
      · exact ⟨_, _, _, by have := numAt_lt bs q1 5; omega, rfl, h2, h1, .inl (by omega)⟩
      · exact ⟨0, _, _, by omega, rfl, h2, hq1, .inr ⟨h1, rfl⟩⟩
    obtain ⟨d, bd, q2, hd, rfl, hr2, hq2, hqq2⟩ := key
    have Hr2 := Lib.hid hr2
    clear hx2 hr2
    go_wp2_with fail
    refine (Bits_any r A len cap q2 4 bs _ Hr2.out HB2.out Hb.out hne hlen hq2 (by omega)).mono ?_
    rintro e w3 ⟨hx3, hg3⟩
    have Hg3 := Lib.hid (grown_trans Hg2.out hg3)
    have HB3 := Lib.hid (HB2.out.grown hg3 hne)
    clear hg3
    rcases hx3 with ⟨h1, rfl, h2⟩ | ⟨h1, rfl, h2⟩
    · obtain rfl : d = 0 := by omega
      have Hr3 := Lib.hid h2
      have hM16 := numAt_lt bs q2 4
      obtain ⟨M, hM⟩ : ∃ M, numAt bs q2 4 = M := ⟨_, rfl⟩
      rw [hM] at hM16 ⊢
      replace hM16 : M ≤ 15 := by omega
      clear h2 hM
      by_cases ha29 : 29 < a
      · have t2 : (29 : Int) < (a : Int) := by omega
        go_wp2
        refine bodyPost_ret (v := .tuple #[.slice none 0 0, .slice none 0 0, .bool false]) (by simp [results, Tryd.results16, go_sem]) rfl ⟨.inr ⟨hno.out, rfl, _, by omega, Hr3.out⟩, Hg3.out⟩
      · have hsz3 := Hg3.out.size
        have t2 : (a : Int) ≤ 29 := by omega
        have hsl := fun W => ord_slice W .u64 ((M : Int) + 4) (M + 4) (by omega) (by omega)
        go_wp2_with (at_make; refine wpList_mk1 (base := w3.heap.size) (n := 19) _ rfl _ _ rfl elIntN rfl rfl rfl rfl (by omega) (Nat.le_refl _) ?_; intro w4 hown4 hb4 hsz4)
        have HO4 := Lib.hid ((HO.out.grown Hg3.out hor).below hb4)
        have Hr4 := Lib.hid (Hr3.out.keep hb4)
        have Hg4 := Lib.hid (grown_below Hg3.out hb4)
        have HB4 := Lib.hid (HB3.out.below hb4)
        clear hown4 hb4
        have i1 : (0 : Int) < (M : Int) + 4 := by omega
        go_loopw [49] (fun i wr => i = .int .i64 0 ∧ w4 = wr) (fun _ _ => 0)
        case atStart => exact ⟨rfl, rfl⟩
        case round =>
          obtain ⟨rfl, rfl⟩ := hrel
          have z := HO4.out 0 (by omega)
          go_wp2_with fail
          refine (BitsShort_calls r A len cap (q2 + 4) 3 _ Hr4.out (by omega) h1 (by omega) (by omega)).mono ?_
          rintro e w5 ⟨rfl, hb5⟩
          have Hg5 := Lib.hid (grown_below Hg4.out hb5)
          have Hr5 := Lib.hid (Hr4.out.keep hb5)
          clear hb5
          go_wp2
          refine bodyPost_ret (v := .tuple #[.slice none 0 0, .slice none 0 0, .bool false]) (by simp [results, Tryd.results16, go_sem]) rfl ⟨.inr ⟨hno.out, rfl, _, h1, Hr5.out⟩, Hg5.out⟩
    · have Hr3 := Lib.hid h2
      clear h2
      go_wp2
      refine bodyPost_ret (v := .tuple #[.slice none 0 0, .slice none 0 0, .bool false]) (by simp [results, Tryd.results16, go_sem]) rfl ⟨.inr ⟨hno.out, rfl, _, hq2, Hr3.out⟩, Hg3.out⟩
  · rcases hx1 with ⟨h1, rfl, h2⟩ | ⟨h1, rfl, h2⟩
    case inr => omega
    have Hr1 := Lib.hid h2
    clear h1 h2
    go_wp2_with fail
    refine (Bits_calls r A len cap (p + 5) 5 bs _ Hr1.out HB1.out Hb.out hne (by omega) (by omega) (by omega) (by omega)).mono ?_
    rintro e w2 ⟨rfl, hr2, hg2⟩
    have Hg2 := Lib.hid (grown_trans Hg1.out hg2)
    have HB2 := Lib.hid (HB1.out.grown hg2 hne)
    have Hr2 := Lib.hid hr2
    clear hg2 hr2
    go_wp2_with fail
    refine (Bits_calls r A len cap (p + 5 + 5) 4 bs _ Hr2.out HB2.out Hb.out hne (by omega) (by omega) (by omega) (by omega)).mono ?_
    rintro e w3 ⟨rfl, hr3, hg3⟩
    have Hg3 := Lib.hid (grown_trans Hg2.out hg3)
    have HB3 := Lib.hid (HB2.out.grown hg3 hne)
    have Hr3 : Hid (RdrAt w3 r A len cap (p + 14)) := hr3
    clear hg3 hr3
    have ha32 := numAt_lt bs p 5
    have hd32 := numAt_lt bs (p + 5) 5
    have hM16 := numAt_lt bs (p + 5 + 5) 4
    obtain ⟨a, ha⟩ : ∃ a, numAt bs p 5 = a := ⟨_, rfl⟩
    obtain ⟨d, hd⟩ : ∃ d, numAt bs (p + 5) 5 = d := ⟨_, rfl⟩
    obtain ⟨M, hM⟩ : ∃ M, numAt bs (p + 5 + 5) 4 = M := ⟨_, rfl⟩
    rw [ha, hd, hM]
    rw [ha] at ha32
    rw [hd] at hd32
    rw [hM] at hM16
    have Ha := Lib.hid ha
    have Hd := Lib.hid hd
    have HM : Hid (numAt bs (p + 10) 4 = M) := hM
    replace ha32 : a ≤ 31 := by omega
    replace hd32 : d ≤ 31 := by omega
    replace hM16 : M ≤ 15 := by omega
    clear ha hd hM
    by_cases hbig : 29 < a ∨ 29 < d
    · have hno := Lib.hid (getS_big (bs := bs) (T := 8 * len) (p := p) (by rw [Ha.out, Hd.out]; exact hbig))
      rcases Nat.lt_or_ge 29 a with hb2 | hb2
      · have t2 : (29 : Int) < (a : Int) := by omega
        go_wp2
        refine bodyPost_ret (v := .tuple #[.slice none 0 0, .slice none 0 0, .bool false]) (by simp [results, Tryd.results16, go_sem]) rfl ⟨.inr ⟨hno.out, rfl, _, h14, Hr3.out⟩, Hg3.out⟩
      · have t2 : (a : Int) ≤ 29 := by omega
        have t3 : (29 : Int) < (d : Int) := by omega
        clear hb2
        go_wp2
        refine bodyPost_ret (v := .tuple #[.slice none 0 0, .slice none 0 0, .bool false]) (by simp [results, Tryd.results16, go_sem]) rfl ⟨.inr ⟨hno.out, rfl, _, h14, Hr3.out⟩, Hg3.out⟩
    · have ha29 : a ≤ 29 := by omega
      have hd29 : d ≤ 29 := by omega
      clear hbig
      have hsz3 := Hg3.out.size
      have t2 : (a : Int) ≤ 29 := by omega
      have t3 : (d : Int) ≤ 29 := by omega
      have hsl := fun W => ord_slice W .u64 ((M : Int) + 4) (M + 4) (by omega) (by omega)
      go_wp2_with (at_make; refine wpList_mk1 (base := w3.heap.size) (n := 19) _ rfl _ _ rfl elIntN rfl rfl rfl rfl (by omega) (Nat.le_refl _) ?_; intro w4 hown4 hb4 hsz4)
      have Hown4 := Lib.hid hown4
      have Hr4 := Lib.hid (Hr3.out.keep hb4)
      have Hg4 := Lib.hid (grown_below Hg3.out hb4)
      clear hown4 hb4
      go_loopw [49] (fun i wr => ∃ k : Nat, k ≤ M + 4 ∧ i = .int .i64 k ∧ p + 14 + 3 * k ≤ 8 * len ∧ Hid (wr.ownsRow w3.heap.size 3 1 (.slice (some ⟨w3.heap.size, 0, none⟩) 19 19) 19 (ints .i64 (lensS bs (p + 14) k))) ∧ Hid (RdrAt wr r A len cap (p + 14 + 3 * k)) ∧ Hid (w.grownBy wr (some r))) (fun i _ => M + 4 - (intOf i).toNat)
      case atStart => exact ⟨0, by omega, rfl, by omega, Hown4.out, Hr4.out, Hg4.out⟩
      case round =>
        obtain ⟨k, hk, rfl, hkT, Hown, Hr, Hg⟩ := hrel
        obtain ⟨wr, hwr⟩ : ∃ W, W = wr := ⟨_, rfl⟩
        subst hwr
        by_cases hlt : k < M + 4
        · have z := HO.out.grown Hg.out hor k (by omega)
          have hol := ordL_lt k
          have hnx : lensS bs (p + 14) (k + 1) = (lensS bs (p + 14) k).set (ordL.getD k 0) (numAt bs (p + 14 + 3 * k) 3 : Nat) := rfl
          have hll := lensS_length bs (p + 14) k
          obtain ⟨oi, hoi⟩ : ∃ oi, oi = ordL.getD k 0 := ⟨_, rfl⟩
          rw [← hoi] at hol hnx z
          have Hnx := Lib.hid hnx
          have Hll := Lib.hid hll
          clear hnx hoi hll
          have i1 : (k : Int) < (M : Int) + 4 := by omega
          have i6 : (oi : Int) < 19 := by omega
          go_wp2_with fail
          refine (Bits_any r A len cap (p + 14 + 3 * k) 3 bs _ Hr.out (HB.out.grown Hg.out hne) Hb.out hne hlen hkT (by omega)).mono ?_
          rintro e w5 ⟨hx5, hg5⟩
          have Hg5 := Lib.hid (grown_trans Hg.out hg5)
          have Hown5 := Lib.hid (Hown.out.kept hg5 (.inr (own_ne Hr.out (by decide) Hown.out)))
          clear hg5
          rcases hx5 with ⟨h1, rfl, h2⟩ | ⟨h1, rfl, h2⟩
          · have Hr5 := Lib.hid h2
            have hgr := own_ne Hr5.out (by decide) Hown5.out
            have hgr : w3.heap.size ≠ r := fun e => hgr (by rw [← e]; rfl)
            have z0 := Hown5.out.cellAt oi (by omega)
            rw [ints_get (by rw [Hll.out]; exact hol)] at z0
            have f0 := Hown5.out.frozenAt oi
            have hx8 := numAt_lt bs (p + 14 + 3 * k) 3
            obtain ⟨X, hX⟩ : ∃ X, numAt bs (p + 14 + 3 * k) 3 = X := ⟨_, rfl⟩
            rw [hX] at hx8 ⊢
            rw [hX] at Hnx
            replace hx8 : X ≤ 7 := by omega
            clear h2 hX
            go_wp2
            go_roundw
            case rel =>
              have hfr : Fr w5 (w5.setCell ⟨w3.heap.size, oi, none⟩ (.int .i64 X)) [some w3.heap.size] := (Fr.refl _ _).set _ _ (.inl (by simp))
              refine ⟨k + 1, by omega, by go_num, by omega, ?_, Hr5.out.fr hfr (fun o ho e => by simp at ho; subst ho; cases e; exact hgr rfl), grown_fr Hg5.out hfr (fun o ho j e => by simp at ho; subst ho; cases e; exact hsz3)⟩
              have h9 := own_store Hown5.out oi (.int .i64 X)
              rw [← ints_set, ← Hnx.out] at h9
              exact h9
            case measure => simp [intOf]; omega
          · have hno := Lib.hid (getS_few (bs := bs) (T := 8 * len) (p := p) (by rw [HM.out]; omega))
            have Hr5 := Lib.hid h2
            clear h2
            go_wp2
            refine bodyPost_ret (v := .tuple #[.slice none 0 0, .slice none 0 0, .bool false]) (by simp [results, Tryd.results16, go_sem]) rfl ⟨.inr ⟨hno.out, rfl, _, hkT, Hr5.out⟩, Hg5.out⟩
        · obtain rfl : k = M + 4 := by omega
          have hxl := Lib.hid (lensS_length bs (p + 14) (M + 4))
          obtain ⟨xs, hxs⟩ : ∃ xs, xs = lensS bs (p + 14) (M + 4) := ⟨_, rfl⟩
          rw [← hxs] at Hown hxl
          have Hxs := Lib.hid hxs
          obtain ⟨_, _, e9, _, hrx⟩ := own_rd Hown.out
          cases e9
          have HRx := Lib.hid hrx
          clear hxs hrx
          go_wp2_with fail
          refine (New_calls _ 19 19 xs _ HRx.out (by omega)).mono ?_
          rintro e w6 ⟨hx6, hb6⟩
          have Hg6 := Lib.hid (grown_below Hg.out hb6)
          have Hr6 := Lib.hid (Hr.out.keep hb6)
          have hsr := Hr.out.lt
          clear hb6
          rcases hx6 with ⟨hr, rfl⟩ | ⟨hr, h, rfl, hcod⟩
          · have hno := Lib.hid (getS_bad (bs := bs) (T := 8 * len) (p := p) (by rw [HM.out, ← Hxs.out]; exact hr))
            clear hr
            go_wp2
            refine bodyPost_ret (v := .tuple #[.slice none 0 0, .slice none 0 0, .bool false]) (by simp [results, Tryd.results16, go_sem]) rfl ⟨.inr ⟨hno.out, rfl, _, hkT, Hr6.out⟩, Hg6.out⟩
          · have hgl := getS_list (bs := bs) (T := 8 * len) (p := p) (by omega) Ha.out Hd.out HM.out ha29 hd29 (by rw [← Hxs.out]; exact hr)
            rw [← Hxs.out] at hgl
            have hhr : h ≠ r := by obtain ⟨_, _, _, h2, _⟩ := hcod; omega
            have HC := Lib.hid hcod
            obtain ⟨n, hn⟩ : ∃ n, n = a + 257 + (d + 1) := ⟨_, rfl⟩
            obtain ⟨q0, hq0⟩ : ∃ q0, q0 = p + 14 + 3 * (M + 4) := ⟨_, rfl⟩
            rw [← hn, ← hq0] at hgl
            rw [← hq0] at Hr6
            have h258 : 258 ≤ n := by omega
            have hn1000 : n ≤ 1000 := by omega
            have e2 : n - (a + 257) = d + 1 := by omega
            have hq0T : q0 ≤ 8 * len := by omega
            have Hgl := Lib.hid hgl
            have sn : (a : Int) + 257 + (d : Int) + 1 = ((n : Nat) : Int) := by omega
            clear hr hcod hgl
            clear hn hq0
            go_wp2_with fail
            try rw [sn]
            refine (list_calls h r wr.heap.size A len cap q0 n xs bs _ HC.out (by rw [hxl.out]; omega) Hr6.out (HB.out.grown Hg6.out hne) Hb.out hne hlen (by omega) hhr (by omega)).mono ?_
            rintro e w7 ⟨hx7, hg7⟩
            have Hg7 := Lib.hid (grown_trans Hg6.out hg7)
            clear hg7
            rcases hx7 with ⟨l, q, v, hl, rfl, hown7, hr7⟩ | ⟨hl, rfl, q, hq, hr7⟩
            · have hln := (listS_len (out := []) (by simp) (by omega) hl)
              have hgo := Hgl.out
              rw [hl] at hgo
              obtain ⟨go, co, rfl, _, _, hco, hoc, _⟩ := own_form hown7 (by omega)
              have z := hoc 256 _ (ints_get (by omega))
              obtain ⟨_, _, e8, _, hro⟩ := own_rd hown7
              cases e8
              have Hro := Lib.hid hro
              have Hr7 := Lib.hid hr7
              have Hgo := Lib.hid hgo
              obtain ⟨hl1, hl2⟩ := hln
              obtain ⟨y, hy⟩ : ∃ y, rd l 256 = y := ⟨_, rfl⟩
              rw [hy] at z
              have Hy := Lib.hid hy
              clear hoc hro hy hown7 hr7 hgo
              by_cases hy0 : y = 0
              · have hno2 : getS bs (8 * len) p = none := by rw [Hgo.out]; simp [Hy.out, hy0]
                have Hno := Lib.hid hno2
                subst hy0
                clear hno2
                go_wp2
                refine bodyPost_ret (v := .tuple #[.slice none 0 0, .slice none 0 0, .bool false]) (by simp [results, Tryd.results16, go_sem]) rfl ⟨.inr ⟨Hno.out, rfl, _, hl2, Hr7.out⟩, Hg7.out⟩
              · have hyes : getS bs (8 * len) p = some (l.take (a + 257), l.drop (a + 257), q) := by rw [Hgo.out]; simp [Hy.out, hy0]
                have Hyes := Lib.hid hyes
                have d0 : (y == 0) = false := by simpa using hy0
                have s1 : ((a : Int) + 257).toNat = a + 257 := by omega
                have f1 := rd_front Hro.out (a + 257) (by omega)
                have f2 := rd_back Hro.out (a + 257) (by omega)
                have l1 : (l.take (a + 257)).length = a + 257 := by rw [List.length_take]; omega
                rw [e2] at f2
                have l2 : (l.drop (a + 257)).length = d + 1 := by rw [List.length_drop, hl1, e2]
                have F1 := Lib.hid f1
                have F2 := Lib.hid f2
                have L1 := Lib.hid l1
                have L2 := Lib.hid l2
                clear hyes f1 f2 l1 l2
                go_wp2
                go_region
                go_wp2
                refine bodyPost_ret (v := .tuple #[.slice (some ⟨go, 0, none⟩) (a + 257) (a + 257), .slice (some ⟨go, 0 + (a + 257), none⟩) (d + 1) (co - (a + 257)), .bool true]) (by simp [results, Tryd.results16, go_sem]) rfl ⟨.inl ⟨_, _, q, _, _, _, _, Hyes.out, by rw [L1.out, L2.out], ?_, ?_, ?_⟩, grown_below Hg7.out (Below.refl _ _).drew⟩
                · rw [L1.out]; exact F1.out.drew
                · rw [L2.out]; exact F2.out.drew
                · exact Hr7.out.keep (Below.refl _ _).drew
            · have hno2 : getS bs (8 * len) p = none := by rw [Hgl.out, hl]
              have Hno := Lib.hid hno2
              have Hr7 := Lib.hid hr7
              clear hno2 hr7
              go_wp2
              refine bodyPost_ret (v := .tuple #[.slice none 0 0, .slice none 0 0, .bool false]) (by simp [results, Tryd.results16, go_sem]) rfl ⟨.inr ⟨Hno.out, rfl, _, hq, Hr7.out⟩, Hg7.out⟩
end Go.Proofs.YtkjoncllnlmdgaaDoor
/-
  The walk of the law CodesGets.
-/
namespace Go.Proofs.YtkjoncllnlmdgaaDoor
open Go.RowKit

set_option maxHeartbeats 4000000 in
set_option maxRecDepth 100000 in
theorem CodesGets_walk (a : Option Addr) (len cap : Nat) (zs : List Int) (w : World) (hz : IsRow .u8 w a len cap zs) (hlen : len * 1 ≤ 140737488351232) (hO : OrdAt w) :
    Calls Tryd.prog 3 #[.slice a len cap] w fun e w' => e = .returned (.bool true) ∧ Below w.heap.size w w' := by
  obtain ⟨bs, hbs⟩ : ∃ bs, bs = zs.take len := ⟨_, rfl⟩
  have hB : Rd w .u8 a len bs := by rw [hbs]; exact hz.rd
  have hb : ∀ j, j < len → 0 ≤ rd bs j ∧ rd bs j ≤ 255 := by rw [hbs]; exact hz.u8
  have hA2 : a = none → len = 0 ∧ cap = 0 := by
    intro e
    rcases hz with ⟨_, h1, h2, _⟩ | ⟨x, rfl, _⟩
    · exact ⟨h1, h2⟩
    · cases e
  have hog : 0 < w.heap.size := World.block_lt_of_cell? _ _ (hO 0 (by omega))
  have HB := Lib.hid hB
  have Hb := Lib.hid hb
  have HA2 := Lib.hid hA2
  have HO := Lib.hid hO
  have Hog := Lib.hid hog
  clear hbs hz hB hb hA2 hO hog
  go_enter Tryd.func3, Tryd.ntmps3
  go_wp2_with fail
  refine (awake8_calls _).mono ?_
  rintro e w1 ⟨rfl, hb1⟩
  have H1 := Lib.hid hb1
  have HB1 := Lib.hid (HB.out.below hb1)
  have HO1 := Lib.hid (HO.out.below hb1)
  have hs1 := hb1.size
  clear hb1
  by_cases hl : len ≤ 500
  · go_wp2_with fail
    refine (BNew_calls a len cap bs _ HB1.out HA2.out (by omega)).mono ?_
    rintro e w2 ⟨r, B, c, rfl, hr2, hrd, hrow, hb2⟩
    have hs2 := hb2.size
    have H2 := Lib.hid (below_seq H1.out (Nat.le_refl _) hb2)
    have HB2 := Lib.hid (HB1.out.below hb2)
    have HO2 := Lib.hid (HO1.out.below hb2)
    have hor : 0 ≠ r := by have := Hog.out; omega
    have hneB : ∀ b o, B = some ⟨b, o, none⟩ → b ≠ r := fun b o e e2 => by
      subst e e2
      exact own_ne hrd (by decide) hrow rfl
    obtain ⟨B', c', e4, _, hbr⟩ := own_rd hrow
    cases e4
    have HneB := Lib.hid hneB
    have Hor := Lib.hid hor
    have Hrd2 := Lib.hid hrd
    have Hbr2 := Lib.hid hbr
    clear hneB hrd hbr hrow hb2 hor
    go_wp2_with fail
    refine (Get_calls r B len c 0 bs _ HO2.out Hor.out Hrd2.out Hbr2.out Hb.out HneB.out (by omega) (by omega)).mono ?_
    rintro e w3 ⟨hx, hg3⟩
    have HB3 := Lib.hid (Rd.apart HB1.out HB2.out hg3 (by omega))
    have H3 := Lib.hid (H2.out.grown hg3 H2.out.size (fun k hk => by cases hk; omega))
    have hs3 := hg3.size
    clear hg3
    rcases hx with ⟨l1, l2, q, A1, c1, A2, c2, hgs, rfl, hr1, hr2', hrq⟩ | ⟨hgs, rfl, _⟩
    · have Hgs := Lib.hid hgs
      have R1 := Lib.hid hr1
      have R2 := Lib.hid hr2'
      have Hrq := Lib.hid hrq
      clear hgs hr1 hr2' hrq
      go_wp2_with fail
      refine (Of_calls a len cap bs _ HB3.out Hb.out (by omega)).mono ?_
      rintro e w4 ⟨v4, rfl, ho4, hb4⟩
      have H4 := Lib.hid (below_seq H3.out (Nat.le_refl _) hb4)
      have R14 := Lib.hid (R1.out.below hb4)
      have R24 := Lib.hid (R2.out.below hb4)
      have Hrq4 := Lib.hid (Hrq.out.keep hb4)
      have hcap4 := own_cap ho4
      obtain ⟨A4, c4, rfl, hc4, hr4⟩ := own_rd ho4
      have hcap := hcap4 _ _ _ rfl
      have R4 := Lib.hid hr4
      clear hb4 ho4 hr4 hcap4
      go_wp2_with fail
      refine (refGet_calls A4 (8 * len) c4 0 (8 * len) bs _ R4.out (by omega) (by omega) (by omega) hc4 hcap).mono ?_
      rintro e w5 ⟨hy, hb5⟩
      have H5 := Lib.hid (below_seq H4.out (Nat.le_refl _) hb5)
      have R15 := Lib.hid (R14.out.below hb5)
      have R25 := Lib.hid (R24.out.below hb5)
      have Hrq5 := Lib.hid (Hrq4.out.keep hb5)
      clear hb5
      rcases hy with ⟨m1, m2, q', D1, d1, D2, d2, D3, d3, hgs2, rfl, hm1, hm2, hm3⟩ | ⟨hno, _⟩
      · have e0 := Hgs.out.symm.trans hgs2
        simp only [Option.some.injEq, Prod.mk.injEq] at e0
        obtain ⟨rfl, rfl, rfl⟩ := e0
        have M1 := Lib.hid hm1
        have M2 := Lib.hid hm2
        have hq := getS_at (by omega) hgs2
        have hn1 := getS_small hgs2
        obtain ⟨n1, hn1e⟩ : ∃ n, n = l1.length := ⟨_, rfl⟩
        obtain ⟨n2, hn2e⟩ : ∃ n, n = l2.length := ⟨_, rfl⟩
        rw [← hn1e, ← hn2e] at hn1
        rw [← hn1e] at R15 M1 ⊢
        rw [← hn2e] at R25 M2 ⊢
        clear hgs2 hm1 hm2 hm3 hn1e hn2e
        go_wp2_with fail
        refine (same8_calls A1 D1 n1 c1 d1 l1 _ R15.out M1.out (by omega)).mono ?_
        rintro e w6 ⟨rfl, hb6⟩
        have H6 := Lib.hid (below_seq H5.out (Nat.le_refl _) hb6)
        have R26 := Lib.hid (R25.out.below hb6)
        have M26 := Lib.hid (M2.out.below hb6)
        have Hrq6 := Lib.hid (Hrq5.out.keep hb6)
        clear hb6
        go_wp2_with fail
        refine (same8_calls A2 D2 n2 c2 d2 l2 _ R26.out M26.out (by omega)).mono ?_
        rintro e w7 ⟨rfl, hb7⟩
        have H7 := Lib.hid (below_seq H6.out (Nat.le_refl _) hb7)
        have Hrq7 := Lib.hid (Hrq6.out.keep hb7)
        clear hb7
        go_wp2_with fail
        refine (Left_calls r B len c q _ Hrq7.out (by omega) hq).mono ?_
        rintro e w8 ⟨rfl, hb8⟩
        have H8 := Lib.hid (below_seq H7.out (Nat.le_refl _) hb8)
        have sL : (8 : Int) * (len : Nat) - (q : Nat) = ((8 * len - q : Nat) : Int) := by omega
        clear hb8
        go_wp2
        go_ret
        exact ⟨rfl, H8.out⟩
      · rw [Hgs.out] at hno
        cases hno
    · have Hgs := Lib.hid hgs
      clear hgs
      go_wp2_with fail
      refine (Of_calls a len cap bs _ HB3.out Hb.out (by omega)).mono ?_
      rintro e w4 ⟨v4, rfl, ho4, hb4⟩
      have H4 := Lib.hid (below_seq H3.out (Nat.le_refl _) hb4)
      have hcap4 := own_cap ho4
      obtain ⟨A4, c4, rfl, hc4, hr4⟩ := own_rd ho4
      have hcap := hcap4 _ _ _ rfl
      have R4 := Lib.hid hr4
      clear hb4 ho4 hr4 hcap4
      go_wp2_with fail
      refine (refGet_calls A4 (8 * len) c4 0 (8 * len) bs _ R4.out (by omega) (by omega) (by omega) hc4 hcap).mono ?_
      rintro e w5 ⟨hy, hb5⟩
      have H5 := Lib.hid (below_seq H4.out (Nat.le_refl _) hb5)
      clear hb5
      rcases hy with ⟨m1, m2, q', D1, d1, D2, d2, D3, d3, hgs2, _⟩ | ⟨_, rfl⟩
      · rw [Hgs.out] at hgs2
        cases hgs2
      · go_wp2
        go_ret
        exact ⟨rfl, H5.out⟩
  · go_wp2_with fail
    refine (awake8_calls _).mono ?_
    rintro e w2 ⟨rfl, hb2⟩
    have H2 := Lib.hid (below_seq H1.out (Nat.le_refl _) hb2)
    clear hb2
    go_wp2
    go_ret
    exact ⟨rfl, H2.out⟩
end Go.Proofs.YtkjoncllnlmdgaaDoor
