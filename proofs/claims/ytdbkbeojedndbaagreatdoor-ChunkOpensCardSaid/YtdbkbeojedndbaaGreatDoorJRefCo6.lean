/-
  Texts joined into one file: Get, PackP, Last.
-/
import Derived.Test.YtdbkbeojedndbaaGreatDoorJRefCo5
import Derived.Test.YtdbkbeojedndbaaGreatDoorJRefCo1
import Derived.Deep.RegionHeld3
namespace Go.Proofs.YtdbkbeojedndbaaGreatDoor
open Go.RowKit



theorem OrdAt.grown {w w1 : World} {r : Nat} (h : OrdAt w) (hg : w.grownBy w1 (some r)) (hr : 0 ≠ r) : OrdAt w1 := fun j hj => hg.cell (h j hj) (by simpa using hr)
theorem OrdAt.below {w w1 : World} (h : OrdAt w) (hb : Below w.heap.size w w1) : OrdAt w1 := fun j hj => kept_cell hb (h j hj)
theorem Bits_any (r : Nat) (A : Option Addr) (len cap at' n : Nat) (bs : List Int) (w : World) (hR : RdrAt w r A len cap at') (hB : Rd w .u8 A len bs) (hb : ∀ j, j < len → 0 ≤ rd bs j ∧ rd bs j ≤ 255) (hne : ∀ b o, A = some ⟨b, o, none⟩ → b ≠ r) (hlen : len ≤ 1000000) (hat : at' ≤ 8 * len) (hn : n ≤ 60) :
    Calls Tryz.prog 43 #[.pointer (some ⟨r, 0, none⟩), .int .i64 n] w fun e w' => ((at' + n ≤ 8 * len ∧ e = .returned (.tuple #[(.int .u64 (numAt bs at' n : Nat)), .bool true]) ∧ RdrAt w' r A len cap (at' + n)) ∨ (8 * len < at' + n ∧ e = .returned (.tuple #[.int .u64 0, .bool false]) ∧ RdrAt w' r A len cap at')) ∧ w.grownBy w' (some r) := by
  rcases Nat.lt_or_ge (8 * len) (at' + n) with h | h
  · refine (BitsShort_calls r A len cap at' n w hR (by omega) hat hn h).mono ?_
    rintro e w1 ⟨rfl, hb1⟩
    exact ⟨.inr ⟨h, rfl, hR.keep hb1⟩, grown_below (grown_refl _ _) hb1⟩
  · refine (Bits_calls r A len cap at' n bs w hR hB hb hne (by omega) hat hn h).mono ?_
    rintro e w1 ⟨rfl, h1, h2⟩
    exact ⟨.inl ⟨h, rfl, h1⟩, h2⟩
set_option maxHeartbeats 4000000 in
set_option maxRecDepth 100000 in
theorem Get_calls (r : Nat) (A : Option Addr) (len cap p : Nat) (bs : List Int) (w : World) (hO : OrdAt w) (hor : 0 ≠ r) (hR : RdrAt w r A len cap p) (hB : Rd w .u8 A len bs) (hb : ∀ j, j < len → 0 ≤ rd bs j ∧ rd bs j ≤ 255) (hne : ∀ b o, A = some ⟨b, o, none⟩ → b ≠ r) (hlen : len ≤ 1000000) (hp : p ≤ 8 * len) :
    Calls Tryz.prog 42 #[.pointer (some ⟨r, 0, none⟩)] w fun e w' =>
      ((∃ l1 l2 q A1 c1 A2 c2, getS bs (8 * len) p = some (l1, l2, q) ∧ e = .returned (.tuple #[.slice A1 l1.length c1, .slice A2 l2.length c2, .bool true]) ∧ Rd w' .i64 A1 l1.length l1 ∧ Rd w' .i64 A2 l2.length l2 ∧ RdrAt w' r A len cap q) ∨
       (getS bs (8 * len) p = none ∧ e = .returned (.tuple #[.slice none 0 0, .slice none 0 0, .bool false]) ∧ ∃ q, q ≤ 8 * len ∧ RdrAt w' r A len cap q)) ∧ w.grownBy w' (some r) := by
  have HO := Lib.hid hO
  have HR := Lib.hid hR
  have HB := Lib.hid hB
  have Hb := Lib.hid hb
  clear hO hR hB hb
  go_enter Tryz.func42, Tryz.ntmps42
  go_wp2_with fail
  refine (Bits_any r A len cap p 5 bs _ HR.out HB.out Hb.out hne hlen hp (by omega)).mono ?_
  rintro e w1 ⟨hx1, hg1⟩
  have Hg1 := Lib.hid hg1
  have HB1 := Lib.hid (HB.out.grown hg1 hne)
  clear hg1
  rcases Nat.lt_or_ge (8 * len) (p + 14) with h14 | h14
  · have hno := Lib.hid (getS_short (bs := bs) (T := 8 * len) (p := p) h14)
    have key : ∃ (a : Nat) (ba : Bool) (q1 : Nat), a ≤ 31 ∧ e = .returned (.tuple #[.int .u64 a, .bool ba]) ∧ RdrAt w1 r A len cap q1 ∧ q1 ≤ 8 * len ∧ (8 * len < q1 + 5 ∨ (q1 = p + 5)) := by
      rcases hx1 with ⟨h1, rfl, h2⟩ | ⟨h1, rfl, h2⟩
      · exact ⟨_, _, _, by have := numAt_lt bs p 5; omega, rfl, h2, h1, .inr rfl⟩
      · exact ⟨0, _, _, by omega, rfl, h2, hp, .inl h1⟩
    obtain ⟨a, ba, q1, ha, rfl, hr1, hq1, hqq⟩ := key
    have Hr1 := Lib.hid hr1
    clear hx1 hr1
    go_wp2_with fail
    refine (Bits_any r A len cap q1 5 bs _ Hr1.out HB1.out Hb.out hne hlen hq1 (by omega)).mono ?_
    rintro e w2 ⟨hx2, hg2⟩
    have Hg2 := Lib.hid (grown_trans Hg1.out hg2)
    have HB2 := Lib.hid (HB1.out.grown hg2 hne)
    clear hg2
    have key : ∃ (d : Nat) (bd : Bool) (q2 : Nat), d ≤ 31 ∧ e = .returned (.tuple #[.int .u64 d, .bool bd]) ∧ RdrAt w2 r A len cap q2 ∧ q2 ≤ 8 * len ∧ (8 * len < q2 + 4 ∨ (8 * len < q2 + 5 ∧ d = 0)) := by
      rcases hx2 with ⟨h1, rfl, h2⟩ | ⟨h1, rfl, h2⟩
      · exact ⟨_, _, _, by have := numAt_lt bs q1 5; omega, rfl, h2, h1, .inl (by omega)⟩
      · exact ⟨0, _, _, by omega, rfl, h2, hq1, .inr ⟨h1, rfl⟩⟩
    obtain ⟨d, bd, q2, hd, rfl, hr2, hq2, hqq2⟩ := key
    have Hr2 := Lib.hid hr2
    clear hx2 hr2
    go_wp2_with fail
    refine (Bits_any r A len cap q2 4 bs _ Hr2.out HB2.out Hb.out hne hlen hq2 (by omega)).mono ?_
    rintro e w3 ⟨hx3, hg3⟩
    have Hg3 := Lib.hid (grown_trans Hg2.out hg3)
    have HB3 := Lib.hid (HB2.out.grown hg3 hne)
    clear hg3
    rcases hx3 with ⟨h1, rfl, h2⟩ | ⟨h1, rfl, h2⟩
    · obtain rfl : d = 0 := by omega
      have Hr3 := Lib.hid h2
      have hM16 := numAt_lt bs q2 4
      obtain ⟨M, hM⟩ : ∃ M, numAt bs q2 4 = M := ⟨_, rfl⟩
      rw [hM] at hM16 ⊢
      replace hM16 : M ≤ 15 := by omega
      clear h2 hM
      by_cases ha29 : 29 < a
      · have t2 : (29 : Int) < (a : Int) := by omega
        go_wp2
        refine bodyPost_ret (v := .tuple #[.slice none 0 0, .slice none 0 0, .bool false]) (by simp [results, Tryz.results42, go_sem]) rfl ⟨.inr ⟨hno.out, rfl, _, by omega, Hr3.out⟩, Hg3.out⟩
      · have hsz3 := Hg3.out.size
        have t2 : (a : Int) ≤ 29 := by omega
        have hsl := fun W => ord_slice W .u64 ((M : Int) + 4) (M + 4) (by omega) (by omega)
        go_wp2_with (at_make; refine wpList_mk1 (base := w3.heap.size) (n := 19) _ rfl _ _ rfl elIntN rfl rfl rfl rfl (by omega) (Nat.le_refl _) ?_; intro w4 hown4 hb4 hsz4)
        have HO4 := Lib.hid ((HO.out.grown Hg3.out hor).below hb4)
        have Hr4 := Lib.hid (Hr3.out.keep hb4)
        have Hg4 := Lib.hid (grown_below Hg3.out hb4)
        have HB4 := Lib.hid (HB3.out.below hb4)
        clear hown4 hb4
        have i1 : (0 : Int) < (M : Int) + 4 := by omega
        go_loopw [49] (fun i wr => i = .int .i64 0 ∧ w4 = wr) (fun _ _ => 0)
        case atStart => exact ⟨rfl, rfl⟩
        case round =>
          obtain ⟨rfl, rfl⟩ := hrel
          have z := HO4.out 0 (by omega)
          go_wp2_with fail
          refine (BitsShort_calls r A len cap (q2 + 4) 3 _ Hr4.out (by omega) h1 (by omega) (by omega)).mono ?_
          rintro e w5 ⟨rfl, hb5⟩
          have Hg5 := Lib.hid (grown_below Hg4.out hb5)
          have Hr5 := Lib.hid (Hr4.out.keep hb5)
          clear hb5
          go_wp2
          refine bodyPost_ret (v := .tuple #[.slice none 0 0, .slice none 0 0, .bool false]) (by simp [results, Tryz.results42, go_sem]) rfl ⟨.inr ⟨hno.out, rfl, _, h1, Hr5.out⟩, Hg5.out⟩
    · have Hr3 := Lib.hid h2
      clear h2
      go_wp2
      refine bodyPost_ret (v := .tuple #[.slice none 0 0, .slice none 0 0, .bool false]) (by simp [results, Tryz.results42, go_sem]) rfl ⟨.inr ⟨hno.out, rfl, _, hq2, Hr3.out⟩, Hg3.out⟩
  · rcases hx1 with ⟨h1, rfl, h2⟩ | ⟨h1, rfl, h2⟩
    case inr => omega
    have Hr1 := Lib.hid h2
    clear h1 h2
    go_wp2_with fail
    refine (Bits_calls r A len cap (p + 5) 5 bs _ Hr1.out HB1.out Hb.out hne (by omega) (by omega) (by omega) (by omega)).mono ?_
    rintro e w2 ⟨rfl, hr2, hg2⟩
    have Hg2 := Lib.hid (grown_trans Hg1.out hg2)
    have HB2 := Lib.hid (HB1.out.grown hg2 hne)
    have Hr2 := Lib.hid hr2
    clear hg2 hr2
    go_wp2_with fail
    refine (Bits_calls r A len cap (p + 5 + 5) 4 bs _ Hr2.out HB2.out Hb.out hne (by omega) (by omega) (by omega) (by omega)).mono ?_
    rintro e w3 ⟨rfl, hr3, hg3⟩
    have Hg3 := Lib.hid (grown_trans Hg2.out hg3)
    have HB3 := Lib.hid (HB2.out.grown hg3 hne)
    have Hr3 : Hid (RdrAt w3 r A len cap (p + 14)) := hr3
    clear hg3 hr3
    have ha32 := numAt_lt bs p 5
    have hd32 := numAt_lt bs (p + 5) 5
    have hM16 := numAt_lt bs (p + 5 + 5) 4
    obtain ⟨a, ha⟩ : ∃ a, numAt bs p 5 = a := ⟨_, rfl⟩
    obtain ⟨d, hd⟩ : ∃ d, numAt bs (p + 5) 5 = d := ⟨_, rfl⟩
    obtain ⟨M, hM⟩ : ∃ M, numAt bs (p + 5 + 5) 4 = M := ⟨_, rfl⟩
    rw [ha, hd, hM]
    rw [ha] at ha32
    rw [hd] at hd32
    rw [hM] at hM16
    have Ha := Lib.hid ha
    have Hd := Lib.hid hd
    have HM : Hid (numAt bs (p + 10) 4 = M) := hM
    replace ha32 : a ≤ 31 := by omega
    replace hd32 : d ≤ 31 := by omega
    replace hM16 : M ≤ 15 := by omega
    clear ha hd hM
    by_cases hbig : 29 < a ∨ 29 < d
    · have hno := Lib.hid (getS_big (bs := bs) (T := 8 * len) (p := p) (by rw [Ha.out, Hd.out]; exact hbig))
      rcases Nat.lt_or_ge 29 a with hb2 | hb2
      · have t2 : (29 : Int) < (a : Int) := by omega
        go_wp2
        refine bodyPost_ret (v := .tuple #[.slice none 0 0, .slice none 0 0, .bool false]) (by simp [results, Tryz.results42, go_sem]) rfl ⟨.inr ⟨hno.out, rfl, _, h14, Hr3.out⟩, Hg3.out⟩
      · have t2 : (a : Int) ≤ 29 := by omega
        have t3 : (29 : Int) < (d : Int) := by omega
        clear hb2
        go_wp2
        refine bodyPost_ret (v := .tuple #[.slice none 0 0, .slice none 0 0, .bool false]) (by simp [results, Tryz.results42, go_sem]) rfl ⟨.inr ⟨hno.out, rfl, _, h14, Hr3.out⟩, Hg3.out⟩
    · have ha29 : a ≤ 29 := by omega
      have hd29 : d ≤ 29 := by omega
      clear hbig
      have hsz3 := Hg3.out.size
      have t2 : (a : Int) ≤ 29 := by omega
      have t3 : (d : Int) ≤ 29 := by omega
      have hsl := fun W => ord_slice W .u64 ((M : Int) + 4) (M + 4) (by omega) (by omega)
      go_wp2_with (at_make; refine wpList_mk1 (base := w3.heap.size) (n := 19) _ rfl _ _ rfl elIntN rfl rfl rfl rfl (by omega) (Nat.le_refl _) ?_; intro w4 hown4 hb4 hsz4)
      have Hown4 := Lib.hid hown4
      have Hr4 := Lib.hid (Hr3.out.keep hb4)
      have Hg4 := Lib.hid (grown_below Hg3.out hb4)
      clear hown4 hb4
      go_loopw [49] (fun i wr => ∃ k : Nat, k ≤ M + 4 ∧ i = .int .i64 k ∧ p + 14 + 3 * k ≤ 8 * len ∧ Hid (wr.ownsRow w3.heap.size 3 1 (.slice (some ⟨w3.heap.size, 0, none⟩) 19 19) 19 (ints .i64 (lensS bs (p + 14) k))) ∧ Hid (RdrAt wr r A len cap (p + 14 + 3 * k)) ∧ Hid (w.grownBy wr (some r))) (fun i _ => M + 4 - (intOf i).toNat)
      case atStart => exact ⟨0, by omega, rfl, by omega, Hown4.out, Hr4.out, Hg4.out⟩
      case round =>
        obtain ⟨k, hk, rfl, hkT, Hown, Hr, Hg⟩ := hrel
        obtain ⟨wr, hwr⟩ : ∃ W, W = wr := ⟨_, rfl⟩
        subst hwr
        by_cases hlt : k < M + 4
        · have z := HO.out.grown Hg.out hor k (by omega)
          have hol := ordL_lt k
          have hnx : lensS bs (p + 14) (k + 1) = (lensS bs (p + 14) k).set (ordL.getD k 0) (numAt bs (p + 14 + 3 * k) 3 : Nat) := rfl
          have hll := lensS_length bs (p + 14) k
          obtain ⟨oi, hoi⟩ : ∃ oi, oi = ordL.getD k 0 := ⟨_, rfl⟩
          rw [← hoi] at hol hnx z
          have Hnx := Lib.hid hnx
          have Hll := Lib.hid hll
          clear hnx hoi hll
          have i1 : (k : Int) < (M : Int) + 4 := by omega
          have i6 : (oi : Int) < 19 := by omega
          go_wp2_with fail
          refine (Bits_any r A len cap (p + 14 + 3 * k) 3 bs _ Hr.out (HB.out.grown Hg.out hne) Hb.out hne hlen hkT (by omega)).mono ?_
          rintro e w5 ⟨hx5, hg5⟩
          have Hg5 := Lib.hid (grown_trans Hg.out hg5)
          have Hown5 := Lib.hid (Hown.out.kept hg5 (.inr (own_ne Hr.out (by decide) Hown.out)))
          clear hg5
          rcases hx5 with ⟨h1, rfl, h2⟩ | ⟨h1, rfl, h2⟩
          · have Hr5 := Lib.hid h2
            have hgr := own_ne Hr5.out (by decide) Hown5.out
            have hgr : w3.heap.size ≠ r := fun e => hgr (by rw [← e]; rfl)
            have z0 := Hown5.out.cellAt oi (by omega)
            rw [ints_get (by rw [Hll.out]; exact hol)] at z0
            have f0 := Hown5.out.frozenAt oi
            have hx8 := numAt_lt bs (p + 14 + 3 * k) 3
            obtain ⟨X, hX⟩ : ∃ X, numAt bs (p + 14 + 3 * k) 3 = X := ⟨_, rfl⟩
            rw [hX] at hx8 ⊢
            rw [hX] at Hnx
            replace hx8 : X ≤ 7 := by omega
            clear h2 hX
            go_wp2
            go_roundw
            case rel =>
              have hfr : Fr w5 (w5.setCell ⟨w3.heap.size, oi, none⟩ (.int .i64 X)) [some w3.heap.size] := (Fr.refl _ _).set _ _ (.inl (by simp))
              refine ⟨k + 1, by omega, by go_num, by omega, ?_, Hr5.out.fr hfr (fun o ho e => by simp at ho; subst ho; cases e; exact hgr rfl), grown_fr Hg5.out hfr (fun o ho j e => by simp at ho; subst ho; cases e; exact hsz3)⟩
              have h9 := own_store Hown5.out oi (.int .i64 X)
              rw [← ints_set, ← Hnx.out] at h9
              exact h9
            case measure => simp [intOf]; omega
          · have hno := Lib.hid (getS_few (bs := bs) (T := 8 * len) (p := p) (by rw [HM.out]; omega))
            have Hr5 := Lib.hid h2
            clear h2
            go_wp2
            refine bodyPost_ret (v := .tuple #[.slice none 0 0, .slice none 0 0, .bool false]) (by simp [results, Tryz.results42, go_sem]) rfl ⟨.inr ⟨hno.out, rfl, _, hkT, Hr5.out⟩, Hg5.out⟩
        · obtain rfl : k = M + 4 := by omega
          have hxl := Lib.hid (lensS_length bs (p + 14) (M + 4))
          obtain ⟨xs, hxs⟩ : ∃ xs, xs = lensS bs (p + 14) (M + 4) := ⟨_, rfl⟩
          rw [← hxs] at Hown hxl
          have Hxs := Lib.hid hxs
          obtain ⟨_, _, e9, _, hrx⟩ := own_rd Hown.out
          cases e9
          have HRx := Lib.hid hrx
          clear hxs hrx
          go_wp2_with fail
          refine (New_calls _ 19 19 xs _ HRx.out (by omega)).mono ?_
          rintro e w6 ⟨hx6, hb6⟩
          have Hg6 := Lib.hid (grown_below Hg.out hb6)
          have Hr6 := Lib.hid (Hr.out.keep hb6)
          have hsr := Hr.out.lt
          clear hb6
          rcases hx6 with ⟨hr, rfl⟩ | ⟨hr, h, rfl, hcod⟩
          · have hno := Lib.hid (getS_bad (bs := bs) (T := 8 * len) (p := p) (by rw [HM.out, ← Hxs.out]; exact hr))
            clear hr
            go_wp2
            refine bodyPost_ret (v := .tuple #[.slice none 0 0, .slice none 0 0, .bool false]) (by simp [results, Tryz.results42, go_sem]) rfl ⟨.inr ⟨hno.out, rfl, _, hkT, Hr6.out⟩, Hg6.out⟩
          · have hgl := getS_list (bs := bs) (T := 8 * len) (p := p) (by omega) Ha.out Hd.out HM.out ha29 hd29 (by rw [← Hxs.out]; exact hr)
            rw [← Hxs.out] at hgl
            have hhr : h ≠ r := by obtain ⟨_, _, _, h2, _⟩ := hcod; omega
            have HC := Lib.hid hcod
            obtain ⟨n, hn⟩ : ∃ n, n = a + 257 + (d + 1) := ⟨_, rfl⟩
            obtain ⟨q0, hq0⟩ : ∃ q0, q0 = p + 14 + 3 * (M + 4) := ⟨_, rfl⟩
            rw [← hn, ← hq0] at hgl
            rw [← hq0] at Hr6
            have h258 : 258 ≤ n := by omega
            have hn1000 : n ≤ 1000 := by omega
            have e2 : n - (a + 257) = d + 1 := by omega
            have hq0T : q0 ≤ 8 * len := by omega
            have Hgl := Lib.hid hgl
            have sn : (a : Int) + 257 + (d : Int) + 1 = ((n : Nat) : Int) := by omega
            clear hr hcod hgl
            clear hn hq0
            go_wp2_with fail
            try rw [sn]
            refine (list_calls h r wr.heap.size A len cap q0 n xs bs _ HC.out (by rw [hxl.out]; omega) Hr6.out (HB.out.grown Hg6.out hne) Hb.out hne hlen (by omega) hhr (by omega)).mono ?_
            rintro e w7 ⟨hx7, hg7⟩
            have Hg7 := Lib.hid (grown_trans Hg6.out hg7)
            clear hg7
            rcases hx7 with ⟨l, q, v, hl, rfl, hown7, hr7⟩ | ⟨hl, rfl, q, hq, hr7⟩
            · have hln := (listS_len (out := []) (by simp) (by omega) hl)
              have hgo := Hgl.out
              rw [hl] at hgo
              obtain ⟨go, co, rfl, _, _, hco, hoc, _⟩ := own_form hown7 (by omega)
              have z := hoc 256 _ (ints_get (by omega))
              obtain ⟨_, _, e8, _, hro⟩ := own_rd hown7
              cases e8
              have Hro := Lib.hid hro
              have Hr7 := Lib.hid hr7
              have Hgo := Lib.hid hgo
              obtain ⟨hl1, hl2⟩ := hln
              obtain ⟨y, hy⟩ : ∃ y, rd l 256 = y := ⟨_, rfl⟩
              rw [hy] at z
              have Hy := Lib.hid hy
              clear hoc hro hy hown7 hr7 hgo
              by_cases hy0 : y = 0
              · have hno2 : getS bs (8 * len) p = none := by rw [Hgo.out]; simp [Hy.out, hy0]
                have Hno := Lib.hid hno2
                subst hy0
                clear hno2
                go_wp2
                refine bodyPost_ret (v := .tuple #[.slice none 0 0, .slice none 0 0, .bool false]) (by simp [results, Tryz.results42, go_sem]) rfl ⟨.inr ⟨Hno.out, rfl, _, hl2, Hr7.out⟩, Hg7.out⟩
              · have hyes : getS bs (8 * len) p = some (l.take (a + 257), l.drop (a + 257), q) := by rw [Hgo.out]; simp [Hy.out, hy0]
                have Hyes := Lib.hid hyes
                have d0 : (y == 0) = false := by simpa using hy0
                have s1 : ((a : Int) + 257).toNat = a + 257 := by omega
                have f1 := rd_front Hro.out (a + 257) (by omega)
                have f2 := rd_back Hro.out (a + 257) (by omega)
                have l1 : (l.take (a + 257)).length = a + 257 := by rw [List.length_take]; omega
                rw [e2] at f2
                have l2 : (l.drop (a + 257)).length = d + 1 := by rw [List.length_drop, hl1, e2]
                have F1 := Lib.hid f1
                have F2 := Lib.hid f2
                have L1 := Lib.hid l1
                have L2 := Lib.hid l2
                clear hyes f1 f2 l1 l2
                go_wp2
                go_region
                go_wp2
                refine bodyPost_ret (v := .tuple #[.slice (some ⟨go, 0, none⟩) (a + 257) (a + 257), .slice (some ⟨go, 0 + (a + 257), none⟩) (d + 1) (co - (a + 257)), .bool true]) (by simp [results, Tryz.results42, go_sem]) rfl ⟨.inl ⟨_, _, q, _, _, _, _, Hyes.out, by rw [L1.out, L2.out], ?_, ?_, ?_⟩, grown_below Hg7.out (Below.refl _ _).drew⟩
                · rw [L1.out]; exact F1.out.drew
                · rw [L2.out]; exact F2.out.drew
                · exact Hr7.out.keep (Below.refl _ _).drew
            · have hno2 : getS bs (8 * len) p = none := by rw [Hgl.out, hl]
              have Hno := Lib.hid hno2
              have Hr7 := Lib.hid hr7
              clear hno2 hr7
              go_wp2
              refine bodyPost_ret (v := .tuple #[.slice none 0 0, .slice none 0 0, .bool false]) (by simp [results, Tryz.results42, go_sem]) rfl ⟨.inr ⟨Hno.out, rfl, _, hq, Hr7.out⟩, Hg7.out⟩
end Go.Proofs.YtdbkbeojedndbaaGreatDoor
namespace Go.Proofs.YtdbkbeojedndbaaGreatDoor
open Go.RowKit

def pk (f : Nat → Nat) : Nat → Nat
 | 0 => 0
 | k + 1 => pk f k + f k * 2 ^ k
theorem pk_lt {f : Nat → Nat} (h : ∀ i, f i ≤ 1) (k : Nat) : pk f k < 2 ^ k := by
 induction k with
 | zero => simp [pk]
 | succ k ih =>
  have := Nat.mul_le_mul_right (2 ^ k) (h k)
  simp only [pk, Nat.pow_succ]
  omega
theorem pk_congr {f g : Nat → Nat} {k : Nat} (h : ∀ i, i < k → f i = g i) : pk f k = pk g k := by
 induction k with
 | zero => rfl
 | succ k ih =>
  simp only [pk]
  rw [ih (fun i hi => h i (by omega)), h k (by omega)]
theorem pk_bit {f : Nat → Nat} (h : ∀ i, f i ≤ 1) : ∀ (k i : Nat), i < k → pk f k / 2 ^ i % 2 = f i := by
 intro k
 induction k with
 | zero => intro i hi; omega
 | succ k ih =>
  intro i hi
  simp only [pk]
  rcases Nat.lt_or_ge i k with g | g
  ·have e : f k * 2 ^ k = (f k * 2 ^ (k - i - 1) * 2) * 2 ^ i := by
    rw [Nat.mul_assoc, Nat.mul_assoc, ← Nat.pow_succ', ← Nat.pow_add]
    congr 2
    omega
   rw [e, Nat.add_mul_div_right _ _ (Nat.pow_pos (by omega)), Nat.add_mul_mod_self_right]
   exact ih i g
  ·obtain rfl : i = k := by omega
   rw [Nat.add_mul_div_right _ _ (Nat.pow_pos (by omega)), Nat.div_eq_of_lt (pk_lt h i), Nat.zero_add]
   have := h i
   omega
theorem numAt_pk (bs : List Int) (p k : Nat) : numAt bs p k = pk (fun i => bitAt bs (p + i)) k := by
 induction k with
 | zero => rfl
 | succ k ih => simp only [numAt, pk, ih]
def Bit01 (L : List Int) : Prop := ∀ x ∈ L, x = 0 ∨ x = 1
theorem Bit01.rd {L : List Int} (h : Bit01 L) (i : Nat) : Go.Proofs.YtdbkbeojedndbaaGreatDoor.rd L i = 0 ∨ Go.Proofs.YtdbkbeojedndbaaGreatDoor.rd L i = 1 := by
 rcases Nat.lt_or_ge i L.length with g | g
 ·rw [rd_getElem g]; exact h _ (List.getElem_mem _)
 ·left
  unfold Go.Proofs.YtdbkbeojedndbaaGreatDoor.rd
  rw [List.getD_eq_getElem?_getD, List.getElem?_eq_none g]
  rfl
theorem Bit01.app {a b : List Int} (ha : Bit01 a) (hb : Bit01 b) : Bit01 (a ++ b) := fun x hx => (List.mem_append.1 hx).elim (ha x) (hb x)
theorem rd_out {L : List Int} {i : Nat} (h : L.length ≤ i) : rd L i = 0 := by
 unfold rd
 rw [List.getD_eq_getElem?_getD, List.getElem?_eq_none h]
 rfl
def packAt (L : List Int) (j : Nat) : Nat := pk (fun i => (rd L (8 * j + i)).toNat) 8
theorem packAt_lt {L : List Int} (h : Bit01 L) (j : Nat) : packAt L j < 256 := pk_lt (fun i => by rcases h.rd (8 * j + i) with e | e <;> rw [e] <;> decide) 8
def packB (L : List Int) : List Int := (List.range ((L.length + 7) / 8)).map fun j => (packAt L j : Int)
theorem packB_length (L : List Int) : (packB L).length = (L.length + 7) / 8 := by simp [packB]
theorem rd_packB {L : List Int} {j : Nat} (h : j < (L.length + 7) / 8) : rd (packB L) j = (packAt L j : Int) := by
 rw [rd_getElem (by rw [packB_length]; exact h)]
 simp [packB]
theorem bitAt_packB {L : List Int} (h : Bit01 L) {i : Nat} (hi : i < 8 * ((L.length + 7) / 8)) : bitAt (packB L) i = (rd L i).toNat := by
 unfold bitAt
 rw [rd_packB (by omega), Int.toNat_natCast]
 unfold packAt
 rw [pk_bit (fun i' => by rcases h.rd (8 * (i / 8) + i') with e | e <;> rw [e] <;> decide) 8 (i % 8) (by omega), show 8 * (i / 8) + i % 8 = i from by omega]
theorem packB_byte {L : List Int} (h : Bit01 L) (j : Nat) (hj : j < (L.length + 7) / 8) : 0 ≤ rd (packB L) j ∧ rd (packB L) j ≤ 255 := by
 have := packAt_lt h j
 rw [rd_packB hj]
 omega
theorem numAt_byte {L : List Int} (h : Bit01 L) {j : Nat} (hj : j < (L.length + 7) / 8) : numAt (packB L) (8 * j) 8 = packAt L j := by
 rw [numAt_pk]
 exact pk_congr (fun i hi => bitAt_packB h (by omega))
theorem packB_new {L : List Int} {x : Int} (hx : x = 0 ∨ x = 1) (h8 : L.length % 8 = 0) : packB (L ++ [x]) = packB L ++ [x] := by
 apply ext_rd (by rw [List.length_append, packB_length, packB_length, List.length_append]; simp; omega)
 intro j hj
 rw [packB_length, List.length_append, List.length_cons, List.length_nil] at hj
 rw [rd_packB (by rw [List.length_append]; simpa using hj)]
 rcases Nat.lt_or_ge j (L.length / 8) with g | g
 ·rw [rd_appL (by rw [packB_length]; omega), rd_packB (by omega)]
  unfold packAt
  rw [pk_congr (fun i hi => by rw [rd_appL (by omega)])]
 ·have e : j = (packB L).length + 0 := by rw [packB_length]; omega
  rw [e, rd_appR, ← e]
  have e8 : 8 * j = L.length := by rw [e, packB_length]; omega
  unfold packAt
  have key : ∀ i, i < 8 → (rd (L ++ [x]) (8 * j + i)).toNat = if i = 0 then x.toNat else 0 := by
   intro i hi
   rw [e8, rd_appR]
   by_cases h0 : i = 0
   ·subst h0; rfl
   ·rw [if_neg h0, rd_out (by simp; omega)]; rfl
  rw [pk_congr key]
  rcases hx with rfl | rfl <;> rfl
theorem packB_in {L : List Int} {x : Int} (_hL : Bit01 L) (hx : x = 0 ∨ x = 1) (h8 : L.length % 8 ≠ 0) : packB (L ++ [x]) = (packB L).set (L.length / 8) ((packAt L (L.length / 8) : Int) + x * 2 ^ (L.length % 8)) ∧ packAt L (L.length / 8) < 2 ^ (L.length % 8) := by
 have hlow : packAt L (L.length / 8) = pk (fun i => (rd L (8 * (L.length / 8) + i)).toNat) (L.length % 8) := by
  unfold packAt
  have key : ∀ d k, 8 * (L.length / 8) + k ≥ L.length → pk (fun i => (rd L (8 * (L.length / 8) + i)).toNat) (k + d) = pk (fun i => (rd L (8 * (L.length / 8) + i)).toNat) k := by
   intro d k hk
   induction d with
   | zero => rfl
   | succ d ih =>
    show pk _ (k + d) + (rd L (8 * (L.length / 8) + (k + d))).toNat * 2 ^ (k + d) = _
    rw [ih, rd_out (by omega)]
    simp
  have := key (8 - L.length % 8) (L.length % 8) (by omega)
  rwa [show L.length % 8 + (8 - L.length % 8) = 8 from by omega] at this
 refine ⟨?_, by rw [hlow]; exact pk_lt (fun i => by rcases _hL.rd (8 * (L.length / 8) + i) with e | e <;> rw [e] <;> decide) _⟩
 apply ext_rd (by rw [List.length_set, packB_length, packB_length, List.length_append, List.length_cons, List.length_nil]; omega)
 intro j hj
 rw [packB_length, List.length_append, List.length_cons, List.length_nil] at hj
 rw [rd_packB (by rw [List.length_append]; simpa using hj), rd_set (by rw [packB_length]; omega)]
 by_cases g : L.length / 8 = j
 ·rw [if_pos g, hlow, g]
  have key : ∀ d, L.length % 8 + 1 + d ≤ 8 → pk (fun i => (rd (L ++ [x]) (8 * j + i)).toNat) (L.length % 8 + 1 + d) = pk (fun i => (rd L (8 * j + i)).toNat) (L.length % 8) + x.toNat * 2 ^ (L.length % 8) := by
   intro d hd
   induction d with
   | zero =>
    show pk _ (L.length % 8) + (rd (L ++ [x]) (8 * j + L.length % 8)).toNat * 2 ^ (L.length % 8) = _
    rw [pk_congr (g := fun i => (rd L (8 * j + i)).toNat) (fun i hi => by rw [rd_appL (by omega)])]
    have e : 8 * j + L.length % 8 = L.length + 0 := by omega
    rw [e, rd_appR]
    rfl
   | succ d ih =>
    show pk _ (L.length % 8 + 1 + d) + (rd (L ++ [x]) (8 * j + (L.length % 8 + 1 + d))).toNat * 2 ^ (L.length % 8 + 1 + d) = _
    rw [ih (by omega), rd_out (by rw [List.length_append, List.length_cons, List.length_nil]; omega)]
    simp
  have h9 := key (7 - L.length % 8) (by omega)
  rw [show L.length % 8 + 1 + (7 - L.length % 8) = 8 from by omega] at h9
  unfold packAt
  rw [h9, Int.natCast_add, Int.natCast_mul, Int.natCast_pow]
  rcases hx with rfl | rfl <;> rfl
 ·rw [if_neg g, rd_packB (by omega)]
  unfold packAt
  rw [pk_congr (fun i hi => by rw [rd_appL (by omega)])]
theorem lowOf_bit (x n : Nat) : Bit01 (lowOf x n) := fun y hy => by
 obtain ⟨i, _, rfl⟩ := List.mem_map.1 hy
 have := Nat.mod_lt (x / 2 ^ i) (show 0 < 2 by omega)
 omega
theorem rd_lowOf {x n i : Nat} (h : i < n) : rd (lowOf x n) i = ((x / 2 ^ i % 2 : Nat) : Int) := by
 rw [rd_getElem (by rw [lowOf_length]; exact h)]
 simp [lowOf]
end Go.Proofs.YtdbkbeojedndbaaGreatDoor
namespace Go.Proofs.YtdbkbeojedndbaaGreatDoor
open Go.RowKit

def LastQ (P : Program) (ops : Array Oper) (on : Oper) (Q : Exit → Act → World → Prop) : Exit → Act → World → Prop
 | .normal, a, w => wpList P ops Q [on] a w
 | .panic _, _, _ => False
 | e, a, w => Q e a w
theorem LastQ.imp {P : Program} {ops : Array Oper} {on : Oper} {Q : Exit → Act → World → Prop} : ∀ (e : Exit) (a : Act) (w : World), e ≠ .normal → LastQ P ops on Q e a w → Q e a w := fun e a w hn h => by
 cases e <;> first | exact absurd rfl hn | exact h | exact (h : False).elim
theorem upon_monoQ {P : Program} {o : Oper} {a : Act} {next : Act → World → Prop} {Q Q' : Exit → Act → World → Prop} (hQ : ∀ e a w, e ≠ .normal → Q' e a w → Q e a w) : ∀ r, o.upon P a next Q' r → o.upon P a next Q r := by
 intro r h
 rcases r with ⟨n, w'⟩ | ⟨hh, w'⟩
 ·cases n with
  | enter f args =>
   refine Calls.mono h fun e w'' he => ?_
   cases e with
   | returned u => exact he
   | panicked c => exact hQ _ _ _ (by simp) he
   | outgrown => obtain ⟨a, w, hq⟩ := he; exact ⟨a, w, hQ _ _ _ (by simp) hq⟩
  | _ => exact h
 ·cases hh with
  | panic v => exact hQ _ _ _ (by simp) h
  | _ => exact h
theorem wpOp_monoQ {P : Program} {ops : Array Oper} {i : Nat} {K : Act → World → Prop} {a : Act} {w : World} {Q Q' : Exit → Act → World → Prop} (hQ : ∀ e a w, e ≠ .normal → Q' e a w → Q e a w) (h : wpOp P ops Q' i K a w) : wpOp P ops Q i K a w := by
 unfold wpOp at *
 split
 ·simpa [*] using h
 ·rename_i o ho
  simp only [ho] at h
  split
  ·rename_i hw
   simp only [hw, if_true] at h
   rcases h with h | ⟨h1, a', w', h2⟩
   ·exact .inl (upon_monoQ hQ _ h)
   ·exact .inr ⟨h1, a', w', hQ _ _ _ (by simp) h2⟩
  ·rename_i hw
   simp only [hw] at h
   exact h
def lastB (md : Region.Mode) (ops : Array Oper) (n : Nat) : Bool :=
 decide (ops.size = n + 1) && (List.range ops.size).all (fun i => ((ops[i]?).map fun o => o.after.all fun e => !Region.binds md e || decide (e.on < i)).getD false) &&
  (List.range n).all (fun i => (List.range (n + 1)).any fun j => decide (i < j) && ((ops[j]?).map fun o => o.after.any fun e => Region.binds md e && e.on == i).getD false)
structure LastOk (md : Region.Mode) (ops : Array Oper) (n : Nat) (on : Oper) : Prop where
 hn : ops[n]? = some on
 size : ops.size = n + 1
 down : ∀ i o, ops[i]? = some o → ∀ e ∈ o.after, Region.binds md e = true → e.on < i
 all : ∀ i, i < n → ∃ j o, i < j ∧ j ≤ n ∧ ops[j]? = some o ∧ ∃ e ∈ o.after, Region.binds md e = true ∧ e.on = i
def Closed (md : Region.Mode) (ops : Array Oper) (listed : Array Bool) : Prop := ∀ j o, ops[j]? = some o → listed.getD j false = true → ∀ e ∈ o.after, Region.binds md e = true → listed.getD e.on false = true
theorem Closed.set {md : Region.Mode} {ops : Array Oper} {listed : Array Bool} (hc : Closed md ops listed) {i : Nat} (hi : i ∈ Region.ready md ops listed) : Closed md ops (listed.setIfInBounds i true) := by
 obtain ⟨_, oi, hoi, hall⟩ := mem_ready.1 hi
 intro j o hj hl e he hb
 by_cases hij : i = j
 ·subst hij
  have : o = oi := Option.some.inj (hj.symm.trans hoi)
  subst this
  exact getD_set_true (hall e he hb)
 ·rw [getD_set_ne false hij] at hl
  exact getD_set_true (hc j o hj hl e he hb)
theorem LastOk.of {md : Region.Mode} {ops : Array Oper} {n : Nat} {on : Oper} (hn : ops[n]? = some on) (h : lastB md ops n = true) : LastOk md ops n on := by
 unfold lastB at h
 simp only [Bool.and_eq_true, decide_eq_true_eq] at h
 obtain ⟨⟨h1, h2⟩, h3⟩ := h
 refine ⟨hn, h1, fun i o ho e he hb => ?_, fun i hi => ?_⟩
 ·have hlt : i < ops.size := (Array.getElem?_eq_some_iff.1 ho).1
  have q := List.all_eq_true.1 h2 i (List.mem_range.2 hlt)
  rw [ho, Option.map_some, Option.getD_some] at q
  have q2 := Array.all_eq_true_iff_forall_mem.1 q e he
  rw [hb] at q2
  simpa using q2
 ·have q := List.all_eq_true.1 h3 i (List.mem_range.2 hi)
  obtain ⟨j, hj, q1⟩ := List.any_eq_true.1 q
  simp only [Bool.and_eq_true, decide_eq_true_eq] at q1
  have hjn := List.mem_range.1 hj
  have ho : ops[j]? = some (ops[j]'(by omega)) := Array.getElem?_eq_getElem (by omega)
  have q3 := q1.2
  rw [ho, Option.map_some, Option.getD_some] at q3
  obtain ⟨e, he, q2⟩ := Array.any_eq_true'.1 q3
  simp only [Bool.and_eq_true, beq_iff_eq] at q2
  exact ⟨j, _, q1.1, by omega, ho, e, he, q2.1, q2.2⟩
theorem LastOk.listed {md : Region.Mode} {ops : Array Oper} {n : Nat} {on : Oper} (L : LastOk md ops n on) {listed : Array Bool} (hs : listed.size = ops.size) (hr : ∀ i ∈ Region.ready md ops listed, i = n) : ∀ i, i < n → listed.getD i false = true := by
 intro i
 induction i using Nat.strongRecOn with
 | _ i ih =>
  intro hi
  cases e : listed.getD i false with
  | true => rfl
  | false =>
   exfalso
   have hsz := L.size
   have ho : ops[i]? = some (ops[i]'(by omega)) := Array.getElem?_eq_getElem (by omega)
   have : i ∈ Region.ready md ops listed := by
    rw [mem_ready]
    refine ⟨?_, _, ho, fun e' he hb => ih e'.on (L.down i _ ho e' he hb) (by have := L.down i _ ho e' he hb; omega)⟩
    have hil : i < listed.size := by omega
    simp [hil] at e ⊢
    exact e
   have := hr i this
   omega
theorem LastOk.end' {md : Region.Mode} {ops : Array Oper} {n : Nat} {on : Oper} (L : LastOk md ops n on) {listed : Array Bool} (hs : listed.size = ops.size) (hn : listed.getD n true = false) (h : ∀ i, i < n → listed.getD i false = true) : Region.ready md ops listed = [n] ∧ Region.ready md ops (listed.setIfInBounds n true) = [] := by
 have hmem : ∀ j, j ∈ Region.ready md ops listed ↔ j = n := by
  intro j
  rw [mem_ready]
  constructor
  ·rintro ⟨h1, o, ho, _⟩
   have hlt : j < ops.size := (Array.getElem?_eq_some_iff.1 ho).1
   rcases Nat.lt_or_ge j n with h2 | h2
   ·have h3 := h j h2
    have hj : j < listed.size := by omega
    simp [hj] at h1 h3
    rw [h1] at h3
    cases h3
   ·have := L.size; omega
  ·rintro rfl
   exact ⟨hn, on, L.hn, fun e he hb => h _ (L.down _ _ L.hn e he hb)⟩
 constructor
 ·have hnd : (Region.ready md ops listed).Nodup := (List.nodup_range).sublist (by unfold Region.ready; exact List.filter_sublist)
  generalize Region.ready md ops listed = l at *
  match l, hmem, hnd with
  | [], hm, _ => exact absurd ((hm n).2 rfl) (by simp)
  | [x], hm, _ => rw [(hm x).1 (by simp)]
  | x :: y :: r, hm, hnd =>
   have e1 := (hm x).1 (by simp)
   have e2 := (hm y).1 (by simp)
   simp [e1, e2] at hnd
 ·rw [List.eq_nil_iff_forall_not_mem]
  intro j hj
  have h1 := hj
  rw [mem_ready] at h1
  obtain ⟨h1, o, ho, _⟩ := h1
  have hlt : j < ops.size := (Array.getElem?_eq_some_iff.1 ho).1
  have hjs : j < (listed.setIfInBounds n true).size := by simp; omega
  by_cases e : n = j
  ·subst e
   simp at h1
  ·rw [getD_set_ne true e] at h1
   have h3 := h j (by have := L.size; omega)
   have hj2 : j < listed.size := by omega
   simp [hj2] at h1 h3
   rw [h1] at h3
   cases h3
theorem wpAny_of_last {P : Program} {md : Region.Mode} {ops : Array Oper} {n : Nat} {on : Oper} {Q : Exit → Act → World → Prop} {S : World → Prop} (L : LastOk md ops n on) :
  ∀ (fuel : Nat) (listed : Array Bool) (a : Act) (w : World), listed.size = ops.size → listed.getD n true = false → Closed md ops listed → wpAnyH P md ops (LastQ P ops on Q) S fuel (listed.setIfInBounds n true) a w → wpAny P md ops Q (fuel + 1) listed a w := by
 have fin : ∀ (fuel : Nat) (listed : Array Bool) (a : Act) (w : World), listed.size = ops.size → listed.getD n true = false → (∀ i, i < n → listed.getD i false = true) → LastQ P ops on Q .normal a w → wpAny P md ops Q (fuel + 1) listed a w := by
  intro fuel listed a w hs hn hl h
  obtain ⟨r1, r2⟩ := L.end' hs hn hl
  refine ⟨fun h0 => (by rw [r1] at h0; cases h0), fun i hi => ?_⟩
  rw [r1] at hi
  have hin : i = n := by simpa using hi
  subst hin
  have hw : wpOp P ops Q i (wpList P ops Q []) a w := by unfold wpOp; simp only [L.hn]; exact h
  refine wpOp_mono (fun a' w' h' => ?_) hw
  cases fuel with
  | zero => exact ⟨r2, h'⟩
  | succ f => exact ⟨fun _ => h', fun j hj => by rw [r2] at hj; cases hj⟩
 have emp : ∀ (listed : Array Bool), listed.size = ops.size → Region.ready md ops (listed.setIfInBounds n true) = [] → ∀ i, i < n → listed.getD i false = true := by
  intro listed hs hr
  exact L.listed hs (fun i hi => by
   apply Classical.byContradiction
   intro hne
   have := ready_mono hi hne
   rw [hr] at this
   cases this)
 intro fuel
 induction fuel with
 | zero =>
  intro listed a w hs hn _ h
  exact fin 0 listed a w hs hn (emp listed hs h.1) h.2
 | succ fuel ih =>
  intro listed a w hs hn hc h
  by_cases hr : Region.ready md ops (listed.setIfInBounds n true) = []
  ·exact fin (fuel + 1) listed a w hs hn (emp listed hs hr) (h.1 hr)
  ·refine ⟨fun h0 => ?_, fun i hi => ?_⟩
   ·exfalso
    have hl := L.listed hs (fun i hi => by rw [h0] at hi; cases hi)
    rw [(L.end' hs hn hl).1] at h0
    cases h0
   ·by_cases hin : i = n
    ·subst hin
     exfalso
     have hl : ∀ d j, i - j = d → j < i → listed.getD j false = true := by
      intro d
      induction d using Nat.strongRecOn with
      | _ d ihd =>
       intro j hd hj
       obtain ⟨j', o, h1, h2, ho, e, he, hb, rfl⟩ := L.all j hj
       rcases Nat.lt_or_ge j' i with h3 | h3
       ·exact hc j' o ho (ihd (i - j') (by omega) j' rfl h3) e he hb
       ·obtain rfl : j' = i := by omega
        obtain ⟨_, o', ho', hall⟩ := mem_ready.1 hi
        have : o' = o := Option.some.inj (ho'.symm.trans ho)
        subst this
        exact hall e he hb
     exact hr (L.end' hs hn (fun j hj => hl _ j rfl hj)).2
    ·have h1 := wpOp_monoQ LastQ.imp (h.2 i (ready_mono hi hin))
     refine wpOp_mono (fun a' w' h' => ih (listed.setIfInBounds i true) a' w' (by simpa using hs) (by rw [getD_set_ne true hin]; exact hn) (hc.set hi) ?_) h1
     rw [Array.setIfInBounds_comm _ _ hin]
     exact h'.2
theorem wp_region_last {P : Program} {ops : Array Oper} {Q : Exit → Act → World → Prop} {S : World → Prop} {id n : Nat} {on : Oper} {a : Act} {w : World} (hm : P.follows .mixedOrders = true) (hn : ops[n]? = some on) (hB : lastB .any ops n = true) (hS : S w.drew)
  (h : S w.drew → wpAnyH P .any ops (LastQ P ops on Q) S n ((Array.replicate ops.size false).setIfInBounds n true) a w.drew) : (Code.region id ops true).wp P Q a w := by
 have L := LastOk.of hn hB
 refine wp_region_any hm ?_
 have h1 := wpAny_of_last L n (Array.replicate ops.size false) a w.drew (by simp) (by have := L.size; simp [show n < ops.size by omega]) (fun j o _ hl => (by
  rcases Nat.lt_or_ge j ops.size with h' | h'
  ·simp [h'] at hl
  ·simp [h'] at hl)) (h hS)
 rw [L.size] at h1 ⊢
 exact h1
end Go.Proofs.YtdbkbeojedndbaaGreatDoor
