/-
  Texts joined into one file: OnceW, Lens.
-/
import Derived.Test.YtdbkbeojedndbaaGreatDoorJRefCo15
import Derived.Test.YtdbkbeojedndbaaGreatDoorJRefCo13
import Derived.Test.YtdbkbeojedndbaaGreatDoorJRefCo6
import Derived.Deep.Cut
import Derived.Deep.CutRange
import Derived.Deep.CutBlock
import Derived.Deep.DeepCutAuto
import Derived.Deep.LoopGhost
namespace Go.Proofs.YtdbkbeojedndbaaGreatDoor
open Go.RowKit

theorem Pop_to (h n : Nat) (va vw : Value) (flat wait wait1 : List Int) (a : Int) (w : World) (H : NodesAt w h va vw n flat wait) (hx : ∀ j, j < wait.length → 0 ≤ rd wait j ∧ rd wait j < n) (hn : n ≤ 1000000) (hl : wait.length ≤ 1000000) (h0 : 0 < wait.length) (e1 : rd (popM (ltF' flat) wait) (wait.length - 1) = a) (e2 : wait1 = (popM (ltF' flat) wait).take (wait.length - 1)) :
  Calls Tryz.prog 99 #[nv h] w fun e w' => e = .returned (.iface 3 (.int .i64 a)) ∧ ∃ vw', NodesAt w' h va vw' n flat wait1 ∧ vw'.ownBlock = vw.ownBlock ∧ Fr w w' [some h, vw.ownBlock] := by
 subst e2
 rw [← e1]
 exact Pop_calls h n va vw flat wait w H hx hn hl h0
set_option maxHeartbeats 4000000 in
set_option maxRecDepth 200000 in
theorem once_calls (A : Option Addr) (n cap : Nat) (ws : List Int) (w : World) (hR : Rd w .i64 A n ws) (hn : n ≤ 100000) (hw : ∀ x ∈ ws, 0 ≤ x) (hsum : ws.sum ≤ 4611686018427387904) :
  Calls Tryz.prog 77 #[.slice A n cap] w fun e w' => ∃ v, e = .returned v ∧ w'.ownsRow w.heap.size 3 1 v n (ints .i64 (onceM ws)) ∧ Below w.heap.size w w' := by
 have HR := Lib.hid hR
 have hlen := Lib.hid hR.1
 have Hw := Lib.hid hw
 clear hR hw
 go_enter Tryz.func77, Tryz.ntmps77
 go_wp2_with (at_make; refine wpList_mk1 (base := w.heap.size) (n := n) _ rfl _ _ rfl elIntN rfl rfl rfl rfl (by omega) (Nat.le_refl _) ?_; intro w4 hown4 hb4 hsz4)
 have Hown4 := Lib.hid hown4
 have Hb4 := Lib.hid hb4
 clear hown4 hb4
 go_loopw [5, 17] (fun x i wr => ∃ (k : Nat) (va vw vs : Value) (flat wait sy : List Int), vs = x ∧ k ≤ n ∧ i = .int .i64 k ∧ Hid (LInv ws k flat sy wait) ∧ Hid (OnceSt w wr (w.heap.size + 1) w.heap.size n n va vw vs sy.length flat wait sy)) (fun _ i _ => n - (intOf i).toNat)
 case atStart =>
  refine ⟨0, .slice none 0 0, .slice none 0 0, .slice none 0 0, [], [], [], rfl, by omega, rfl, LInv.start ws, ?_⟩
  have hs4 := Hb4.out.size
  rw [← hsz4]
  refine ⟨⟨heap_alloc_new _ _, World.ownsRow_nil _ _ _ _, World.ownsRow_nil _ _ _ _⟩, (own_base0 Hown4.out).alloc _, World.ownsRow_nil _ _ _ _, below_new Hb4.out (Nat.le_refl _) _, hs4, Nat.le_refl _, ?_, ?_, ?_, ?_, ?_, ?_⟩
  all_goals (intro k hk; simp [Value.ownBlock] at hk)
 case round =>
  obtain ⟨k, va, vw, vs, flat, wait, sy, rfl, hk, rfl, HL, HS⟩ := hrel
  have hsyl : sy.length ≤ n := by
   have h1 := posTo_le ws k
   have h2 : sy.length = (posTo ws k).length := by rw [HL.out.syE]; simp
   omega
  have hwl : wait.length = sy.length := by rw [HL.out.wtE]; simp
  have hwn : wait.length ≤ n := by omega
  have Hwl := Lib.hid hwl
  clear hwl
  by_cases hlt : k < n
  ·obtain ⟨b, o, rfl, hcx⟩ := HR.out.2 (by omega)
   have z := kept_cell HS.out.bel (hcx k hlt)
   clear hcx
   by_cases hx : 0 < rd ws k
   ·have c0 := HS.out.nodes.c0
    have c1 := HS.out.nodes.c1
    have f0 := HS.out.nodes.frozen 0
    have f1 := HS.out.nodes.frozen 1
    have hh1 := HS.out.nodes.lt
    obtain ⟨A1, p1, rfl⟩ := own_slice HS.out.nodes.all
    obtain ⟨A2, p2, rfl⟩ := own_slice HS.out.nodes.wait
    obtain ⟨i0, hi0, hz0, hz1, hz2⟩ := info_parts elIntN.info
    have Hne := Lib.hid HS.out.nodes.wh
    go_upto_region 8 with fail
    go_cut [] from 24 to 37 (fun wx => ∃ vw', Hid (OnceSt w wx (w.heap.size + 1) w.heap.size n n (.slice A1 sy.length p1) vw' vs sy.length flat (wait ++ [(sy.length : Int)]) sy))
    case first =>
     go_region_law
      ((refine step_append_lies _ (by rfl) _ _ _ (by rfl) 0 3 i0 (.int .i64 0) 1 8 elIntN.und hi0 hz0 hz1 hz2 rfl (by omega) (.slice A2 wait.length p2) wait.length _ (by rfl) (HS.out.nodes.wait.alloc _) ⟨wr.heap.size, 0, none⟩ 1 1 [.int .i64 sy.length] (by rfl) rfl (news_at _ _ _) (by simp [Value.oneCell']) (by omega) (by unfold maxLen; omega) (by omega) (Nat.zero_le _) (wr.heap.size + 1) (by simp) ?_; intro g cap w1 hown1 hgrow hat hlt; have q1 := hgrow.cell (kept_new c1 _) (fun e => Hne.out (w.heap.size + 1) e.symm rfl); have q2 := (hgrow.frozen_far ⟨w.heap.size + 1, 1, none⟩ (by simp; omega) (fun e => Hne.out (w.heap.size + 1) e.symm rfl)).trans (kept_new_f f1 hh1 _)))
     all_goals
      go_wp2
      go_meet
      have FA : Fr wr w1 [(Value.slice A2 wait.length p2).ownBlock] := ((Fr.refl wr _).alloc _ |>.drew).trans (Fr.ofGrown hgrow) (fun o ho => .inl ho)
      obtain ⟨hN, hF⟩ := HS.out.nodes.pushed hown1 FA
      exact ⟨_, HS.out.turn hN hF (.inl rfl) (hat.elim (fun e => .inl e.symm) (fun e => .inr (fun k hk => by simp [Value.ownBlock] at hk; omega)))⟩
    case rest =>
     obtain ⟨vw', HS2⟩ := hcut
     clear c0 c1 f0 f1 z hh1 hi0 hz0 hz1 hz2 HS Hne
     have c0 := HS2.out.nodes.c0
     have f0 := HS2.out.nodes.frozen 0
     have hh1 := HS2.out.nodes.lt
     obtain ⟨i1, hi0, hz0, hz1, hz2⟩ := info_parts elNode.info
     have Hne := Lib.hid HS2.out.nodes.ah
     go_upto_region 9 with fail
     go_cut [] from 38 to 53 (fun wx => ∃ va', Hid (OnceSt w wx (w.heap.size + 1) w.heap.size n n va' vw' vs (sy.length + 1) (flat ++ [rd ws k, (sy.length : Int), -1, -1]) (wait ++ [(sy.length : Int)]) sy))
     case first =>
      rename_i wq _
      go_region_law
       ((refine step_append_lies _ (by rfl) _ _ _ (by rfl) 0 163 i1 (.agg #[.int .i64 0, .int .i64 0, .int .i64 0, .int .i64 0]) 4 32 elNode.und hi0 hz0 hz1 hz2 rfl (by omega) (.slice A1 sy.length p1) sy.length _ (by rfl) (HS2.out.nodes.all.alloc _) ⟨_, 0, none⟩ 1 1 [.int .i64 (rd ws k), .int .i64 sy.length, .int .i64 (-1), .int .i64 (-1)] (by rfl) rfl (news_at _ _ _) (by simp [Value.oneCell']) (by omega) (by unfold maxLen; omega) (by omega) (Nat.zero_le _) _ rfl ?_; intro g cap w1 hown1 hgrow hat hlt; have q1 := hgrow.cell (kept_new c0 _) (fun e => Hne.out (w.heap.size + 1) e.symm rfl); have q2 := (hgrow.frozen_far ⟨w.heap.size + 1, 0, none⟩ (by simp; omega) (fun e => Hne.out (w.heap.size + 1) e.symm rfl)).trans (kept_new_f f0 hh1 _)))
      all_goals
       go_wp2
       go_meet
       have FA := ((Fr.refl _ [(Value.slice A1 sy.length p1).ownBlock]).alloc _ |>.drew).trans (Fr.ofGrown hgrow) (fun o ho => .inl ho)
       obtain ⟨hN, hF⟩ := HS2.out.nodes.noded hown1 FA
       exact ⟨_, HS2.out.turn hN hF (hat.elim (fun e => .inl e.symm) (fun e => .inr (fun k hk => by simp [Value.ownBlock] at hk e; omega))) (.inl rfl)⟩
     case rest =>
      obtain ⟨va', HS3⟩ := hcut
      clear c0 f0 hh1 hi0 hz0 hz1 hz2 HS2 Hne
      obtain ⟨A3, p3, rfl⟩ := own_slice HS3.out.syms
      go_wp2_with (at_builtin; refine wpList_app3 rfl _ _ rfl elIntN HS3.out.syms rfl rfl rfl rfl rfl (by omega) (Nat.zero_le _) ?_; intro g cap w1 hown1 hfr hat hlt)
      go_roundw
      case rel =>
       have HL2 := HL.out.hit hx
       refine ⟨k + 1, va', vw', .slice (some ⟨g, 0, none⟩) (sy.length + 1) cap, _, _, _, rfl, by omega, by go_num, HL2, ?_⟩
       rw [List.length_append]
       refine HS3.out.grow ?_ hfr (hat.elim (fun e => .inl e.symm) (fun e => .inr (fun k hk => by simp [Value.ownBlock] at hk; omega)))
       rw [List.length_append, ints_append]
       exact hown1
      case measure => simp [intOf]; omega
   ·go_wp2
    go_roundw
    case rel => exact ⟨k + 1, va, vw, vs, flat, wait, sy, rfl, by omega, by go_num, HL.out.miss hx, HS.out⟩
    case measure => simp [intOf]; omega
  ·obtain rfl : k = n := by omega
   have c0 := HS.out.nodes.c0
   have HLn : Hid (LInv ws ws.length flat sy wait) := by rw [hlen.out]; exact HL.out
   obtain ⟨A1, p1, rfl⟩ := own_slice HS.out.nodes.all
   by_cases h0 : sy.length = 0
   ·have hnil : onceM ws = List.replicate k 0 := by
     have h2 : (posTo ws ws.length).length = 0 := by have := HLn.out.syE; rw [this] at h0; simpa using h0
     apply List.ext_getElem (by rw [onceM_length, List.length_replicate, hlen.out])
     intro s q1 q2
     have : depIn (rootOf ws) s = none := by
      rw [depIn_none, (rootOf_syms ws).mem_iff, List.length_eq_zero_iff.1 h2]
      simp
     simp [onceM, this]
    have Hnil := Lib.hid hnil
    clear hnil
    go_wp2
    go_ret
    refine ⟨_, rfl, ?_, HS.out.bel⟩
    rw [Hnil.out]
    exact own_raise HS.out.out (fun k hk => by simp [Value.ownBlock] at hk; omega)
   ·have hwr : ∀ j, j < wait.length → 0 ≤ rd wait j ∧ rd wait j < (sy.length : Int) := fun j hj => by
     rw [rd_getElem hj]
     have e : wait[j] = (j : Int) := by simp [HL.out.wtE]
     rw [e]
     have := Hwl.out
     omega
    have Hwr := Lib.hid hwr
    clear hwr
    go_wp2_with fail
    refine (Init_calls (w.heap.size + 1) sy.length _ vw flat wait _ HS.out.nodes Hwr.out (by omega) (by omega)).mono ?_
    rintro e w5 ⟨rfl, hN5, hf5⟩
    have hHS5 := HS.out.turn hN5 (hf5.mono (fun o ho => by simp at ho ⊢; simp [ho])) (.inl rfl) (.inl rfl)
    obtain ⟨I1, I2⟩ := initM_spec (ltF_ord flat) wait.length (wait.length / 2) wait rfl (heapOn_half _ _ _)
    obtain ⟨L0, hM0⟩ := HLn.out.merge Hw.out (by omega) I2 (by rw [I2.length_eq]; exact I1)
    have HM0 := Lib.hid hM0
    have HS5 := Lib.hid hHS5
    clear hN5 hf5 hHS5 I1 I2 hM0 HS HL Hwl Hwr h0 hwn hsyl c0
    go_wp2
    go_loopw [] (fun wr => ∃ (f N : Nat) (L : List (Nat × HT)) (va vw : Value) (flat wait : List Int), Hid (MInv ws f L N flat sy wait) ∧ Hid (OnceSt w wr (w.heap.size + 1) w.heap.size k k va vw vs N flat wait sy)) (fun wr => waitLen (w.heap.size + 1) wr)
    case atStart => exact ⟨_, _, L0, _, _, _, _, HM0.out, HS5.out⟩
    case round =>
     obtain ⟨f, N, L, va, vw, flat, wait, HM, HS⟩ := hrel
     have hcnt := HM.out.cnt
     have hwL := HM.out.wlen
     have hpos := HM.out.pos
     have hwl2 : wait.length ≤ 200000 := by have := hlen.out; omega
     have hN2 : N ≤ 200000 := by have := hlen.out; omega
     clear hcnt hwL
     by_cases h1 : 1 < wait.length
     ·obtain ⟨a, b, f', L', wait1, wait2, e1, e2, e3, e4, e5, e6, e7, ha, hb, r1, r2, s0, sa, sb, ss, e8, HM2⟩ := HM.out.step h1
      have E1 := Lib.hid e1
      have E2 := Lib.hid e2
      have E3 := Lib.hid e3
      have E4 := Lib.hid e4
      have E5 := Lib.hid e5
      have E6 := Lib.hid e6
      have E7 := Lib.hid e7
      have E8 := Lib.hid e8
      have R1 := Lib.hid r1
      have R2 := Lib.hid r2
      have HM2 := Lib.hid HM2
      have hl1 : 0 < wait1.length := by omega
      have hl2 : wait1.length ≤ 200000 := by omega
      clear e1 e2 e3 e4 e5 e6 e7 e8 r1 r2
      go_wp2_with fail
      refine (Len_calls (w.heap.size + 1) N va vw flat wait _ HS.out.nodes).mono ?_
      rintro e w2 ⟨rfl, rfl⟩
      have ta : ∀ (W : World) (x : Int), Sem.run Tryz.prog (Instr.typeAssert (.iface 3 (.int .i64 x)) 20 3 false) W = .ok (.int .i64 x) W := fun W x => by kernel_rfl
      go_upto_region 16 with fail
      go_cut [8, 9] (fun x y wx => x = .int .i64 a ∧ y = .int .i64 b ∧ ∃ vw', Hid (OnceSt w wx (w.heap.size + 1) w.heap.size k k va vw' vs N flat wait2 sy))
      case first =>
       go_region_held3 (fun _ => True) (trivial)
        ((first
         | (go_at_call 99; ((with_reducible refine (Pop_to (w.heap.size + 1) N va vw flat wait wait1 a _ (HS.out.keep (Below.refl _ _).drew).nodes HM.out.rng (by omega) (by omega) (by omega) E3.out E2.out).mono ?_)); rintro e w5 ⟨rfl, vw2, hN5, hat5, hf5⟩)
         | (go_at_call 99; ((with_reducible refine (Pop_to (w.heap.size + 1) N va vw2 flat wait1 wait2 b _ hN5 R1.out (by omega) (by omega) hl1 E6.out E5.out).mono ?_)); rintro e w6 ⟨rfl, vw3, hN6, hat6, hf6⟩)))
       all_goals
        go_wp2
        go_meet
        refine ⟨rfl, rfl, vw3, ?_⟩
        have hf7 : Fr wr w6 [some (w.heap.size + 1), vw.ownBlock] := (((Fr.refl wr _).drew).sub hf5 (fun o ho => ho)).sub hf6 (fun o ho => by rw [hat5] at ho; exact ho)
        have hf8 : Fr wr w6 [some (w.heap.size + 1), va.ownBlock, vw.ownBlock] := hf7.mono (fun o ho => by simp at ho ⊢; rcases ho with h | h <;> simp [h])
        exact HS.out.turn hN6 hf8 (.inl rfl) (.inl (hat6.trans hat5))
      case rest =>
       obtain ⟨rfl, rfl, vw3, HS3⟩ := hcut
       have c0 := HS3.out.nodes.c0
       have f0 := HS3.out.nodes.frozen 0
       have hh1 := HS3.out.nodes.lt
       have hfl : flat.length = N * 4 := HM.out.len
       obtain ⟨ga, ca, rfl, _, _, hca, hacell, _⟩ := own_form HS3.out.nodes.all (by omega)
       have xa := hacell (a * 4) _ (ints_get (by omega))
       have xb := hacell (b * 4) _ (ints_get (by omega))
       have sw : IntKind.i64.wrap (rd flat (a * 4) + rd flat (b * 4)) = rd flat (a * 4) + rd flat (b * 4) := IntWalk.i64_in _ (by omega)
       obtain ⟨i1, hi0, hz0, hz1, hz2⟩ := info_parts elNode.info
       have Hne := Lib.hid HS3.out.nodes.ah
       clear hacell hfl
       go_upto_region 17 with fail
       go_cut [] (fun wx => ∃ va', Hid (OnceSt w wx (w.heap.size + 1) w.heap.size k k va' vw3 vs (N + 1) (flat ++ [rd flat (a * 4) + rd flat (b * 4), (N : Int), (a : Int), (b : Int)]) wait2 sy))
       case first =>
        refine wp_region_last (n := 34) (on := ⟨_, _, _, _, _, _⟩) (S := fun W => W.cell? ⟨w.heap.size + 1, 0, none⟩ = some (.slice (some ⟨ga, 0, none⟩) N ca)) (by kernel_rfl) rfl (by kernel_rfl) (c0) (fun hHeld => ?_)
        refine' wpAnyH_take (i := 0) (oi := ⟨_, _, _, _, _, _⟩) rfl (by kernel_rfl) (by kernel_rfl) (by kernel_rfl) (fun _ _ _ h => h) (Or.inl ⟨by rfl, ?a0⟩) (by assumption) ?b0
        case a0 => (intro w hSw; (try dsimp only at hSw); go_simp; try with_reducible rfl)
        try simp only [Act.put, List.setIfInBounds_toArray, List.set_cons_zero, List.set_cons_succ]
        refine' wpAnyH_take (i := 1) (oi := ⟨_, _, _, _, _, _⟩) rfl (by kernel_rfl) (by kernel_rfl) (by kernel_rfl) (fun _ _ _ h => h) (Or.inl ⟨by rfl, ?a1⟩) (by assumption) ?b1
        case a1 => (intro w hSw; (try dsimp only at hSw); go_simp; try with_reducible rfl)
        try simp only [Act.put, List.setIfInBounds_toArray, List.set_cons_zero, List.set_cons_succ]
        refine' wpAnyH_take (i := 2) (oi := ⟨_, _, _, _, _, _⟩) rfl (by kernel_rfl) (by kernel_rfl) (by kernel_rfl) (fun _ _ _ h => h) (Or.inl ⟨by rfl, ?a2⟩) (by assumption) ?b2
        case a2 => (intro w hSw; (try dsimp only at hSw); go_simp; try with_reducible rfl)
        try simp only [Act.put, List.setIfInBounds_toArray, List.set_cons_zero, List.set_cons_succ]
        refine' wpAnyH_take (i := 3) (oi := ⟨_, _, _, _, _, _⟩) rfl (by kernel_rfl) (by kernel_rfl) (by kernel_rfl) (fun _ _ _ h => h) (Or.inl ⟨by rfl, ?a3⟩) (by assumption) ?b3
        case a3 => (intro w hSw; (try dsimp only at hSw); go_simp; try with_reducible rfl)
        try simp only [Act.put, List.setIfInBounds_toArray, List.set_cons_zero, List.set_cons_succ]
        refine' wpAnyH_take (i := 4) (oi := ⟨_, _, _, _, _, _⟩) rfl (by kernel_rfl) (by kernel_rfl) (by kernel_rfl) (fun _ _ _ h => h) (Or.inl ⟨by rfl, ?a4⟩) (by assumption) ?b4
        case a4 => (intro w hSw; (try dsimp only at hSw); go_simp; try with_reducible rfl)
        try simp only [Act.put, List.setIfInBounds_toArray, List.set_cons_zero, List.set_cons_succ]
        refine' wpAnyH_take (i := 5) (oi := ⟨_, _, _, _, _, _⟩) rfl (by kernel_rfl) (by kernel_rfl) (by kernel_rfl) (fun _ _ _ h => h) (Or.inl ⟨by rfl, ?a5⟩) (by assumption) ?b5
        case a5 => (intro w hSw; (try dsimp only at hSw); go_simp; try with_reducible rfl)
        try simp only [Act.put, List.setIfInBounds_toArray, List.set_cons_zero, List.set_cons_succ]
        refine' wpAnyH_take (i := 6) (oi := ⟨_, _, _, _, _, _⟩) rfl (by kernel_rfl) (by kernel_rfl) (by kernel_rfl) (fun _ _ _ h => h) (Or.inl ⟨by rfl, ?a6⟩) (by assumption) ?b6
        case a6 => (intro w hSw; (try dsimp only at hSw); go_simp; try with_reducible rfl)
        try simp only [Act.put, List.setIfInBounds_toArray, List.set_cons_zero, List.set_cons_succ]
        refine' wpAnyH_take (i := 7) (oi := ⟨_, _, _, _, _, _⟩) rfl (by kernel_rfl) (by kernel_rfl) (by kernel_rfl) (fun _ _ _ h => h) (Or.inl ⟨by rfl, ?a7⟩) (by assumption) ?b7
        case a7 => (intro w hSw; (try dsimp only at hSw); go_simp; try with_reducible rfl)
        try simp only [Act.put, List.setIfInBounds_toArray, List.set_cons_zero, List.set_cons_succ]
        refine' wpAnyH_take (i := 8) (oi := ⟨_, _, _, _, _, _⟩) rfl (by kernel_rfl) (by kernel_rfl) (by kernel_rfl) (fun _ _ _ h => h) (Or.inl ⟨by rfl, ?a8⟩) (by assumption) ?b8
        case a8 => (intro w hSw; (try dsimp only at hSw); go_simp; try with_reducible rfl)
        try simp only [Act.put, List.setIfInBounds_toArray, List.set_cons_zero, List.set_cons_succ]
        refine' wpAnyH_take (i := 9) (oi := ⟨_, _, _, _, _, _⟩) rfl (by kernel_rfl) (by kernel_rfl) (by kernel_rfl) (fun _ _ _ h => h) (Or.inl ⟨by rfl, ?a9⟩) (by assumption) ?b9
        case a9 => (intro w hSw; (try dsimp only at hSw); go_simp; try with_reducible rfl)
        try simp only [Act.put, List.setIfInBounds_toArray, List.set_cons_zero, List.set_cons_succ]
        refine' wpAnyH_take (i := 10) (oi := ⟨_, _, _, _, _, _⟩) rfl (by kernel_rfl) (by kernel_rfl) (by kernel_rfl) (fun _ _ _ h => h) (Or.inl ⟨by rfl, ?a10⟩) (by assumption) ?b10
        case a10 => (intro w hSw; (try dsimp only at hSw); go_simp; try with_reducible rfl)
        try simp only [Act.put, List.setIfInBounds_toArray, List.set_cons_zero, List.set_cons_succ]
        refine' wpAnyH_take (i := 11) (oi := ⟨_, _, _, _, _, _⟩) rfl (by kernel_rfl) (by kernel_rfl) (by kernel_rfl) (fun _ _ _ h => h) (Or.inl ⟨by rfl, ?a11⟩) (by assumption) ?b11
        case a11 => (intro w hSw; (try dsimp only at hSw); go_simp; try with_reducible rfl)
        try simp only [Act.put, List.setIfInBounds_toArray, List.set_cons_zero, List.set_cons_succ]
        refine' wpAnyH_take (i := 13) (oi := ⟨_, _, _, _, _, _⟩) rfl (by kernel_rfl) (by kernel_rfl) (by kernel_rfl) (fun _ _ _ h => h) (Or.inl ⟨by rfl, ?a12⟩) (by assumption) ?b12
        case a12 => (intro w hSw; (try dsimp only at hSw); go_simp; try with_reducible rfl)
        try simp only [Act.put, List.setIfInBounds_toArray, List.set_cons_zero, List.set_cons_succ]
        refine' wpAnyH_take (i := 14) (oi := ⟨_, _, _, _, _, _⟩) rfl (by kernel_rfl) (by kernel_rfl) (by kernel_rfl) (fun _ _ _ h => h) (Or.inl ⟨by rfl, ?a13⟩) (by assumption) ?b13
        case a13 => (intro w hSw; (try dsimp only at hSw); go_simp; try with_reducible rfl)
        try simp only [Act.put, List.setIfInBounds_toArray, List.set_cons_zero, List.set_cons_succ]
        refine' wpAnyH_take (i := 15) (oi := ⟨_, _, _, _, _, _⟩) rfl (by kernel_rfl) (by kernel_rfl) (by kernel_rfl) (fun _ _ _ h => h) (Or.inl ⟨by rfl, ?a14⟩) (by assumption) ?b14
        case a14 => (intro w hSw; (try dsimp only at hSw); go_simp; try with_reducible rfl)
        try simp only [Act.put, List.setIfInBounds_toArray, List.set_cons_zero, List.set_cons_succ]
        refine' wpAnyH_take (i := 16) (oi := ⟨_, _, _, _, _, _⟩) rfl (by kernel_rfl) (by kernel_rfl) (by kernel_rfl) (fun _ _ _ h => h) (Or.inl ⟨by rfl, ?a15⟩) (by assumption) ?b15
        case a15 => (intro w hSw; (try dsimp only at hSw); go_simp; try with_reducible rfl)
        try simp only [Act.put, List.setIfInBounds_toArray, List.set_cons_zero, List.set_cons_succ]
        refine' wpAnyH_take (i := 17) (oi := ⟨_, _, _, _, _, _⟩) rfl (by kernel_rfl) (by kernel_rfl) (by kernel_rfl) (fun _ _ _ h => h) (Or.inl ⟨by rfl, ?a16⟩) (by assumption) ?b16
        case a16 => (intro w hSw; (try dsimp only at hSw); go_simp; try with_reducible rfl)
        try simp only [Act.put, List.setIfInBounds_toArray, List.set_cons_zero, List.set_cons_succ]
        refine' wpAnyH_take (i := 18) (oi := ⟨_, _, _, _, _, _⟩) rfl (by kernel_rfl) (by kernel_rfl) (by kernel_rfl) (fun _ _ _ h => h) (Or.inl ⟨by rfl, ?a17⟩) (by assumption) ?b17
        case a17 => (intro w hSw; (try dsimp only at hSw); go_simp; try with_reducible rfl)
        try simp only [Act.put, List.setIfInBounds_toArray, List.set_cons_zero, List.set_cons_succ]
        refine' wpAnyH_take (i := 19) (oi := ⟨_, _, _, _, _, _⟩) rfl (by kernel_rfl) (by kernel_rfl) (by kernel_rfl) (fun _ _ _ h => h) (Or.inl ⟨by rfl, ?a18⟩) (by assumption) ?b18
        case a18 => (intro w hSw; (try dsimp only at hSw); go_simp; try with_reducible rfl)
        try simp only [Act.put, List.setIfInBounds_toArray, List.set_cons_zero, List.set_cons_succ]
        refine' wpAnyH_take (i := 22) (oi := ⟨_, _, _, _, _, _⟩) rfl (by kernel_rfl) (by kernel_rfl) (by kernel_rfl) (fun _ _ _ h => h) (Or.inl ⟨by rfl, ?a19⟩) (by assumption) ?b19
        case a19 => (intro w hSw; (try dsimp only at hSw); go_simp; try with_reducible rfl)
        try simp only [Act.put, List.setIfInBounds_toArray, List.set_cons_zero, List.set_cons_succ]
        refine' wpAnyH_take (i := 23) (oi := ⟨_, _, _, _, _, _⟩) rfl (by kernel_rfl) (by kernel_rfl) (by kernel_rfl) (fun _ _ _ h => h) (Or.inl ⟨by rfl, ?a20⟩) (by assumption) ?b20
        case a20 => (intro w hSw; (try dsimp only at hSw); go_simp; try with_reducible rfl)
        try simp only [Act.put, List.setIfInBounds_toArray, List.set_cons_zero, List.set_cons_succ]
        refine' wpAnyH_take (i := 24) (oi := ⟨_, _, _, _, _, _⟩) rfl (by kernel_rfl) (by kernel_rfl) (by kernel_rfl) (fun _ _ _ h => h) (Or.inl ⟨by rfl, ?a21⟩) (by assumption) ?b21
        case a21 => (intro w hSw; (try dsimp only at hSw); go_simp; try with_reducible rfl)
        try simp only [Act.put, List.setIfInBounds_toArray, List.set_cons_zero, List.set_cons_succ]
        refine' wpAnyH_take (i := 25) (oi := ⟨_, _, _, _, _, _⟩) rfl (by kernel_rfl) (by kernel_rfl) (by kernel_rfl) (fun _ _ _ h => h) (Or.inl ⟨by rfl, ?a22⟩) (by assumption) ?b22
        case a22 => (intro w hSw; (try dsimp only at hSw); go_simp; try with_reducible rfl)
        try simp only [Act.put, List.setIfInBounds_toArray, List.set_cons_zero, List.set_cons_succ]
        refine' wpAnyH_take (i := 26) (oi := ⟨_, _, _, _, _, _⟩) rfl (by kernel_rfl) (by kernel_rfl) (by kernel_rfl) (fun _ _ _ h => h) (Or.inl ⟨by rfl, ?a23⟩) (by assumption) ?b23
        case a23 => (intro w hSw; (try dsimp only at hSw); go_simp; try with_reducible rfl)
        try simp only [Act.put, List.setIfInBounds_toArray, List.set_cons_zero, List.set_cons_succ]
        refine' wpAnyH_take (i := 27) (oi := ⟨_, _, _, _, _, _⟩) rfl (by kernel_rfl) (by kernel_rfl) (by kernel_rfl) (fun _ _ _ h => h) (Or.inl ⟨by rfl, ?a24⟩) (by assumption) ?b24
        case a24 => (intro w hSw; (try dsimp only at hSw); go_simp; try with_reducible rfl)
        try simp only [Act.put, List.setIfInBounds_toArray, List.set_cons_zero, List.set_cons_succ]
        refine' wpAnyH_take (i := 28) (oi := ⟨_, _, _, _, _, _⟩) rfl (by kernel_rfl) (by kernel_rfl) (by kernel_rfl) (fun _ _ _ h => h) (Or.inl ⟨by rfl, ?a25⟩) (by assumption) ?b25
        case a25 => (intro w hSw; (try dsimp only at hSw); go_simp; try with_reducible rfl)
        try simp only [Act.put, List.setIfInBounds_toArray, List.set_cons_zero, List.set_cons_succ]
        refine wpAnyH_ready (rs := [12, 20]) (by kernel_rfl) (by simp) ?_
        refine AllReadyH.cons (o := ⟨_, _, _, _, _, _⟩) rfl (fun K hK => ?_) (AllReadyH.cons (o := ⟨_, _, _, _, _, _⟩) rfl (fun K hK => ?_) AllReadyH.nil)
        ·go_simp
         refine hK.out _ _ (c0) (fun hHeld => ?_)
         clear hK K
         try simp only [Act.put, List.setIfInBounds_toArray, List.set_cons_zero, List.set_cons_succ]
         refine wpAnyH_ready (rs := [20]) (by kernel_rfl) (by simp) ?_
         refine AllReadyH.cons (o := ⟨_, _, _, _, _, _⟩) rfl (fun K hK => ?_) AllReadyH.nil
         go_simp
         refine hK.out _ _ (c0) (fun hHeld => ?_)
         clear hK K
         try simp only [Act.put, List.setIfInBounds_toArray, List.set_cons_zero, List.set_cons_succ]
         refine' wpAnyH_take (i := 21) (oi := ⟨_, _, _, _, _, _⟩) rfl (by kernel_rfl) (by kernel_rfl) (by kernel_rfl) (fun _ _ _ h => h) (Or.inl ⟨by rfl, ?a26⟩) (by assumption) ?b26
         case a26 => (intro w hSw; (try dsimp only at hSw); go_simp; try with_reducible rfl)
         try simp only [Act.put, List.setIfInBounds_toArray, List.set_cons_zero, List.set_cons_succ]
         refine' wpAnyH_take (i := 29) (oi := ⟨_, _, _, _, _, _⟩) rfl (by kernel_rfl) (by kernel_rfl) (by kernel_rfl) (fun _ _ _ h => h) (Or.inl ⟨by rfl, ?a27⟩) (by assumption) ?b27
         case a27 => (intro w hSw; (try dsimp only at hSw); go_simp; try with_reducible rfl)
         try simp only [Act.put, List.setIfInBounds_toArray, List.set_cons_zero, List.set_cons_succ]
         refine wpAnyH_ready (rs := [30]) (by kernel_rfl) (by simp) ?_
         refine AllReadyH.cons (o := ⟨_, _, _, _, _, _⟩) rfl (fun K hK => ?_) AllReadyH.nil
         go_simp
         refine hK.out _ _ (kept_new c0 _) (fun hHeld => ?_)
         clear hK K
         try simp only [Act.put, List.setIfInBounds_toArray, List.set_cons_zero, List.set_cons_succ]
         refine wpAnyH_ready (rs := [31]) (by kernel_rfl) (by simp) ?_
         refine AllReadyH.cons (o := ⟨_, _, _, _, _, _⟩) rfl (fun K hK => ?_) AllReadyH.nil
         refine step_append_lies _ (by rfl) _ _ _ (by rfl) 0 163 i1 (.agg #[.int .i64 0, .int .i64 0, .int .i64 0, .int .i64 0]) 4 32 elNode.und hi0 hz0 hz1 hz2 rfl (by omega) (.slice (some ⟨ga, 0, none⟩) N ca) N _ (by rfl) (HS3.out.nodes.all.alloc _) ⟨_, 0, none⟩ 1 1 [.int .i64 (rd flat (a * 4) + rd flat (b * 4)), .int .i64 N, .int .i64 a, .int .i64 b] (by rfl) rfl (news_at _ _ _) (by simp [Value.oneCell']) (by omega) (by unfold maxLen; omega) (by omega) (Nat.zero_le _) _ rfl ?_
         intro g cap w1 hown1 hgrow hat hlt
         have q1 := hgrow.cell (kept_new c0 _) (fun e => Hne.out (w.heap.size + 1) e.symm rfl)
         have q2 := (hgrow.frozen_far ⟨w.heap.size + 1, 0, none⟩ (by simp; omega) (fun e => Hne.out (w.heap.size + 1) e.symm rfl)).trans (kept_new_f f0 hh1 _)
         refine hK.out _ _ (q1) (fun hHeld => ?_)
         clear hK K
         try simp only [Act.put, List.setIfInBounds_toArray, List.set_cons_zero, List.set_cons_succ]
         refine' wpAnyH_take (i := 32) (oi := ⟨_, _, _, _, _, _⟩) rfl (by kernel_rfl) (by kernel_rfl) (by kernel_rfl) (fun _ _ _ h => h) (Or.inl ⟨by rfl, ?a28⟩) (by assumption) ?b28
         case a28 => (intro w hSw; (try dsimp only at hSw); go_simp; try with_reducible rfl)
         try simp only [Act.put, List.setIfInBounds_toArray, List.set_cons_zero, List.set_cons_succ]
         refine' wpAnyH_take (i := 33) (oi := ⟨_, _, _, _, _, _⟩) rfl (by kernel_rfl) (by kernel_rfl) (by kernel_rfl) (fun _ _ _ h => h) (Or.inl ⟨by rfl, ?a29⟩) (by assumption) ?b29
         case a29 => (intro w hSw; (try dsimp only at hSw); go_simp; try with_reducible rfl)
         try simp only [Act.put, List.setIfInBounds_toArray, List.set_cons_zero, List.set_cons_succ]
         refine wpAnyH_done (by kernel_rfl) ?_ _
         change wpList _ _ _ _ _ _
         go_wp2
         go_meet
         have FA := ((Fr.refl _ [(Value.slice (some ⟨ga, 0, none⟩) N ca).ownBlock]).alloc _ |>.drew).trans (Fr.ofGrown hgrow) (fun o ho => .inl ho)
         obtain ⟨hN, hF⟩ := HS3.out.nodes.noded hown1 FA
         exact ⟨_, HS3.out.turn hN hF (hat.elim (fun e => .inl e.symm) (fun e => .inr (fun k hk => by simp [Value.ownBlock] at hk e; omega))) (.inl rfl)⟩
        ·go_simp
         refine hK.out _ _ (c0) (fun hHeld => ?_)
         clear hK K
         try simp only [Act.put, List.setIfInBounds_toArray, List.set_cons_zero, List.set_cons_succ]
         refine wpAnyH_ready (rs := [12]) (by kernel_rfl) (by simp) ?_
         refine AllReadyH.cons (o := ⟨_, _, _, _, _, _⟩) rfl (fun K hK => ?_) AllReadyH.nil
         go_simp
         refine hK.out _ _ (c0) (fun hHeld => ?_)
         clear hK K
         try simp only [Act.put, List.setIfInBounds_toArray, List.set_cons_zero, List.set_cons_succ]
         refine' wpAnyH_take (i := 21) (oi := ⟨_, _, _, _, _, _⟩) rfl (by kernel_rfl) (by kernel_rfl) (by kernel_rfl) (fun _ _ _ h => h) (Or.inl ⟨by rfl, ?a30⟩) (by assumption) ?b30
         case a30 => (intro w hSw; (try dsimp only at hSw); go_simp; try with_reducible rfl)
         try simp only [Act.put, List.setIfInBounds_toArray, List.set_cons_zero, List.set_cons_succ]
         refine' wpAnyH_take (i := 29) (oi := ⟨_, _, _, _, _, _⟩) rfl (by kernel_rfl) (by kernel_rfl) (by kernel_rfl) (fun _ _ _ h => h) (Or.inl ⟨by rfl, ?a31⟩) (by assumption) ?b31
         case a31 => (intro w hSw; (try dsimp only at hSw); go_simp; try with_reducible rfl)
         try simp only [Act.put, List.setIfInBounds_toArray, List.set_cons_zero, List.set_cons_succ]
         refine wpAnyH_ready (rs := [30]) (by kernel_rfl) (by simp) ?_
         refine AllReadyH.cons (o := ⟨_, _, _, _, _, _⟩) rfl (fun K hK => ?_) AllReadyH.nil
         go_simp
         refine hK.out _ _ (kept_new c0 _) (fun hHeld => ?_)
         clear hK K
         try simp only [Act.put, List.setIfInBounds_toArray, List.set_cons_zero, List.set_cons_succ]
         refine wpAnyH_ready (rs := [31]) (by kernel_rfl) (by simp) ?_
         refine AllReadyH.cons (o := ⟨_, _, _, _, _, _⟩) rfl (fun K hK => ?_) AllReadyH.nil
         refine step_append_lies _ (by rfl) _ _ _ (by rfl) 0 163 i1 (.agg #[.int .i64 0, .int .i64 0, .int .i64 0, .int .i64 0]) 4 32 elNode.und hi0 hz0 hz1 hz2 rfl (by omega) (.slice (some ⟨ga, 0, none⟩) N ca) N _ (by rfl) (HS3.out.nodes.all.alloc _) ⟨_, 0, none⟩ 1 1 [.int .i64 (rd flat (a * 4) + rd flat (b * 4)), .int .i64 N, .int .i64 a, .int .i64 b] (by rfl) rfl (news_at _ _ _) (by simp [Value.oneCell']) (by omega) (by unfold maxLen; omega) (by omega) (Nat.zero_le _) _ rfl ?_
         intro g cap w1 hown1 hgrow hat hlt
         have q1 := hgrow.cell (kept_new c0 _) (fun e => Hne.out (w.heap.size + 1) e.symm rfl)
         have q2 := (hgrow.frozen_far ⟨w.heap.size + 1, 0, none⟩ (by simp; omega) (fun e => Hne.out (w.heap.size + 1) e.symm rfl)).trans (kept_new_f f0 hh1 _)
         refine hK.out _ _ (q1) (fun hHeld => ?_)
         clear hK K
         try simp only [Act.put, List.setIfInBounds_toArray, List.set_cons_zero, List.set_cons_succ]
         refine' wpAnyH_take (i := 32) (oi := ⟨_, _, _, _, _, _⟩) rfl (by kernel_rfl) (by kernel_rfl) (by kernel_rfl) (fun _ _ _ h => h) (Or.inl ⟨by rfl, ?a32⟩) (by assumption) ?b32
         case a32 => (intro w hSw; (try dsimp only at hSw); go_simp; try with_reducible rfl)
         try simp only [Act.put, List.setIfInBounds_toArray, List.set_cons_zero, List.set_cons_succ]
         refine' wpAnyH_take (i := 33) (oi := ⟨_, _, _, _, _, _⟩) rfl (by kernel_rfl) (by kernel_rfl) (by kernel_rfl) (fun _ _ _ h => h) (Or.inl ⟨by rfl, ?a33⟩) (by assumption) ?b33
         case a33 => (intro w hSw; (try dsimp only at hSw); go_simp; try with_reducible rfl)
         try simp only [Act.put, List.setIfInBounds_toArray, List.set_cons_zero, List.set_cons_succ]
         refine wpAnyH_done (by kernel_rfl) ?_ _
         change wpList _ _ _ _ _ _
         go_wp2
         go_meet
         have FA := ((Fr.refl _ [(Value.slice (some ⟨ga, 0, none⟩) N ca).ownBlock]).alloc _ |>.drew).trans (Fr.ofGrown hgrow) (fun o ho => .inl ho)
         obtain ⟨hN, hF⟩ := HS3.out.nodes.noded hown1 FA
         exact ⟨_, HS3.out.turn hN hF (hat.elim (fun e => .inl e.symm) (fun e => .inr (fun k hk => by simp [Value.ownBlock] at hk e; omega))) (.inl rfl)⟩
       case rest =>
        obtain ⟨va4, HS4⟩ := hcut
        have c4 := HS4.out.nodes.c0
        obtain ⟨A4, p4, rfl⟩ := own_slice HS4.out.nodes.all
        have s9 : ((N + 1 : Nat) : Int) - 1 = N := by omega
        go_wp2_with fail
        clear s9
        have h4 := HM2.out.wlen
        refine (Push_calls (w.heap.size + 1) (N + 1) N _ vw3 _ wait2 _ HS4.out.nodes (fun j hj => by have := R2.out j hj; omega) (by omega) (by omega) (by omega) (by have := E7.out; omega)).mono ?_
        rintro e w7 ⟨rfl, vw5, hN7, hat7, hf7⟩
        have HS7 := Lib.hid (HS4.out.turn hN7 (hf7.mono (fun o ho => by simp at ho ⊢; rcases ho with h | h <;> simp [h])) (.inl rfl) hat7)
        have hme1 := waitLen_of HS.out.nodes
        have hme2 := waitLen_of hN7
        have Hme1 := Lib.hid hme1
        have Hme2 := Lib.hid hme2
        clear hN7 hat7 hf7 h4 hme1 hme2
        go_wp2
        go_roundw
        case rel => exact ⟨f', N + 1, L', _, _, _, _, HM2.out, HS7.out⟩
        case measure =>
         rw [Hme1.out, Hme2.out]
         have h5 := HM2.out.wlen
         have h6 := E8.out
         have h7 := HM.out.wlen
         show List.length (pushM (ltF' _) _ _) < _
         omega
     ·have h1' : wait.length = 1 := by have := HM.out.wlen; omega
      obtain ⟨i, root, e1, e2, e3, e4⟩ := HM.out.fin h1'
      have c1 := HS.out.nodes.c1
      obtain ⟨gw, cw, rfl, _, _, hcw, hcell, _⟩ := own_form HS.out.nodes.wait (by omega)
      have wz := hcell 0 _ (ints_get (by omega))
      rw [e1] at wz
      have hlen1 : ¬ (1 : Int) < wait.length := by omega
      have hlen0 : 0 < wait.length := by omega
      have E3 := Lib.hid e3
      have E4 := Lib.hid e4
      clear e1 e3 e4 hcell h1'
      go_wp2_with fail
      refine (Len_calls (w.heap.size + 1) N va _ flat wait _ HS.out.nodes).mono ?_
      rintro e w2 ⟨rfl, rfl⟩
      go_wp2_with fail
      obtain ⟨A3, p3, rfl, hp3, hrd⟩ := own_rd HS.out.syms
      have hSb : ∀ b o, A3 = some ⟨b, o, none⟩ → b ≠ w.heap.size := fun b o e e2 => by
       subst e
       exact HS.out.a2 b rfl (by rw [e2])
      have hsy2 : ∀ s ∈ root.syms, s < k := fun s hs => by
       have h1 := (rootOf_syms ws).mem_iff (a := s)
       rw [E3.out] at h1
       have h2 := (mem_posTo.1 (h1.1 (by simpa using hs))).1
       rw [hlen.out] at h2
       exact h2
      refine (depths_calls (w.heap.size + 1) N w.heap.size k k va _ A3 sy.length p3 flat wait sy (by omega) HS.out.hb hSb root i 0 (List.replicate k 0) _ HS.out.nodes HS.out.ab HS.out.a1 HS.out.out hrd e2 E4.out hsy2 (by omega)).mono ?_
      rintro e w7 ⟨rfl, hO, hF⟩
      have hW := writeD_once ws root E3.out
      rw [hlen.out] at hW
      rw [hW] at hO
      have HO := Lib.hid hO
      have HF := Lib.hid hF
      clear hO hF hW hrd hSb hsy2
      go_wp2
      go_ret
      exact ⟨_, rfl, own_raise HO.out (fun k hk => by simp [Value.ownBlock] at hk; omega), HS.out.bel.trans (HF.out.below HS.out.bel.size (fun o ho j e => by simp at ho; subst ho; cases e; exact Nat.le_refl _))⟩
end Go.Proofs.YtdbkbeojedndbaaGreatDoor
namespace Go.Proofs.YtdbkbeojedndbaaGreatDoor
open Go.RowKit

theorem ext_rd' {a b : List Int} (hl : a.length = b.length) (h : ∀ j, j < a.length → rd a j = rd b j) : a = b := by
 apply List.ext_getElem hl
 intro i h1 h2
 rw [← rd_getElem h1, ← rd_getElem h2]
 exact h i h1
theorem not_all_of {l : List Int} {m : Nat} {j : Nat} (hj : j < l.length) (h : (m : Int) < rd l j) : ¬ l.all (fun x => decide (x ≤ (m : Int))) = true := by
 intro hc
 have := List.all_eq_true.1 hc l[j] (List.getElem_mem _)
 rw [← rd_getElem hj] at this
 simp at this
 omega
theorem all_of {l : List Int} {m : Nat} (h : ∀ j, j < l.length → rd l j ≤ m) : l.all (fun x => decide (x ≤ (m : Int))) = true := by
 rw [List.all_eq_true]
 intro x hx
 obtain ⟨j, hj, rfl⟩ := List.getElem_of_mem hx
 have := h j hj
 rw [rd_getElem hj] at this
 simpa using this
theorem nonneg_rd {l : List Int} (h : ∀ x ∈ l, 0 ≤ x) (hs : l.sum ≤ 4611686018427387904) (j : Nat) (hj : j < l.length) : 0 ≤ rd l j ∧ rd l j ≤ 4611686018427387904 := by
 rw [rd_getElem hj]
 refine ⟨h _ (List.getElem_mem _), ?_⟩
 have key : ∀ (l : List Int), (∀ x ∈ l, 0 ≤ x) → ∀ x ∈ l, x ≤ l.sum := by
  intro l
  induction l with
  | nil => intro _ x hx; cases hx
  | cons y l ih =>
   intro h x hx
   have h1 := sum_nonneg' l (fun z hz => h z (by simp [hz]))
   have h2 := h y (by simp)
   simp only [List.sum_cons]
   rcases List.mem_cons.1 hx with rfl | hx
   ·omega
   ·have := ih (fun z hz => h z (by simp [hz])) x hx
    omega
 have := key l h _ (List.getElem_mem hj)
 omega
set_option maxHeartbeats 4000000 in
set_option maxRecDepth 200000 in
theorem Lengths_calls (m : Nat) (A : Option Addr) (n cap : Nat) (ws : List Int) (w : World) (hm : 1 ≤ m) (hR : Rd w .i64 A n ws) (hA : A = none → n = 0 ∧ cap = 0) (hn : n ≤ 100000) (hw : ∀ x ∈ ws, 0 ≤ x) (hsum : ws.sum ≤ 4611686018427387904) (hp : (posTo ws ws.length).length ≤ 2 ^ m) :
  Calls Tryz.prog 56 #[.int .i64 m, .slice A n cap] w fun e w' => ∃ v, e = .returned v ∧ w'.ownsRow w.heap.size 3 1 v n (ints .i64 (lensOf m ws)) ∧ Below w.heap.size w w' := by
 have HR := Lib.hid hR
 have hlen := Lib.hid hR.1
 have Hw := Lib.hid hw
 have Hp := Lib.hid hp
 obtain ⟨R, hRR⟩ : ∃ R, lensOf m ws = R := ⟨_, rfl⟩
 rw [hRR]
 have HRR := Lib.hid hRR
 clear hR hw hp hRR
 go_enter Tryz.func56, Tryz.ntmps56
 go_wp2
 go_step3
 go_wp2_with (at_builtin; refine wpList_appRd rfl _ _ rfl elIntN (ys := []) (World.ownsRow_lit w #[] 0 (Nat.le_refl _) (by decide) rfl) rfl rfl (HR.out.alloc _) hA (by omega) (by simp) ?_; intro v' w' hown hg; rw [Nat.zero_add, List.nil_append] at hown; have Hown := Lib.hid hown; have Hg := Lib.hid hg; clear hown hg)
 have hsz : w.heap.size ≤ w'.heap.size := by have := Hg.out.size; simp at this; omega
 have hb1 : Below w.heap.size w w' := ((Below.refl _ _).alloc (Nat.le_refl _) _).grown Hg.out (by simp) (fun k hk => by simp [Value.ownBlock] at hk; omega)
 have Hb1 := Lib.hid hb1
 obtain ⟨B, c, rfl⟩ := own_slice Hown.out
 clear hb1 Hg
 go_step3
 go_wp2
 go_loopg [] ws.sum.toNat (fun g wr => ∃ wt : List Int, Hid (lensM g m wt = R) ∧ Hid (wt.sum ≤ g) ∧ Hid (∀ x ∈ wt, 0 ≤ x) ∧ Hid ((posTo wt wt.length).length ≤ 2 ^ m) ∧ Hid (wt.length = n) ∧ Hid (wt.sum ≤ 4611686018427387904) ∧ Hid (wr.ownsRow w.heap.size 3 1 (.slice B n c) n (ints .i64 wt)) ∧ Hid (Below w.heap.size w wr))
 case atStart => exact ⟨ws, HRR.out, by have := sum_nonneg' ws Hw.out; show _ ≤ _; omega, Hw.out, Hp.out, hlen.out, hsum, Hown.out, Hb1.out⟩
 case round =>
  obtain ⟨wt, H1, H2, H3, H4, H5, H6, H7, H8⟩ := hrel
  obtain ⟨g, hg⟩ : ∃ g, g = gk := ⟨gk, rfl⟩
  subst hg
  have hol := Lib.hid (onceM_length wt)
  obtain ⟨B', c', e1, hc', hrd⟩ := own_rd H7.out
  cases e1
  have Hrd := Lib.hid hrd
  clear hrd
  go_wp2_with fail
  refine (once_calls B n c wt _ Hrd.out hn H3.out H6.out).mono ?_
  rintro e w1 ⟨v, rfl, ho, hb⟩
  obtain ⟨D, d, rfl, hd, hrdo⟩ := own_rd ho
  have Ho := Lib.hid ho
  have Hb := Lib.hid hb
  have Hrdo := Lib.hid hrdo
  clear ho hb hrdo
  go_wp2
  go_loopg [18] n (fun g2 i wy => ∃ j : Nat, j + g2 = n ∧ i = .int .i64 j ∧ Hid (∀ q, q < j → rd (onceM wt) q ≤ m) ∧ w1 = wy)
  case atStart => exact ⟨0, by omega, rfl, fun q hq => by omega, rfl⟩
  case round =>
   obtain ⟨j, hj, rfl, Hq, rfl⟩ := hrel
   by_cases hlt : j < n
   ·obtain ⟨b, o, rfl, hcx⟩ := Hrdo.out.2 (by omega)
    have z := hcx j hlt
    clear hcx
    rcases Int.lt_or_le (m : Int) (rd (onceM wt) j) with hx | hx
    ·have hno : ¬ (onceM wt).all (fun x => decide (x ≤ (m : Int))) = true := not_all_of (by rw [hol.out, H5.out]; exact hlt) hx
     have hless := halve_less H3.out hm H4.out hno
     have hh0 := (sum_halve wt H3.out).1
     obtain ⟨g', hg'⟩ : ∃ g', g = g' + 1 := ⟨g - 1, by have := H2.out; omega⟩
     have Hstep : Hid (lensM g' m (halve wt) = R) := by
      show lensM g' m (halve wt) = R
      have h9 := H1.out
      rw [hg'] at h9
      unfold lensM at h9
      rw [if_neg hno] at h9
      exact h9
     have Hless := Lib.hid hless
     have Hno := Lib.hid hno
     have Hg' := Lib.hid hg'
     have hrow : w1.ownsRow w.heap.size 3 1 (.slice B n c) n (ints .i64 wt) := own_below H7.out Hb.out
     have Hrow := Lib.hid hrow
     have H9 := Lib.hid (H8.out.trans (Hb.out.mono H8.out.size))
     clear hless hno hg' hh0 hrow
     go_wp2
     go_loopg [27] n (fun g2 i wy => ∃ (q : Nat) (l : List Int), q + g2 = n ∧ i = .int .i64 q ∧ Hid (∀ t, t < n → rd l t = if t < q then rd (halve wt) t else rd wt t) ∧ Hid (wy.ownsRow w.heap.size 3 1 (.slice B n c) n (ints .i64 l)) ∧ Hid (Below w.heap.size w wy))
     case atStart => exact ⟨0, wt, by omega, rfl, fun t ht => by rw [if_neg (by omega)], Hrow.out, H9.out⟩
     case round =>
      obtain ⟨q, l, hq, rfl, Hl, Hor, Hbl⟩ := hrel
      have hll : l.length = n := by have := Hor.out.1; rw [ints_length] at this; omega
      by_cases hqn : q < n
      ·obtain ⟨gb, cb, e1, hb0, hb1, hcb, hcell, hfz⟩ := own_form Hor.out (by omega)
       cases e1
       have z2 := hcell q _ (ints_get (by omega))
       have zf := hfz q
       have hv : rd l q = rd wt q := by rw [Hl.out q hqn, if_neg (by omega)]
       have hrange := nonneg_rd H3.out H6.out q (by rw [H5.out]; exact hqn)
       rw [← hv] at hrange
       have hhv : rd (halve wt) q = (rd l q + 1) / 2 := by rw [rd_halve, hv]
       have Hhv := Lib.hid hhv
       have Hll := Lib.hid hll
       clear hcell hfz hv hhv hll
       go_wp2
       go_roundg (gk - 1)
       case measure => omega
       case rel =>
        refine ⟨q + 1, l.set q ((rd l q + 1) / 2), by omega, by go_num, ?_, ?_, Hbl.out.setCell (p := ⟨gb, q, none⟩) hb0 _⟩
        ·intro t ht
         rw [rd_set (by rw [Hll.out]; exact hqn), Hl.out t ht]
         by_cases e : q = t
         ·subst e
          rw [if_pos rfl, if_pos (by omega), Hhv.out]
         ·rw [if_neg e]
          by_cases e2 : t < q
          ·rw [if_pos e2, if_pos (by omega)]
          ·rw [if_neg e2, if_neg (by omega)]
        ·show World.ownsRow _ _ _ _ _ _ _
         rw [ints_set]
         exact own_store Hor.out q _
      ·obtain rfl : q = n := by omega
       have el : l = halve wt := ext_rd' (by rw [hll, halve_length, H5.out]) (fun t ht => by rw [Hl.out t (by omega), if_pos (by omega)])
       subst el
       go_wp2
       go_roundg g'
       case measure => have := Hg'.out; omega
       case rel => exact ⟨halve wt, Hstep.out, by have := Hless.out; have := H2.out; have := Hg'.out; show _ ≤ _; omega, halve_nonneg H3.out, by rw [halve_length, posTo_halve]; exact H4.out, by rw [halve_length]; exact H5.out, by have := Hless.out; have := H6.out; show _ ≤ _; omega, Hor.out, Hbl.out⟩
    ·go_wp2
     go_roundg (gk - 1)
     case measure => omega
     case rel =>
      refine ⟨j + 1, by omega, by go_num, ?_, rfl⟩
      intro q hq
      by_cases e : q < j
      ·exact Hq.out q e
      ·rw [show q = j from by omega]; exact hx
   ·obtain rfl : j = n := by omega
    have hall : (onceM wt).all (fun x => decide (x ≤ (m : Int))) = true := all_of (fun q hq => Hq.out q (by rw [hol.out, H5.out] at hq; exact hq))
    have hR : R = onceM wt := by
     rw [← H1.out]
     cases g with
     | zero => rfl
     | succ g => unfold lensM; rw [if_pos hall]
    have HR2 := Lib.hid hR
    clear hall hR
    go_wp2
    try rw [Exit.noGoto_ret]
    go_ret
    rw [HR2.out]
    exact ⟨_, rfl, own_mono Ho.out H8.out.size, H8.out.trans (Hb.out.mono H8.out.size)⟩
end Go.Proofs.YtdbkbeojedndbaaGreatDoor
