/-
  Texts joined into one file: RefLz, RefP, RefG, RefI.
-/
import Derived.Test.YtdbkbeojedndbaaGreatDoorJRefCo9
import Derived.Test.YtdbkbeojedndbaaGreatDoorJRefCo12
import Derived.Test.YtdbkbeojedndbaaGreatDoorJRefCo5
import Derived.Test.YtdbkbeojedndbaaGreatDoorJRefCo13
namespace Go.Proofs.YtdbkbeojedndbaaGreatDoor
open Go.RowKit

theorem bestTo_step (b : List Int) (i d : Nat) (h : 1 ≤ d) : bestTo b i d = if (bestTo b i (d - 1)).1 < sameN b (i - d) i then (sameN b (i - d) i, d) else bestTo b i (d - 1) := by
 obtain ⟨e, rfl⟩ : ∃ e, d = e + 1 := ⟨d - 1, by omega⟩
 rw [Nat.add_sub_cancel]
 rfl
set_option maxHeartbeats 2000000 in
set_option maxRecDepth 100000 in
theorem rLPress_calls (A : Option Addr) (len cap : Nat) (bs : List Int) (w : World) (hR : Rd w .u8 A len bs) (hlen : len ≤ 100000) :
  Calls Tryz.prog 65 #[.slice A len cap] w fun e w' => ∃ v, e = .returned v ∧ w'.ownsRow w.heap.size 105 3 v (pressL bs).length (tokCells (pressL bs)) ∧ Below w.heap.size w w' := by
 have HR := Lib.hid hR
 have Hl := Lib.hid hR.1
 clear hR
 go_enter Tryz.func65, Tryz.ntmps65
 go_wp2
 go_loopw [3, 4] (fun v i wr => ∃ (k fu : Nat) (pre : List Tok), k ≤ len ∧ i = .int .i64 k ∧ len - k ≤ fu ∧ pre.length ≤ k ∧ Hid (wr.ownsRow w.heap.size 105 3 v pre.length (tokCells pre)) ∧ Hid (pressL bs = pre ++ pressFrom bs fu k) ∧ Hid (Below w.heap.size w wr)) (fun _ i _ => len - (intOf i).toNat)
 case atStart => exact ⟨0, len, [], by omega, rfl, by omega, by simp, World.ownsRow_nil _ _ _ _, by rw [← Hl.out]; rfl, Below.refl _ _⟩
 case round =>
  obtain ⟨k, fu, pre, hk, rfl, hfu, hpre, HO, HP, HB⟩ := hrel
  obtain ⟨W1, hW1⟩ : ∃ W, W = wr := ⟨_, rfl⟩
  subst hW1
  by_cases hlt : k < len
  ·obtain ⟨b, o, e0, hc⟩ := (HR.out.below HB.out).2 (by omega)
   subst e0
   have Hc := Lib.hid hc
   have hszr := HB.out.size
   clear hc
   go_wp2
   go_loopw [5, 6, 7] (fun ln ds d' wr2 => ∃ (d : Nat), 1 ≤ d ∧ d ≤ k + 1 ∧ d ≤ 32769 ∧ ln = .int .i64 (bestTo bs k (d - 1)).1 ∧ ds = .int .i64 (bestTo bs k (d - 1)).2 ∧ d' = .int .i64 d ∧ Hid (Below W1.heap.size W1 wr2)) (fun _ _ d' _ => 40000 - (intOf d').toNat)
   case atStart => exact ⟨1, by omega, by omega, by omega, rfl, rfl, rfl, Below.refl _ _⟩
   case round =>
    obtain ⟨d, hd1, hdk, hd3, rfl, rfl, rfl, HB2⟩ := hrel
    have hstep := bestTo_step bs k d hd1
    have hbl := (bestTo_le bs k (d - 1)).1
    obtain ⟨M, hM⟩ : ∃ M, M = bestTo bs k (d - 1) := ⟨_, rfl⟩
    rw [← hM] at hstep hbl ⊢
    have Hstep := Lib.hid hstep
    have HM := Lib.hid hM
    obtain ⟨m1, m2⟩ := M
    simp only at hbl
    clear hstep hM
    by_cases hd : d ≤ k
    ·by_cases hd2 : d ≤ 32768
     ·have t1 : decide (d ≤ k) = true := by simpa using hd
      go_wp2
      go_loopw [8] (fun n' wr3 => ∃ m : Nat, m ≤ 258 ∧ n' = .int .i64 m ∧ Hid (sameFrom bs (k - d) k (258 - m) m = sameN bs (k - d) k) ∧ Hid (Below W1.heap.size W1 wr3)) (fun n' _ => 258 - (intOf n').toNat)
      case atStart => exact ⟨0, by omega, rfl, rfl, HB2.out⟩
      case round =>
       obtain ⟨m, hm, rfl, HS, HB3⟩ := hrel
       have s1 : IntKind.i64.wrap ((k : Int) + m) = k + m := IntWalk.i64_in _ (by omega)
       have s2 : ((k : Int) + m).toNat = k + m := by omega
       have s3 : 0 ≤ (k : Int) + m := by omega
       have fin : ∀ n : Nat, n = sameN bs (k - d) k → (if m1 < n then ((n, d) : Nat × Nat) else (m1, m2)) = bestTo bs k d := fun n hn => by rw [Hstep.out, hn]
       have Fin := Lib.hid fin
       clear fin
       have stop : sameFrom bs (k - d) k (258 - m) m = m → Hid (m = sameN bs (k - d) k) := fun h => h.symm.trans HS.out
       by_cases h258 : m < 258
       ·have d0 : decide ((m : Int) < 258) = true := by simp; omega
        have hS := HS.out
        rw [show 258 - m = (257 - m) + 1 from by omega] at hS
        by_cases hlt3 : k + m < len
        ·have z1 := kept_cell HB3.out (Hc.out (k + m) hlt3)
         have z2 := kept_cell HB3.out (Hc.out (k + m - d) (by omega))
         have s4 : decide ((k : Int) + m < len) = true := by simp; omega
         have s5 : (k : Int) + m < len := by omega
         have r1 : IntKind.i64.wrap ((k : Int) + m - d) = k + m - d := IntWalk.i64_in _ (by omega)
         have r2 : ((k : Int) + m - d).toNat = k + m - d := by omega
         have r3 : 0 ≤ (k : Int) + m - d := by omega
         have r4 : (k : Int) + m - d < len := by omega
         have eq2 : k - d + m = k + m - d := by omega
         cases he : (rd bs (k + m) == rd bs (k + m - d))
         ·have e2 : sameFrom bs (k - d) k (257 - m + 1) m = m := by
           unfold sameFrom
           rw [if_neg (fun hh => by rw [eq2] at hh; simp at he; exact he hh.2.symm)]
          rw [show 257 - m + 1 = 258 - m from by omega] at e2
          have hst := stop e2
          clear hS e2 stop eq2
          have E := Lib.hid (Fin.out m hst.out)
          clear hst
          by_cases hgt : m1 < m
          ·have ee := E.out
           rw [if_pos hgt] at ee
           have EE := Lib.hid ee
           clear ee
           go_wp2
           go_quiet (fail)
           go_wp2
           go_roundw
           case rel => exact ⟨d + 1, by omega, by omega, by omega, by rw [Nat.add_sub_cancel, ← EE.out], by rw [Nat.add_sub_cancel, ← EE.out], by go_num, HB3.out.trans ⟨rfl, rfl, rfl, Nat.le_refl _, fun _ _ => rfl⟩⟩
           case measure => simp [intOf]; omega
          ·have ee := E.out
           rw [if_neg hgt] at ee
           have EE := Lib.hid ee
           clear ee
           go_wp2
           go_quiet (fail)
           go_wp2
           go_roundw
           case rel => exact ⟨d + 1, by omega, by omega, by omega, by rw [Nat.add_sub_cancel, ← EE.out], by rw [Nat.add_sub_cancel, ← EE.out], by go_num, HB3.out.trans ⟨rfl, rfl, rfl, Nat.le_refl _, fun _ _ => rfl⟩⟩
           case measure => simp [intOf]; omega
         ·have e2 : sameFrom bs (k - d) k (257 - m + 1) m = sameFrom bs (k - d) k (257 - m) (m + 1) := by
           conv => lhs; unfold sameFrom
           rw [if_pos ⟨by rw [Hl.out]; exact hlt3, by rw [eq2]; simpa using (show rd bs (k + m) = rd bs (k + m - d) by simpa using he).symm⟩]
          rw [e2] at hS
          have HS2 := Lib.hid hS
          clear hS e2 stop eq2
          go_wp2
          go_quiet (fail)
          go_wp2
          go_roundw
          case rel => exact ⟨m + 1, by omega, by go_num, by rw [show 258 - (m + 1) = 257 - m from by omega]; exact HS2.out, HB3.out.trans ⟨rfl, rfl, rfl, Nat.le_refl _, fun _ _ => rfl⟩⟩
          case measure => simp [intOf]; omega
        ·have s4 : decide ((k : Int) + m < len) = false := by simp; omega
         have e2 : sameFrom bs (k - d) k (257 - m + 1) m = m := by
          unfold sameFrom
          rw [if_neg (fun hh => by rw [Hl.out] at hh; exact hlt3 hh.1)]
         rw [show 257 - m + 1 = 258 - m from by omega] at e2
         have hst := stop e2
         clear hS e2 stop
         have E := Lib.hid (Fin.out m hst.out)
         clear hst
         by_cases hgt : m1 < m
         ·have ee := E.out
          rw [if_pos hgt] at ee
          have EE := Lib.hid ee
          clear ee
          go_wp2
          go_quiet (fail)
          go_wp2
          go_roundw
          case rel => exact ⟨d + 1, by omega, by omega, by omega, by rw [Nat.add_sub_cancel, ← EE.out], by rw [Nat.add_sub_cancel, ← EE.out], by go_num, HB3.out.trans ⟨rfl, rfl, rfl, Nat.le_refl _, fun _ _ => rfl⟩⟩
          case measure => simp [intOf]; omega
         ·have ee := E.out
          rw [if_neg hgt] at ee
          have EE := Lib.hid ee
          clear ee
          go_wp2
          go_quiet (fail)
          go_wp2
          go_roundw
          case rel => exact ⟨d + 1, by omega, by omega, by omega, by rw [Nat.add_sub_cancel, ← EE.out], by rw [Nat.add_sub_cancel, ← EE.out], by go_num, HB3.out.trans ⟨rfl, rfl, rfl, Nat.le_refl _, fun _ _ => rfl⟩⟩
          case measure => simp [intOf]; omega
       ·obtain rfl : m = 258 := by omega
        have d0 : decide (((258 : Nat) : Int) < 258) = false := by decide
        have hst := stop rfl
        clear stop
        have E := Lib.hid (Fin.out 258 hst.out)
        clear hst
        by_cases hgt : m1 < 258
        ·have ee := E.out
         rw [if_pos hgt] at ee
         have EE := Lib.hid ee
         clear ee
         go_wp2
         go_quiet (fail)
         go_wp2
         go_roundw
         case rel => exact ⟨d + 1, by omega, by omega, by omega, by rw [Nat.add_sub_cancel, ← EE.out], by rw [Nat.add_sub_cancel, ← EE.out], by go_num, HB3.out.trans ⟨rfl, rfl, rfl, Nat.le_refl _, fun _ _ => rfl⟩⟩
         case measure => simp [intOf]; omega
        ·have ee := E.out
         rw [if_neg hgt] at ee
         have EE := Lib.hid ee
         clear ee
         go_wp2
         go_quiet (fail)
         go_wp2
         go_roundw
         case rel => exact ⟨d + 1, by omega, by omega, by omega, by rw [Nat.add_sub_cancel, ← EE.out], by rw [Nat.add_sub_cancel, ← EE.out], by go_num, HB3.out.trans ⟨rfl, rfl, rfl, Nat.le_refl _, fun _ _ => rfl⟩⟩
         case measure => simp [intOf]; omega
     ·have t1 : decide (d ≤ k) = true := by simpa using hd
      have t2 : ¬ (d : Int) ≤ 32768 := by omega
      have em : d - 1 = min k 32768 := by omega
      have hbm : bestM bs k = (m1, m2) := by unfold bestM; rw [← em]; exact HM.out.symm
      have Hbm := Lib.hid hbm
      have HOw := Lib.hid (own_below HO.out HB2.out)
      have HBw := Lib.hid (HB.out.trans (HB2.out.mono hszr))
      have hsz2 := HB2.out.size
      have z := kept_cell HB2.out (Hc.out k hlt)
      obtain ⟨y, hy⟩ : ∃ y, y = rd bs k := ⟨_, rfl⟩
      rw [← hy] at z
      have Hy := Lib.hid hy
      clear em hbm hy
      by_cases h3 : m1 < 3
      ·have hn := press_lit Hl.out hlt (by rw [Hbm.out]; exact h3) hfu HP.out
       rw [← Hy.out] at hn
       have Hnx := Lib.hid hn
       clear hn
       go_wp2_with (at_builtin; refine wpList_app2 rfl _ _ rfl elTok (HOw.out) rfl rfl rfl (by simp) rfl (by omega) (by omega) ?_; intro v' w' hown' hbel' _)
       go_roundw
       case rel => exact ⟨k + 1, fu - 1, pre ++ [(y, 0, 0)], by omega, by go_num, Hnx.out.1, by rw [List.length_append]; simp; omega, by rw [List.length_append, tokCells_append]; exact hown', Hnx.out.2, HBw.out.trans hbel'⟩
       case measure => simp [intOf]; omega
      ·have hn := press_match Hl.out hlt (by rw [Hbm.out]; exact h3) hfu HP.out
       have hr := bestM_rng (b := bs) (i := k) (by rw [Hbm.out]; show 3 ≤ m1; omega)
       rw [Hbm.out] at hn hr
       simp only at hn hr
       have hmk : k + m1 ≤ len := by have := hr.2.2.2.2.1; rw [Hl.out] at this; exact this
       have Hnx := Lib.hid hn
       clear hn hr z
       go_wp2_with (at_builtin; refine wpList_app2 rfl _ _ rfl elTok (HOw.out) rfl rfl rfl (by simp) rfl (by omega) (by omega) ?_; intro v' w' hown' hbel' _)
       go_roundw
       case rel => exact ⟨k + m1, fu - 1, pre ++ [(0, (m1 : Int), (m2 : Int))], by omega, by go_num, Hnx.out.1, by rw [List.length_append]; simp; omega, by rw [List.length_append, tokCells_append]; exact hown', Hnx.out.2, HBw.out.trans hbel'⟩
       case measure => simp [intOf]; omega
    ·have t1 : decide (d ≤ k) = false := by simpa using hd
     have em : d - 1 = min k 32768 := by omega
     have hbm : bestM bs k = (m1, m2) := by unfold bestM; rw [← em]; exact HM.out.symm
     have Hbm := Lib.hid hbm
     have HOw := Lib.hid (own_below HO.out HB2.out)
     have HBw := Lib.hid (HB.out.trans (HB2.out.mono hszr))
     have hsz2 := HB2.out.size
     have z := kept_cell HB2.out (Hc.out k hlt)
     obtain ⟨y, hy⟩ : ∃ y, y = rd bs k := ⟨_, rfl⟩
     rw [← hy] at z
     have Hy := Lib.hid hy
     clear em hbm hy
     by_cases h3 : m1 < 3
     ·have hn := press_lit Hl.out hlt (by rw [Hbm.out]; exact h3) hfu HP.out
      rw [← Hy.out] at hn
      have Hnx := Lib.hid hn
      clear hn
      go_wp2_with (at_builtin; refine wpList_app2 rfl _ _ rfl elTok (HOw.out) rfl rfl rfl (by simp) rfl (by omega) (by omega) ?_; intro v' w' hown' hbel' _)
      go_roundw
      case rel => exact ⟨k + 1, fu - 1, pre ++ [(y, 0, 0)], by omega, by go_num, Hnx.out.1, by rw [List.length_append]; simp; omega, by rw [List.length_append, tokCells_append]; exact hown', Hnx.out.2, HBw.out.trans hbel'⟩
      case measure => simp [intOf]; omega
     ·have hn := press_match Hl.out hlt (by rw [Hbm.out]; exact h3) hfu HP.out
      have hr := bestM_rng (b := bs) (i := k) (by rw [Hbm.out]; show 3 ≤ m1; omega)
      rw [Hbm.out] at hn hr
      simp only at hn hr
      have hmk : k + m1 ≤ len := by have := hr.2.2.2.2.1; rw [Hl.out] at this; exact this
      have Hnx := Lib.hid hn
      clear hn hr z
      go_wp2_with (at_builtin; refine wpList_app2 rfl _ _ rfl elTok (HOw.out) rfl rfl rfl (by simp) rfl (by omega) (by omega) ?_; intro v' w' hown' hbel' _)
      go_roundw
      case rel => exact ⟨k + m1, fu - 1, pre ++ [(0, (m1 : Int), (m2 : Int))], by omega, by go_num, Hnx.out.1, by rw [List.length_append]; simp; omega, by rw [List.length_append, tokCells_append]; exact hown', Hnx.out.2, HBw.out.trans hbel'⟩
      case measure => simp [intOf]; omega
  ·obtain rfl : k = len := by omega
   have hp := HP.out
   rw [pressFrom_end _ _ _ (by rw [Hl.out]; exact Nat.le_refl _), List.append_nil] at hp
   have HP2 := Lib.hid hp
   clear hp
   go_wp2
   go_ret
   exact ⟨_, rfl, by rw [HP2.out]; exact HO.out, HB.out⟩
end Go.Proofs.YtdbkbeojedndbaaGreatDoor
namespace Go.Proofs.YtdbkbeojedndbaaGreatDoor

def OutOk (ws : List Int) (L : List HT) (out : List Int) : Prop := out.length = ws.length ∧ ∀ s, s < ws.length →
  (∀ k, depIn L s = some k → rd out s = ((if (leavesOf ws).length = 1 then 1 else k : Nat) : Int)) ∧ (depIn L s = none → rd out s = 0)
theorem OutOk.step {ws : List Int} {L : List HT} {out out' : List Int} (h : OutOk ws L out) (h1 : 1 < L.length) (hn : (L.flatMap HT.syms).Nodup) (hl : (leavesOf ws).length ≠ 1) {a b : HT} {rest : List HT} (hp : L.Perm (a :: b :: rest)) (he : hstep L = rest ++ [.node a b])
    (hlen : out'.length = ws.length) (ho : ∀ s, s < ws.length → rd out' s = rd out s + if s ∈ a.syms ++ b.syms then 1 else 0) : OutOk ws (hstep L) out' := by
  refine ⟨hlen, fun s hs => ?_⟩
  have hd := depIn_step h1 hn hp he s
  obtain ⟨q1, q2⟩ := h.2 s hs
  rw [hd, ho s hs]
  by_cases e : s ∈ a.syms ++ b.syms
  · rw [if_pos e, if_pos e]
    cases ed : depIn L s with
    | none =>
      exfalso
      rw [depIn_none] at ed
      apply ed
      rw [(hp.flatMap_right HT.syms).mem_iff]
      simp only [List.flatMap_cons, List.mem_append] at e ⊢
      rcases e with e | e
      · exact .inl e
      · exact .inr (.inl e)
    | some k =>
      refine ⟨fun k' hk' => ?_, fun h0 => by simp at h0⟩
      simp at hk'
      have := q1 k ed
      rw [if_neg hl] at this ⊢
      omega
  · rw [if_neg e, if_neg e]
    refine ⟨fun k hk => ?_, fun h0 => ?_⟩
    · have := q1 k hk; omega
    · have := q2 h0; omega
theorem OutOk.fin {ws : List Int} {root : HT} {out : List Int} (h : OutOk ws [root] out) (hr : rootOf ws = [root]) : out = onceM ws := by
  apply List.ext_getElem (by rw [h.1, onceM_length])
  intro s h1 h2
  have hs : s < ws.length := by have := h.1; omega
  obtain ⟨q1, q2⟩ := h.2 s hs
  rw [← rd_getElem h1]
  rw [← hr] at q1 q2
  cases e : depIn (rootOf ws) s with
  | none =>
    rw [q2 e]
    simp [onceM, e]
  | some k =>
    rw [q1 k e]
    have hv : (onceM ws)[s] = ((max k 1 : Nat) : Int) := by simp [onceM, e]
    rw [hv]
    have hk := (depIn_mem (rootOf_nodup ws) s k).1 e
    rw [hr] at hk
    have hk' : (s, k) ∈ root.dep := by simpa using hk
    have hsy : root.syms.length = (leavesOf ws).length := by
      have := (rootOf_syms ws).length_eq
      rw [hr, ← leavesOf_length] at this
      simpa using this
    cases hrt : root with
    | leaf w s' =>
      rw [hrt] at hk' hsy
      simp [HT.dep] at hk'
      have : (leavesOf ws).length = 1 := by rw [← hsy]; rfl
      rw [if_pos this, hk'.2]
      rfl
    | node l r =>
      rw [hrt] at hk' hsy
      have h1 : 1 ≤ k := by
        simp only [HT.dep, List.mem_map] at hk'
        obtain ⟨q, _, e2⟩ := hk'
        simp at e2
        omega
      have hne : ∀ t : HT, 1 ≤ t.syms.length := by
        intro t
        induction t with
        | leaf w s => simp [HT.syms]
        | node a b ia ib => simp only [HT.syms, List.length_append]; omega
      have : (leavesOf ws).length ≠ 1 := by
        rw [← hsy]
        have := hne l
        have := hne r
        simp only [HT.syms, List.length_append]
        omega
      rw [if_neg this, Nat.max_eq_left h1]
theorem syms_pos (t : HT) : 1 ≤ t.syms.length := by
  induction t with
  | leaf w s => simp [HT.syms]
  | node a b ia ib => simp only [HT.syms, List.length_append]; omega
theorem leaves_dep (ws : List Int) (k : Nat) : ∀ p ∈ (leavesTo ws k).flatMap HT.dep, p.2 = 0 := by
  intro p hp
  obtain ⟨t, ht, hpt⟩ := List.mem_flatMap.1 hp
  obtain ⟨s, _, _, rfl⟩ := mem_leavesTo ht
  simp [HT.dep] at hpt
  rw [hpt]
theorem leaves_nodup (ws : List Int) (k : Nat) : ((leavesTo ws k).flatMap HT.syms).Nodup := by rw [leavesTo_syms]; exact posTo_nodup ws k
theorem OutOk.start (ws : List Int) (hl : (leavesOf ws).length ≠ 1) : OutOk ws (leavesOf ws) (List.replicate ws.length 0) := by
  refine ⟨by simp, fun s hs => ⟨fun k hk => ?_, fun _ => rd_zeros _ _⟩⟩
  have h1 := (depIn_mem (leaves_nodup ws ws.length) s k).1 hk
  have h2 := leaves_dep ws ws.length _ h1
  simp at h2
  rw [rd_zeros, if_neg hl, h2]
  rfl
theorem OutOk.one (ws : List Int) (s0 : Nat) (w0 : Int) (hs0 : s0 < ws.length) (hl : leavesOf ws = [.leaf w0 s0]) : OutOk ws (leavesOf ws) ((List.replicate ws.length 0).set s0 1) := by
  refine ⟨by simp, fun s hs => ?_⟩
  have hd : depIn (leavesOf ws) s = if s = s0 then some 0 else none := by
    rw [hl]
    unfold depIn
    simp only [List.flatMap_cons, List.flatMap_nil, HT.dep, List.append_nil, List.lookup_cons, List.lookup_nil]
    by_cases e : s = s0
    · subst e; simp
    · have : (s == s0) = false := by simpa using e
      rw [this, if_neg e]
  rw [hd, rd_set (by simpa using hs0), rd_zeros]
  by_cases e : s = s0
  · rw [if_pos e, if_pos e.symm]
    refine ⟨fun k _ => ?_, fun h => by cases h⟩
    rw [if_pos (show (leavesOf ws).length = 1 by rw [hl]; rfl)]
    rfl
  · rw [if_neg e, if_neg (Ne.symm e)]
    exact ⟨fun k hk => (by cases hk), fun _ => rfl⟩
/-! ### places -/
def wtAt (L : List HT) (j : Nat) : Int := (L.getD j default).wt
theorem rd_wts (L : List HT) (j : Nat) (h : j < L.length) : rd (L.map HT.wt) j = wtAt L j := by
  unfold wtAt
  rw [rd_getElem (by simpa using h), List.getD_eq_getElem?_getD, List.getElem?_eq_getElem h]
  simp
theorem hA_of {L : List HT} {a : Nat} (ha : a < L.length) (h1 : ∀ j, j < L.length → wtAt L a ≤ wtAt L j) (h2 : ∀ j, j < a → wtAt L a < wtAt L j) : a = hA L := by
  refine minPos_unique (by simpa using ha) (fun j hj => ?_) (fun j hj => ?_)
  · simp only [List.length_map] at hj
    rw [rd_wts L a ha, rd_wts L j hj]
    exact h1 j hj
  · rw [rd_wts L a ha, rd_wts L j (by omega)]
    exact h2 j hj
theorem getD_erase (L : List HT) (a j : Nat) : (L.eraseIdx a).getD j default = L.getD (if j < a then j else j + 1) default := by
  rw [List.getD_eq_getElem?_getD, List.getD_eq_getElem?_getD, List.getElem?_eraseIdx]
  split <;> rfl
theorem hB_of {L : List HT} {a q : Nat} (haL : a = hA L) (ha : a < L.length) (hq : q < L.length) (hqa : q ≠ a) (h1 : ∀ j, j < L.length → j ≠ a → wtAt L q ≤ wtAt L j) (h2 : ∀ j, j < q → j ≠ a → wtAt L q < wtAt L j) :
    hB L = (if q < a then q else q - 1) ∧ (L.eraseIdx (hA L)).getD (hB L) default = L.getD q default := by
  have hl : (L.eraseIdx a).length = L.length - 1 := List.length_eraseIdx_of_lt ha
  have hw : ∀ j, j < L.length - 1 → wtAt (L.eraseIdx a) j = wtAt L (if j < a then j else j + 1) := fun j hj => by
    unfold wtAt
    rw [getD_erase L a j]
  have hb : (if q < a then q else q - 1) < L.length - 1 := by split <;> omega
  have hback : (if (if q < a then q else q - 1) < a then (if q < a then q else q - 1) else (if q < a then q else q - 1) + 1) = q := by
    by_cases e : q < a
    · rw [if_pos e, if_pos e]
    · rw [if_neg e, if_neg (by omega)]; omega
  have e1 : (if q < a then q else q - 1) = hB L := by
    unfold hB
    rw [← haL]
    refine minPos_unique (by simp [hl]; exact hb) (fun j hj => ?_) (fun j hj => ?_)
    · simp only [List.length_map] at hj
      rw [rd_wts _ _ (by omega), rd_wts _ j hj, hw _ hb, hw j (by omega), hback]
      refine h1 _ (by split <;> omega) (by split <;> omega)
    · rw [rd_wts _ _ (by omega), rd_wts _ j (by omega), hw _ hb, hw j (by omega), hback]
      by_cases e : q < a
      · rw [if_pos e] at hj
        rw [if_pos (by omega)]
        exact h2 j hj (by omega)
      · rw [if_neg e] at hj
        refine h2 _ ?_ ?_
        · split <;> omega
        · split <;> omega
  refine ⟨e1.symm, ?_⟩
  rw [← haL, ← e1, getD_erase L a _, hback]
def restTo (L : List HT) (a q : Nat) : Nat → List HT
  | 0 => []
  | i + 1 => if i = a ∨ i = q then restTo L a q i else restTo L a q i ++ [L.getD i default]
theorem restTo_len (L : List HT) (a q : Nat) : ∀ i, (restTo L a q i).length ≤ i
  | 0 => by simp [restTo]
  | i + 1 => by
    have := restTo_len L a q i
    unfold restTo
    split
    · omega
    · simp; omega
theorem restTo_take {L : List HT} {a q : Nat} (ha : a < L.length) (hq : q < L.length) (hqa : q ≠ a) : ∀ i, i ≤ L.length →
    restTo L a q i = ((L.eraseIdx a).eraseIdx (if q < a then q else q - 1)).take (i - (if a < i then 1 else 0) - (if q < i then 1 else 0))
  | 0, _ => by simp [restTo]
  | i + 1, hi => by
    have ih := restTo_take ha hq hqa i (by omega)
    have hl : (L.eraseIdx a).length = L.length - 1 := List.length_eraseIdx_of_lt ha
    have hb : (if q < a then q else q - 1) < L.length - 1 := by split <;> omega
    have hl2 : ((L.eraseIdx a).eraseIdx (if q < a then q else q - 1)).length = L.length - 2 := by rw [List.length_eraseIdx_of_lt (by omega)]; omega
    unfold restTo
    by_cases e : i = a ∨ i = q
    · rw [if_pos e, ih]
      congr 1
      rcases e with e | e
      · subst e
        by_cases g : q < i
        · rw [if_neg (by omega), if_pos g, if_pos (by omega), if_pos (by omega)]; omega
        · rw [if_neg (by omega), if_neg g, if_pos (by omega), if_neg (by omega)]; omega
      · subst e
        by_cases g : a < i
        · rw [if_pos g, if_neg (by omega), if_pos (by omega), if_pos (by omega)]; omega
        · rw [if_neg g, if_neg (by omega), if_neg (by omega), if_pos (by omega)]; omega
    · rw [if_neg e, ih]
      have ea : (if a < i + 1 then 1 else 0) = (if a < i then 1 else 0) := by
        by_cases g : a < i
        · rw [if_pos g, if_pos (by omega)]
        · rw [if_neg g, if_neg (by omega)]
      have eq : (if q < i + 1 then 1 else 0) = (if q < i then 1 else 0) := by
        by_cases g : q < i
        · rw [if_pos g, if_pos (by omega)]
        · rw [if_neg g, if_neg (by omega)]
      rw [ea, eq]
      have hc : i + 1 - (if a < i then 1 else 0) - (if q < i then 1 else 0) = (i - (if a < i then 1 else 0) - (if q < i then 1 else 0)) + 1 := by
        by_cases g1 : a < i <;> by_cases g2 : q < i <;> simp [g1, g2] <;> omega
      rw [hc]
      have hlt : i - (if a < i then 1 else 0) - (if q < i then 1 else 0) < ((L.eraseIdx a).eraseIdx (if q < a then q else q - 1)).length := by
        rw [hl2]
        by_cases g1 : a < i <;> by_cases g2 : q < i <;> simp [g1, g2] <;> omega
      rw [List.take_succ_eq_append_getElem hlt]
      congr 1
      congr 1
      have h5 : ((L.eraseIdx a).eraseIdx (if q < a then q else q - 1))[i - (if a < i then 1 else 0) - (if q < i then 1 else 0)]? = L[i]? := by
        by_cases g1 : a < i <;> by_cases g2 : q < i <;> by_cases g3 : q < a
        all_goals simp only [g1, g2, g3, if_true, if_false]
        all_goals
          first
          | (exfalso; omega)
          | (rw [List.getElem?_eraseIdx]
             (first | rw [if_pos (by omega)] | rw [if_neg (by omega)])
             rw [List.getElem?_eraseIdx]
             (first | rw [if_pos (by omega)] | rw [if_neg (by omega)])
             first | rfl | (congr 1; omega))
      rw [List.getElem?_eq_getElem hlt, List.getElem?_eq_getElem (by omega)] at h5
      rw [List.getD_eq_getElem?_getD, List.getElem?_eq_getElem (by omega), Option.getD_some]
      exact (Option.some.inj h5).symm
theorem restTo_all {L : List HT} {a q : Nat} (ha : a < L.length) (hq : q < L.length) (hqa : q ≠ a) : restTo L a q L.length = (L.eraseIdx a).eraseIdx (if q < a then q else q - 1) := by
  have hl : (L.eraseIdx a).length = L.length - 1 := List.length_eraseIdx_of_lt ha
  have hb : (if q < a then q else q - 1) < L.length - 1 := by split <;> omega
  rw [restTo_take ha hq hqa L.length (Nat.le_refl _), if_pos ha, if_pos hq]
  apply List.take_of_length_le
  rw [List.length_eraseIdx_of_lt (by omega)]
  omega
end Go.Proofs.YtdbkbeojedndbaaGreatDoor
namespace Go.Proofs.YtdbkbeojedndbaaGreatDoor
open Go.RowKit

def symI (t : HT) : List Int := t.syms.map fun (s : Nat) => (s : Int)
theorem symI_length (t : HT) : (symI t).length = t.syms.length := by simp [symI]
theorem Rd.frS {w w' : World} {k : IntKind} {A : Option Addr} {n : Nat} {xs : List Int} {S : List (Option Nat)} (h : Rd w k A n xs) (hf : Fr w w' S) (hS : ∀ b o, A = some ⟨b, o, none⟩ → some b ∉ S) : Rd w' k A n xs :=
 ⟨h.1, fun hn => by
  obtain ⟨b, o, e, hc⟩ := h.2 hn
  exact ⟨b, o, e, fun j hj => by
   have h1 := hc j hj
   have hlt := World.block_lt_of_cell? _ _ h1
   rw [World.cell?_of_block (a := ⟨b, o + j, none⟩) (hf.block b hlt (fun q hq e2 => hS b o e (e2 ▸ hq)))]
   exact h1⟩⟩
structure GRow (w : World) (Bv B1 : Nat) (v : Value) (L : List HT) (cs : List Value) : Prop where
 own : w.ownsRow Bv 171 2 v L.length cs
 each : ∀ i, i < L.length → cs[i * 2]? = some (.int .i64 (wtAt L i)) ∧ ∃ gs c, cs[i * 2 + 1]? = some (.slice (some ⟨gs, 0, none⟩) (L.getD i default).syms.length c) ∧ (L.getD i default).syms.length ≤ c ∧ B1 ≤ gs ∧ v.ownBlock ≠ some gs ∧ Rd w .i64 (some ⟨gs, 0, none⟩) (L.getD i default).syms.length (symI (L.getD i default))
theorem GRow.nil (w : World) (Bv B1 : Nat) : GRow w Bv B1 (.slice none 0 0) [] [] := ⟨World.ownsRow_nil _ _ _ _, fun i hi => by simp at hi⟩
theorem GRow.below {w w1 : World} {Bv B1 : Nat} {v : Value} {L : List HT} {cs : List Value} (h : GRow w Bv B1 v L cs) (hb : Below w.heap.size w w1) : GRow w1 Bv B1 v L cs :=
 ⟨own_below h.own hb, fun i hi => by
  obtain ⟨e1, gs, c, e2, e3, e4, e5, e6⟩ := h.each i hi
  exact ⟨e1, gs, c, e2, e3, e4, e5, e6.below hb⟩⟩
theorem GRow.fr {w w1 : World} {Bv B1 bo : Nat} {v : Value} {L : List HT} {cs : List Value} (h : GRow w Bv B1 v L cs) (hf : Fr w w1 [some bo]) (hbo : bo < B1) (hv : Apart v.ownBlock (some bo)) : GRow w1 Bv B1 v L cs :=
 ⟨own_fr h.own hf (fun o ho => by simp at ho; subst ho; exact hv), fun i hi => by
  obtain ⟨e1, gs, c, e2, e3, e4, e5, e6⟩ := h.each i hi
  refine ⟨e1, gs, c, e2, e3, e4, e5, e6.frS hf (fun b o e => ?_)⟩
  cases e
  simp
  omega⟩
theorem GRow.at' {w : World} {Bv B1 : Nat} {v : Value} {L : List HT} {cs : List Value} (h : GRow w Bv B1 v L cs) (hL : 0 < L.length) : ∃ gl c, v = .slice (some ⟨gl, 0, none⟩) L.length c ∧ Bv ≤ gl ∧ gl < w.heap.size ∧ L.length ≤ c ∧
  ∀ i, i < L.length → w.cell? ⟨gl, i * 2, none⟩ = some (.int .i64 (wtAt L i)) ∧ ∃ gs cc, w.cell? ⟨gl, i * 2 + 1, none⟩ = some (.slice (some ⟨gs, 0, none⟩) (L.getD i default).syms.length cc) ∧ (L.getD i default).syms.length ≤ cc ∧ B1 ≤ gs ∧ gs ≠ gl ∧ Rd w .i64 (some ⟨gs, 0, none⟩) (L.getD i default).syms.length (symI (L.getD i default)) := by
 obtain ⟨gl, c, rfl, h1, h2, h3, h4, _⟩ := own_form h.own hL
 refine ⟨gl, c, rfl, h1, h2, h3, fun i hi => ?_⟩
 obtain ⟨e1, gs, cc, e2, e3, e4, e5, e6⟩ := h.each i hi
 exact ⟨h4 _ _ e1, gs, cc, h4 _ _ e2, e3, e4, fun e => e5 (by rw [e]; rfl), e6⟩
theorem rd_block_lt {w : World} {k : IntKind} {g n : Nat} {xs : List Int} (h : Rd w k (some ⟨g, 0, none⟩) n xs) (hn : 0 < n) : g < w.heap.size := by
 obtain ⟨b, o, e, hc⟩ := h.2 hn
 cases e
 exact World.block_lt_of_cell? _ _ (hc 0 hn)
theorem GRow.push {w w1 : World} {Bv B1 g cap gs c : Nat} {v : Value} {L : List HT} {cs : List Value} (H : GRow w Bv B1 v L cs) (t : HT) (hgs : B1 ≤ gs) (hc : t.syms.length ≤ c) (hR : Rd w .i64 (some ⟨gs, 0, none⟩) t.syms.length (symI t)) (hne : v.ownBlock ≠ some gs) (hf : Fr w w1 [v.ownBlock])
  (hown : w1.ownsRow Bv 171 2 (.slice (some ⟨g, 0, none⟩) (L.length + 1) cap) (L.length + 1) (cs ++ [.int .i64 t.wt, .slice (some ⟨gs, 0, none⟩) t.syms.length c])) (hat : v.ownBlock = some g ∨ w.heap.size ≤ g) :
  GRow w1 Bv B1 (.slice (some ⟨g, 0, none⟩) (L.length + 1) cap) (L ++ [t]) (cs ++ [.int .i64 t.wt, .slice (some ⟨gs, 0, none⟩) t.syms.length c]) := by
 have hcl : cs.length = L.length * 2 := H.own.1
 have key : ∀ gs' n xs, 0 < n → v.ownBlock ≠ some gs' → Rd w .i64 (some ⟨gs', 0, none⟩) n xs → Rd w1 .i64 (some ⟨gs', 0, none⟩) n xs ∧ (Value.slice (some ⟨g, 0, none⟩) (L.length + 1) cap).ownBlock ≠ some gs' := fun gs' n xs hn h1 h2 => by
  refine ⟨h2.frS hf (fun b o e => ?_), fun e => ?_⟩
  ·cases e
   simpa using Ne.symm h1
  ·simp [Value.ownBlock] at e
   rcases hat with h3 | h3
   ·exact h1 (by rw [h3, e])
   ·have := rd_block_lt h2 hn
    omega
 refine ⟨by rw [List.length_append]; exact hown, fun i hi => ?_⟩
 rw [List.length_append, List.length_cons, List.length_nil] at hi
 rcases Nat.lt_or_ge i L.length with hlt | hge
 ·obtain ⟨e1, gs', c', e2, e3, e4, e5, e6⟩ := H.each i hlt
  have hg : (L ++ [t]).getD i default = L.getD i default := by rw [List.getD_eq_getElem?_getD, List.getD_eq_getElem?_getD, List.getElem?_append_left hlt]
  have hw : wtAt (L ++ [t]) i = wtAt L i := by unfold wtAt; rw [hg]
  obtain ⟨k1, k2⟩ := key gs' _ _ (syms_pos _) e5 e6
  rw [hw, hg, List.getElem?_append_left (by omega), List.getElem?_append_left (by omega)]
  exact ⟨e1, gs', c', e2, e3, e4, k2, k1⟩
 ·obtain rfl : i = L.length := by omega
  have hg : (L ++ [t]).getD L.length default = t := by rw [List.getD_eq_getElem?_getD, List.getElem?_append_right (Nat.le_refl _)]; simp
  have hw : wtAt (L ++ [t]) L.length = t.wt := by unfold wtAt; rw [hg]
  obtain ⟨k1, k2⟩ := key gs _ _ (syms_pos _) hne hR
  rw [hw, hg, List.getElem?_append_right (by omega), List.getElem?_append_right (by omega), hcl, Nat.sub_self, Nat.add_sub_cancel_left]
  exact ⟨rfl, gs, c, rfl, hc, hgs, k2, k1⟩
theorem elGrp : ElT Tryz.prog 169 171 (.agg #[.int .i64 0, .slice none 0 0]) 2 32 := ⟨Tryz.underlying169, by kernel_rfl, rfl, by decide, by decide⟩
theorem leavesTo_hit {ws : List Int} {k : Nat} (h : 0 < rd ws k) : leavesTo ws (k + 1) = leavesTo ws k ++ [.leaf (rd ws k) k] := by simp [leavesTo, List.range_succ, List.filter_append, h]
theorem leavesTo_miss {ws : List Int} {k : Nat} (h : ¬ 0 < rd ws k) : leavesTo ws (k + 1) = leavesTo ws k := by simp [leavesTo, List.range_succ, List.filter_append, h]
end Go.Proofs.YtdbkbeojedndbaaGreatDoor
namespace Go.Proofs.YtdbkbeojedndbaaGreatDoor

structure RInv (ws : List Int) (L : List HT) (out : List Int) : Prop where
 run : ∃ f, hrun f L = rootOf ws ∧ L.length ≤ f + 1
 ok : OutOk ws L out
 nd : (L.flatMap HT.syms).Nodup
 lt : ∀ s ∈ L.flatMap HT.syms, s < ws.length
 pos : ∀ t ∈ L, 0 ≤ t.wt
 sum : sumW L ≤ 4611686018427387904
 one : (leavesOf ws).length ≠ 1 ∨ L.length ≤ 1
 len : L.length ≤ ws.length
 perm : (L.flatMap HT.syms).Perm (posTo ws ws.length)
 bnd : ∀ s, s < ws.length → 0 ≤ rd out s ∧ rd out s + L.length ≤ ws.length + 1
theorem RInv.begin' {ws out : List Int} (hw : ∀ x ∈ ws, 0 ≤ x) (hs : ws.sum ≤ 4611686018427387904) (ho : OutOk ws (leavesOf ws) out)
  (hb : ∀ s, s < ws.length → 0 ≤ rd out s ∧ rd out s + (leavesOf ws).length ≤ ws.length + 1) : RInv ws (leavesOf ws) out := by
 refine ⟨⟨_, rfl, by omega⟩, ho, leaves_nodup ws _, fun s h => ?_, fun t ht => ?_, ?_, ?_, by rw [leavesOf_length]; exact posTo_le ws _, by unfold leavesOf; rw [leavesTo_syms], hb⟩
 ·unfold leavesOf at h
  rw [leavesTo_syms] at h
  exact (mem_posTo.1 h).1
 ·obtain ⟨s, _, h2, rfl⟩ := mem_leavesTo ht
  simp only [HT.wt]; omega
 ·have := sum_leaves_le ws hw ws.length (Nat.le_refl _)
  rw [List.take_length] at this
  unfold leavesOf
  omega
 ·omega
theorem RInv.start {ws : List Int} (hw : ∀ x ∈ ws, 0 ≤ x) (hs : ws.sum ≤ 4611686018427387904) (hl : (leavesOf ws).length ≠ 1) : RInv ws (leavesOf ws) (List.replicate ws.length 0) :=
 RInv.begin' hw hs (OutOk.start ws hl) (fun s _ => by
  rw [rd_zeros]
  have := posTo_le ws ws.length
  have := leavesOf_length ws
  omega)
theorem leaf_one {ws : List Int} (hl : (leavesOf ws).length = 1) : ∃ s0, s0 < ws.length ∧ leavesOf ws = [.leaf (rd ws s0) s0] := by
 obtain ⟨t, ht⟩ := List.length_eq_one_iff.1 hl
 obtain ⟨s, h1, _, rfl⟩ := mem_leavesTo (ws := ws) (k := ws.length) (t := t) (by show t ∈ leavesOf ws; rw [ht]; simp)
 exact ⟨s, h1, ht⟩
theorem RInv.oneLeaf {ws : List Int} (hw : ∀ x ∈ ws, 0 ≤ x) (hs : ws.sum ≤ 4611686018427387904) {s0 : Nat} (hs0 : s0 < ws.length) (hl : leavesOf ws = [.leaf (rd ws s0) s0]) : RInv ws (leavesOf ws) ((List.replicate ws.length 0).set s0 1) :=
 RInv.begin' hw hs (OutOk.one ws s0 _ hs0 hl) (fun s _ => by
  rw [rd_set (by simpa using hs0), rd_zeros, hl]
  show 0 ≤ _ ∧ _ + ((1 : Nat) : Int) ≤ _
  split <;> omega)
theorem sumW_two {L : List HT} (hp : ∀ t ∈ L, 0 ≤ t.wt) {a q : Nat} (ha : a < L.length) (hq : q < L.length) (hqa : q ≠ a) : 0 ≤ wtAt L a ∧ 0 ≤ wtAt L q ∧ wtAt L a + wtAt L q ≤ sumW L := by
 have hl : (L.eraseIdx a).length = L.length - 1 := List.length_eraseIdx_of_lt ha
 have key : ∀ (M : List HT) (i : Nat), i < M.length → (∀ t ∈ M, 0 ≤ t.wt) → 0 ≤ wtAt M i ∧ sumW M = wtAt M i + sumW (M.eraseIdx i) ∧ ∀ t ∈ M.eraseIdx i, 0 ≤ t.wt := by
  intro M i hi hM
  have p := getD_cons_erase hi
  refine ⟨?_, ?_, fun t ht => hM t (List.mem_of_mem_eraseIdx ht)⟩
  ·unfold wtAt
   exact hM _ ((p.mem_iff).2 (by simp))
  ·rw [sumW_perm p]
   simp [sumW, wtAt]
 obtain ⟨k1, k2, k3⟩ := key L a ha hp
 have hb : (if q < a then q else q - 1) < (L.eraseIdx a).length := by split <;> omega
 obtain ⟨k4, k5, k6⟩ := key (L.eraseIdx a) _ hb k3
 have e : wtAt (L.eraseIdx a) (if q < a then q else q - 1) = wtAt L q := by
  unfold wtAt
  rw [getD_erase]
  congr 2
  by_cases e : q < a
  ·rw [if_pos e, if_pos e]
  ·rw [if_neg e, if_neg (by omega)]; omega
 rw [e] at k4 k5
 have := sumW_ge k6
 exact ⟨k1, k4, by omega⟩
theorem RInv.step {ws : List Int} {L : List HT} {out out' : List Int} (h : RInv ws L out) {a q : Nat} (h1 : 1 < L.length) (ha : a < L.length) (hA : ∀ j, j < L.length → wtAt L a ≤ wtAt L j) (hA' : ∀ j, j < a → wtAt L a < wtAt L j)
  (hq : q < L.length) (hqa : q ≠ a) (hQ : ∀ j, j < L.length → j ≠ a → wtAt L q ≤ wtAt L j) (hQ' : ∀ j, j < q → j ≠ a → wtAt L q < wtAt L j)
  (hl : out'.length = ws.length) (ho : ∀ s, s < ws.length → rd out' s = rd out s + if s ∈ (L.getD a default).syms ++ (L.getD q default).syms then 1 else 0) :
  RInv ws (restTo L a q L.length ++ [.node (L.getD a default) (L.getD q default)]) out' := by
 have eA := hA_of ha hA hA'
 obtain ⟨eB, eG⟩ := hB_of eA ha hq hqa hQ hQ'
 have hst : restTo L a q L.length ++ [.node (L.getD a default) (L.getD q default)] = hstep L := by
  unfold hstep
  rw [restTo_all ha hq hqa, eG, ← eA, eB]
 obtain ⟨x, y, rest, hp, he, ex, ey, _, _, _⟩ := hstep_parts h1
 rw [← eA] at ex
 rw [eG] at ey
 subst ex ey
 have hne : (leavesOf ws).length ≠ 1 := by
  rcases h.one with h2 | h2
  ·exact h2
  ·omega
 rw [hst]
 obtain ⟨f, hf, hfl⟩ := h.run
 have hsl := hstep_length h1
 refine ⟨?_, h.ok.step h1 h.nd hne hp he hl ho, ((hstep_syms h1).nodup_iff).2 h.nd, fun s hs => h.lt s ((hstep_syms h1).mem_iff.1 hs), ?_, ?_, .inl hne, by rw [hsl]; have := h.len; omega, (hstep_syms h1).trans h.perm, fun s hs => ?_⟩
 ·cases f with
  | zero => omega
  | succ f =>
   unfold hrun at hf
   rw [if_neg (by omega)] at hf
   exact ⟨f, hf, by omega⟩
 ·intro t ht
  rw [he] at ht
  rcases List.mem_append.1 ht with ht | ht
  ·exact h.pos t (hp.mem_iff.2 (by simp [ht]))
  ·rw [List.mem_singleton] at ht
   subst ht
   have p1 := h.pos (L.getD a default) (hp.mem_iff.2 (by simp))
   have p2 := h.pos (L.getD q default) (hp.mem_iff.2 (by simp))
   simp only [HT.wt]
   omega
 ·rw [sumW_step h1]; exact h.sum
 ·have := h.bnd s hs
  rw [ho s hs, hsl]
  split <;> omega
theorem syms_len_le {t : HT} : ∀ {L : List HT}, t ∈ L → t.syms.length ≤ (L.flatMap HT.syms).length
 | [], h => by cases h
 | u :: L, h => by
  rw [List.flatMap_cons, List.length_append]
  rcases List.mem_cons.1 h with rfl | h
  ·omega
  ·have := syms_len_le h; omega
theorem RInv.symsLe {ws : List Int} {L : List HT} {out : List Int} (h : RInv ws L out) {i : Nat} (hi : i < L.length) : (L.getD i default).syms.length ≤ ws.length := by
 have h1 : L.getD i default ∈ L := by
  rw [List.getD_eq_getElem?_getD, List.getElem?_eq_getElem hi]
  exact List.getElem_mem _
 have h2 := syms_len_le h1
 have h3 := h.perm.length_eq
 have := posTo_le ws ws.length
 omega
theorem RInv.fin {ws : List Int} {L : List HT} {out : List Int} (h : RInv ws L out) (h1 : L.length ≤ 1) : out = onceM ws := by
 obtain ⟨f, hf, _⟩ := h.run
 have hL : rootOf ws = L := by
  rw [← hf]
  cases f with
  | zero => rfl
  | succ f => unfold hrun; rw [if_pos h1]
 cases L with
 | nil =>
  apply List.ext_getElem (by rw [h.ok.1, onceM_length])
  intro s g1 g2
  have hs : s < ws.length := by have := h.ok.1; omega
  rw [← rd_getElem g1, (h.ok.2 s hs).2 (by rw [depIn_none]; simp)]
  have : depIn (rootOf ws) s = none := by rw [hL, depIn_none]; simp
  simp [onceM, this]
 | cons t L =>
  have : L = [] := List.length_eq_zero_iff.1 (by have : (t :: L).length = L.length + 1 := rfl; omega)
  subst this
  exact h.ok.fin hL
theorem getD_at {L : List HT} {p : Nat} (hp : p < L.length) : L.getD p default = L[p] := by simp [List.getD_eq_getElem?_getD, List.getElem?_eq_getElem hp]
theorem RInv.nd2 {ws : List Int} {L : List HT} {out : List Int} (h : RInv ws L out) {p q : Nat} (hp : p < L.length) (hq : q < L.length) (hqp : q ≠ p) : ((L.getD p default).syms ++ (L.getD q default).syms).Nodup := by
 obtain ⟨h2, h3⟩ := List.pairwise_flatMap.1 h.nd
 rw [getD_at hp, getD_at hq]
 refine List.nodup_append.2 ⟨h2 _ (List.getElem_mem _), h2 _ (List.getElem_mem _), fun a ha b hb => ?_⟩
 rcases Nat.lt_or_gt_of_ne hqp with g | g
 ·exact (List.pairwise_iff_getElem.1 h3 q p hq hp g b hb a ha).symm
 ·exact List.pairwise_iff_getElem.1 h3 p q hp hq g a ha b hb
theorem RInv.ltTwo {ws : List Int} {L : List HT} {out : List Int} (h : RInv ws L out) {p q s : Nat} (hp : p < L.length) (hq : q < L.length) (hs : s ∈ (L.getD p default).syms ++ (L.getD q default).syms) : s < ws.length := by
 rw [getD_at hp, getD_at hq] at hs
 rcases List.mem_append.1 hs with g | g
 ·exact h.lt s (List.mem_flatMap.2 ⟨_, List.getElem_mem _, g⟩)
 ·exact h.lt s (List.mem_flatMap.2 ⟨_, List.getElem_mem _, g⟩)
def Raised (out out' : List Int) (ss : List Nat) (i : Nat) : Prop := out'.length = out.length ∧ ∀ s, s < out.length → rd out' s = rd out s + if s ∈ ss.take i then 1 else 0
theorem Raised.zero (out : List Int) (ss : List Nat) : Raised out out ss 0 := ⟨rfl, fun s _ => by simp⟩
theorem Raised.next {out out' : List Int} {ss : List Nat} {i : Nat} (h : Raised out out' ss i) (hn : ss.Nodup) (hi : i < ss.length) (hs : ss[i] < out.length) : rd out' ss[i] = rd out ss[i] ∧ Raised out (out'.set ss[i] (rd out' ss[i] + 1)) ss (i + 1) := by
 have hni : ss[i] ∉ ss.take i := fun hm => by
  obtain ⟨j, hj, e⟩ := List.getElem_of_mem hm
  rw [List.length_take] at hj
  rw [List.getElem_take] at e
  exact List.pairwise_iff_getElem.1 hn j i (by omega) hi (by omega) e
 have h0 : rd out' ss[i] = rd out ss[i] := by rw [h.2 _ hs, if_neg hni]; omega
 refine ⟨h0, by rw [List.length_set]; exact h.1, fun s hs' => ?_⟩
 rw [rd_set (by rw [h.1]; exact hs), List.take_succ_eq_append_getElem hi]
 by_cases e : ss[i] = s
 ·rw [if_pos e, if_pos (List.mem_append_right _ (List.mem_singleton.2 e.symm)), h0, e]
 ·rw [if_neg e, h.2 s hs']
  congr 1
  by_cases g : s ∈ ss.take i
  ·rw [if_pos g, if_pos (List.mem_append_left _ g)]
  ·rw [if_neg g, if_neg (fun k => (List.mem_append.1 k).elim g (fun k => e (List.mem_singleton.1 k).symm))]
end Go.Proofs.YtdbkbeojedndbaaGreatDoor
