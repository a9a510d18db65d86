/-
  Texts joined into one file: Few, Names, RNames, SortL, Table, StepA, RTabP.
-/
import Derived.Test.YtdbkbeojedndbaaJHeadG2
import Derived.Deep.LoopGhost
import Derived.Deep.Cut
import Derived.Deep.CutRange
import Derived.Deep.CutBlock
import Derived.Shelf.SortG.Plain
import Derived.Shelf.SortG.SortNone
import Derived.Ground.SlgnProg
import Derived.Test.YtdbkbeojedndbaaJHeadG7
import Derived.Maps.OwnSet
import Derived.Sort.OwnSorted
import Derived.Test.YtdbkbeojedndbaaJHeadG1
/-
  The walk of the reference's Few: ops are few, and their texts short.
-/
namespace Go.Proofs.Ytdbkbeojedndbaa
open Go.RowKit

structure FewAt (x : OpV) : Prop where
  p : x.pn ≤ 40
  k : x.key.size ≤ 5000
  s : x.s.size ≤ 5000
  o : x.obj.2.size ≤ 100
  e : x.elem.2.size ≤ 100
  y : ∀ i, i < x.pn → (nm x.preds i).2.size ≤ 100
/-- A bool that is true only if P holds; memory is as it was. -/
structure BoolEnd (w : World) (P : Prop) (e : Ending) (w' : World) : Prop where
  is : (e = .returned (.bool false) ∨ (e = .returned (.bool true) ∧ P)) ∧ w' = w
set_option maxHeartbeats 1000000 in
set_option maxRecDepth 100000 in
theorem Few_calls (A : Option Addr) (n cap : Nat) (L : List OpV) (most : Int) (w : World) (hO : OpsAt w A n L) (hn : n ≤ maxLen) (hm : 0 ≤ most ∧ most ≤ 1000) :
    Calls Try.prog 21 #[.slice A n cap, .int .i64 most] w (BoolEnd w ((n : Int) ≤ most ∧ ∀ i, i < n → FewAt (opv L i))) := by
  unfold maxLen at hn
  have hn' : n ≤ 9223372036854775807 := by omega
  obtain ⟨hm0, hm1⟩ := hm
  have HO := Lib.hid hO
  clear hn hO
  go_enter Try.func21, Try.ntmps21
  by_cases h0 : (n : Int) ≤ most
  · go_wp2_with fail
    go_loopw [5] (fun i wr => ∃ j : Nat, j ≤ n ∧ i = .int .i64 j ∧ Hid (∀ i, i < j → FewAt (opv L i)) ∧ wr = w) (fun i _ => n - (intOf i).toNat)
    case atStart => exact ⟨0, by omega, rfl, Lib.hid (fun i hi => by omega), rfl⟩
    case round =>
      obtain ⟨j, hj, rfl, HF, hw⟩ := hrel
      obtain ⟨W, hW⟩ : ∃ W, W = wr := ⟨_, rfl⟩
      rw [← hW] at hw ⊢
      subst hw
      clear hW
      by_cases hlt : j < n
      · obtain ⟨b, o, hA, hc⟩ := HO.out.2.2 (by omega)
        subst hA
        have hx := HO.out.2.1 _ (opv_mem (L := L) (j := j) (by rw [HO.out.1]; exact hlt))
        obtain ⟨x, hxe⟩ : ∃ x, x = opv L j := ⟨_, rfl⟩
        have hcj := hc j hlt
        rw [← hxe] at hx hcj
        have HXE := Lib.hid hxe
        obtain ⟨⟨io, ie, ia, ik, iu, jn, so, se, sk, ss, pl, pb, pz, ps⟩, hpr⟩ := hx
        unfold maxLen at so se sk ss pl
        have so' : x.obj.2.size ≤ 9223372036854775807 := by omega
        have se' : x.elem.2.size ≤ 9223372036854775807 := by omega
        have sk' : x.key.size ≤ 9223372036854775807 := by omega
        have ss' : x.s.size ≤ 9223372036854775807 := by omega
        have pl' : x.pn ≤ 9223372036854775807 := by omega
        have HP := Lib.hid hpr
        obtain ⟨c0, c1, c2, c3, c4, c5, c6, c7, c8, c9, c10, c11, c12⟩ := hcj
        clear hc hxe hpr io ie ia ik iu jn so se sk ss pl pb pz ps
        by_cases hx : x.pn ≤ 40 ∧ x.key.size ≤ 5000 ∧ x.s.size ≤ 5000 ∧ x.obj.2.size ≤ 100 ∧ x.elem.2.size ≤ 100
        · obtain ⟨h1, h2, h3, h4, h5⟩ := hx
          go_wp2_with fail
          go_loopw [6] (fun i wr => ∃ k : Nat, k ≤ x.pn ∧ i = .int .i64 k ∧ Hid (∀ i, i < k → (nm x.preds i).2.size ≤ 100) ∧ wr = W) (fun i _ => x.pn - (intOf i).toNat)
          case atStart => exact ⟨0, by omega, rfl, Lib.hid (fun i hi => by omega), rfl⟩
          case round =>
            obtain ⟨k, hk, rfl, HY, hw⟩ := hrel
            obtain ⟨W2, hW2⟩ : ∃ W, W = wr := ⟨_, rfl⟩
            rw [← hW2] at hw ⊢
            subst hw
            clear hW2
            by_cases hk2 : k < x.pn
            · obtain ⟨bp, op, hpA, hpc⟩ := HP.out.2 (by omega)
              obtain ⟨n0, n1⟩ := hpc k hk2
              obtain ⟨y, hy⟩ : ∃ y, y = nm x.preds k := ⟨_, rfl⟩
              rw [← hy] at n0 n1
              rw [hpA] at c12
              have HYe := Lib.hid hy
              clear hpc hpA hy
              by_cases hys : y.2.size ≤ 100
              · go_wp2_with fail
                go_roundw
                case rel =>
                  refine ⟨k + 1, by omega, by go_num, Lib.hid (fun i hi => ?_), trivial⟩
                  rcases Nat.lt_or_ge i k with g | g
                  · exact HY.out i g
                  · obtain rfl : i = k := by omega
                    rw [← HYe.out]; exact hys
                case measure => simp [intOf]; omega
              · go_wp2_with fail
                go_ret
                exact ⟨.inl rfl, rfl⟩
            · have Hke := Lib.hid (show k = x.pn by omega)
              go_wp2_with fail
              go_roundw
              case rel =>
                refine ⟨j + 1, by omega, by go_num, Lib.hid (fun i hi => ?_), trivial⟩
                rcases Nat.lt_or_ge i j with g | g
                · exact HF.out i g
                · obtain rfl : i = j := by omega
                  rw [← HXE.out]
                  exact ⟨h1, h2, h3, h4, h5, by rw [← Hke.out]; exact HY.out⟩
              case measure => simp [intOf]; omega
        · go_wp2_with fail
          all_goals first
            | exact absurd ⟨by omega, by omega, by omega, by omega, by omega⟩ hx
            | (go_ret; exact ⟨.inl rfl, rfl⟩)
      · obtain rfl : j = n := by omega
        go_wp2_with fail
        go_ret
        exact ⟨.inr ⟨rfl, h0, HF.out⟩, rfl⟩
  · go_wp2_with fail
    go_ret
    exact ⟨.inl rfl, rfl⟩
end Go.Proofs.Ytdbkbeojedndbaa
/-
  The walk of op.Names.
-/
namespace Go.Proofs.Ytdbkbeojedndbaa
open Go.RowKit

theorem namesL_next {L : List OpV} {j : Nat} (h : j < L.length) : namesL (L.take (j + 1)) = namesL (L.take j) ++ namesOf (opv L j) := by
  unfold namesL opv
  rw [List.take_succ_eq_append_getElem h, List.getD_eq_getElem?_getD, List.getElem?_eq_getElem h, List.flatMap_append]
  simp
set_option maxHeartbeats 1000000 in
set_option maxRecDepth 100000 in
theorem Names_calls (A : Option Addr) (n cap : Nat) (L : List OpV) (w : World) (hO : OpsAt w A n L) (hn : n ≤ 2000) (hF : ∀ i, i < n → FewAt (opv L i)) :
    Calls Try.prog 72 #[.slice A n cap] w fun e w' => ∃ v, e = .returned v ∧ w'.ownsRow w.heap.size 44 2 v (namesL L).length (nms (namesL L)) ∧ (namesL L).length ≤ 42 * n ∧ Below w.heap.size w w' := by
  have HO := Lib.hid hO
  have HF := Lib.hid hF
  clear hO hF
  go_enter Try.func72, Try.ntmps72
  go_wp2_with fail
  go_loopw [3, 10] (fun v i wr => ∃ j : Nat, j ≤ n ∧ i = .int .i64 j ∧ Hid (wr.ownsRow w.heap.size 44 2 v (namesL (L.take j)).length (nms (namesL (L.take j)))) ∧ (namesL (L.take j)).length ≤ 42 * j ∧ Hid (Below w.heap.size w wr)) (fun _ i _ => n - (intOf i).toNat)
  case atStart => exact ⟨0, by omega, rfl, World.ownsRow_nil _ _ _ _, by simp [namesL], Below.refl _ _⟩
  case round =>
    obtain ⟨j, hj, rfl, HN, hN42, HB⟩ := hrel
    obtain ⟨W, hW⟩ : ∃ W, W = wr := ⟨_, rfl⟩
    subst hW
    by_cases hlt : j < n
    · obtain ⟨b, o, hA, hc⟩ := HO.out.2.2 (by omega)
      subst hA
      have hx := HO.out.2.1 _ (opv_mem (L := L) (j := j) (by rw [HO.out.1]; exact hlt))
      have hf := HF.out j hlt
      obtain ⟨x, hxe⟩ : ∃ x, x = opv L j := ⟨_, rfl⟩
      have hcj := (hc j hlt).below HB.out
      rw [← hxe] at hx hcj hf
      have HXE := Lib.hid hxe
      have HP := Lib.hid (hx.2.below HB.out)
      have HZ := Lib.hid hx.1.pz
      have hp40 := hf.p
      obtain ⟨c0, c1, c2, c3, c4, c5, c6, c7, c8, c9, c10, c11, c12⟩ := hcj
      clear hc hxe hx hf
      obtain ⟨ALL, hALL⟩ : ∃ ALL, ALL = x.obj :: x.elem :: x.preds := ⟨_, rfl⟩
      obtain ⟨M, hM⟩ : ∃ M, M = 2 + x.pn := ⟨_, rfl⟩
      have HALL := Lib.hid hALL
      have HM := Lib.hid hM
      have hM42 : M ≤ 42 := by omega
      clear hALL hM
      have hlit : ((W.alloc (.cells #[.int .i64 x.obj.1, .string x.obj.2, .string x.key, .bool x.keyed, .int .i64 x.elem.1, .string x.elem.2, .bool x.ins, .int .i64 x.act, .int .i64 x.kind, .int .u64 x.u, .int .i64 x.n, .string x.s, .slice x.pA x.pn x.pc] 50)).alloc (.cells #[.int .i64 x.obj.1, .string x.obj.2, .int .i64 x.elem.1, .string x.elem.2] 44)).ownsRow W.heap.size 44 2 (.slice (some ⟨W.heap.size + 1, 0, none⟩) 2 2) 2 [.int .i64 x.obj.1, .string x.obj.2, .int .i64 x.elem.1, .string x.elem.2] := by
        have h := World.ownsRow_lit (base := W.heap.size) (size := 2) (e := 44) (W.alloc (.cells #[.int .i64 x.obj.1, .string x.obj.2, .string x.key, .bool x.keyed, .int .i64 x.elem.1, .string x.elem.2, .bool x.ins, .int .i64 x.act, .int .i64 x.kind, .int .u64 x.u, .int .i64 x.n, .string x.s, .slice x.pA x.pn x.pc] 50)) #[.int .i64 x.obj.1, .string x.obj.2, .int .i64 x.elem.1, .string x.elem.2] 2 (by simp) (by simp [maxLen]) rfl
        simpa using h
      have Hlit := Lib.hid hlit
      have hp2 := HP.out.toV
      have hp3 := (hp2.below ((Below.refl W.heap.size W).alloc (Nat.le_refl _) (.cells #[.int .i64 x.obj.1, .string x.obj.2, .string x.key, .bool x.keyed, .int .i64 x.elem.1, .string x.elem.2, .bool x.ins, .int .i64 x.act, .int .i64 x.kind, .int .u64 x.u, .int .i64 x.n, .string x.s, .slice x.pA x.pn x.pc] 50)))
      have Hp4 := Lib.hid (hp3.below ((Below.refl _ _).alloc (Nat.le_refl _) (.cells #[.int .i64 x.obj.1, .string x.obj.2, .int .i64 x.elem.1, .string x.elem.2] 44)))
      clear hlit hp2 hp3
      go_wp2_with (at_builtin; refine wpList_appV rfl _ _ rfl elNm Hlit.out rfl rfl Hp4.out HZ.out (nms_one _) (by omega) (by simp <;> omega) ?_; intro v1 w1 hown1 hfr1 hat1; rw [← HM.out] at hown1; obtain ⟨A1, p1, rfl⟩ := own_slice hown1; have Hown1 := Lib.hid hown1; have Hfr1 := Lib.hid hfr1; clear hown1 hfr1 hat1)
      have hb1 : Below W.heap.size W w1 := (((Below.refl W.heap.size W).alloc (Nat.le_refl _) _).alloc (by simp) _).trans (Hfr1.out.below (by simp <;> omega) (fun o ho i e => by simp [Value.ownBlock] at ho; subst ho; simp at e; omega))
      have h1 : w1.ownsRow W.heap.size 44 2 (.slice A1 M p1) M (nms ALL) := by
        have h := Hown1.out
        have e : ([.int .i64 x.obj.1, .string x.obj.2, .int .i64 x.elem.1, .string x.elem.2] : List Value) ++ nms x.preds = nms ALL := by rw [HALL.out]; rfl
        rw [e] at h
        exact h
      have hALM : ALL.length = M := by rw [HALL.out, HM.out, ← HP.out.1]; simp; omega
      obtain ⟨N0, hN0⟩ : ∃ N, N = namesL (L.take j) := ⟨_, rfl⟩
      rw [← hN0] at HN hN42
      have HN0 := Lib.hid hN0
      have H1 := Lib.hid h1
      have HALM := Lib.hid hALM
      have hap : Apart u3.ownBlock (Value.slice A1 M p1).ownBlock := fun i hi e2 => by
        have q1 := (HN.out.lt i hi).2
        have q2 := (h1.lt i e2).1
        omega
      have Hap := Lib.hid hap
      have HN1 := Lib.hid (own_below HN.out hb1)
      have HB1 := Lib.hid (below_seq HB.out (Nat.le_refl _) hb1)
      have hbs := HB.out.size
      clear hb1 h1 hN0 hap hALM Hlit Hp4 Hfr1 Hown1 c0 c1 c2 c3 c4 c5 c6 c7 c8 c9 c10 c11 c12
      go_loopw [3, 23] (fun v i wr => ∃ k : Nat, k ≤ M ∧ i = .int .i64 k ∧ Hid (wr.ownsRow w.heap.size 44 2 v (N0 ++ (ALL.take k).filter fun y => !zeroNm y).length (nms (N0 ++ (ALL.take k).filter fun y => !zeroNm y))) ∧ (N0 ++ (ALL.take k).filter fun y => !zeroNm y).length ≤ 42 * j + k ∧ Hid (wr.ownsRow W.heap.size 44 2 (.slice A1 M p1) M (nms ALL)) ∧ Hid (Apart v.ownBlock (Value.slice A1 M p1).ownBlock) ∧ Hid (Below w.heap.size w wr)) (fun _ i _ => M - (intOf i).toNat)
      case atStart => exact ⟨0, by omega, rfl, Lib.hid (by simpa using HN1.out), by simpa using hN42, H1.out, Hap.out, HB1.out⟩
      case round =>
        obtain ⟨k, hk, rfl, HO2, hlen, H2, HA2, HB2⟩ := hrel
        obtain ⟨W2, hW2⟩ : ∃ W, W = wr := ⟨_, rfl⟩
        subst hW2
        by_cases hlk : k < M
        · obtain ⟨_, _, e2, _, hnm, _⟩ := own_nms H2.out
          cases e2
          obtain ⟨b2, o2, hA2, hc2⟩ := hnm.2 (by omega)
          obtain ⟨d0, d1⟩ := hc2 k hlk
          obtain ⟨y, hy⟩ : ∃ y, y = nm ALL k := ⟨_, rfl⟩
          rw [← hy] at d0 d1
          subst hA2
          have HY := Lib.hid hy
          clear hc2 hnm hy
          have hfn : (ALL.take (k + 1)).filter (fun y => !zeroNm y) = (ALL.take k).filter (fun y => !zeroNm y) ++ if zeroNm y then [] else [y] := by
            have hkA : k < ALL.length := by rw [HALM.out]; exact hlk
            rw [List.take_succ_eq_append_getElem hkA, List.filter_append]
            congr 1
            have : ALL[k] = y := by rw [HY.out]; unfold nm; rw [List.getD_eq_getElem?_getD, List.getElem?_eq_getElem hkA]; rfl
            rw [this]
            by_cases hz : zeroNm y = true <;> simp [hz]
          have Hfn := Lib.hid hfn
          clear hfn
          obtain ⟨OUT, hOUT⟩ : ∃ OUT, OUT = N0 ++ (ALL.take k).filter fun y => !zeroNm y := ⟨_, rfl⟩
          obtain ⟨nO, hnO⟩ : ∃ nO, nO = OUT.length := ⟨_, rfl⟩
          rw [← hOUT, ← hnO] at HO2
          rw [← hOUT, ← hnO] at hlen
          have HOUT := Lib.hid hOUT
          have HnO := Lib.hid hnO
          clear hOUT hnO
          obtain ⟨Au, pu, hvu⟩ := own_slice HO2.out
          subst hvu
          go_wp2_with fail
          refine (Zero_calls y _).mono ?_
          rintro e w3 ⟨rfl, hb3⟩
          have z0 := (laid_kept hb3 0 _ rfl).1
          have z1 := (laid_kept hb3 1 _ rfl).1
          have Hb23 := Lib.hid (((Below.refl W2.heap.size W2).alloc (Nat.le_refl _) _).trans (hb3.mono (by simp)))
          have HB23 := Lib.hid (HB2.out.trans (Hb23.out.mono HB2.out.size))
          have hsz3 := HB23.out.size
          have H23 := Lib.hid (own_below H2.out Hb23.out)
          have HO23 := Lib.hid (own_below HO2.out Hb23.out)
          clear hb3
          by_cases hz : zeroNm y = true
          · go_wp2_with fail
            go_roundw
            case rel =>
              have h := Hfn.out
              rw [if_pos hz, List.append_nil] at h
              exact ⟨k + 1, by omega, by go_num, by rw [h, ← HOUT.out, ← HnO.out]; exact HO23.out, by rw [h, ← HOUT.out, ← HnO.out]; omega, H23.out, HA2.out, HB23.out⟩
            case measure => simp [intOf]; omega
          · have hz' : zeroNm y = false := by simpa using hz
            go_wp2_with (at_builtin; refine wpList_app3 rfl _ _ rfl elNm HO23.out rfl rfl rfl rfl rfl (by omega) hsz3 ?_; intro g cg w4 hown4 hfr4 hat4 hlt4; have Hown4 := Lib.hid hown4; have Hfr4 := Lib.hid hfr4; have Hat4 := Lib.hid hat4; clear hown4 hfr4 hat4)
            go_roundw
            case rel =>
              have h := Hfn.out
              rw [if_neg hz] at h
              have ho := Hown4.out
              have e0 : N0 ++ (ALL.take (k + 1)).filter (fun y => !zeroNm y) = OUT ++ [y] := by rw [h, ← List.append_assoc, ← HOUT.out]
              have e : nms OUT ++ (#[Value.int .i64 y.1, Value.string y.2] : Array Value).toList = nms (N0 ++ (ALL.take (k + 1)).filter fun y => !zeroNm y) := by rw [e0, nms_app]; rfl
              have e2 : (N0 ++ (ALL.take (k + 1)).filter fun y => !zeroNm y).length = nO + 1 := by rw [e0, List.length_append, ← HnO.out]; rfl
              rw [e] at ho
              refine ⟨k + 1, by omega, by go_num, by rw [e2]; exact ho, by omega, own_fr H23.out Hfr4.out (fun o ho2 => by simp at ho2; subst ho2; exact HA2.out.symm), ?_, HB23.out.trans (Hfr4.out.below hsz3 (fun o ho2 i e3 => by simp at ho2; subst ho2; exact (HO23.out.lt i e3).1))⟩
              intro i hi e3
              have hi' : g = i := by simpa [Value.ownBlock] using hi
              subst hi'
              rcases Hat4.out with q | q
              · exact HA2.out g q e3
              · have q1 := (H23.out.lt g e3).2
                omega
            case measure => simp [intOf]; omega
        · obtain hke := Lib.hid (show k = M by omega)
          go_wp2_with fail
          go_roundw
          case rel =>
            have hfa : ALL.take k = ALL := List.take_of_length_le (by rw [HALM.out, hke.out]; exact Nat.le_refl _)
            have hno : N0 ++ ALL.filter (fun y => !zeroNm y) = namesL (L.take (j + 1)) := by
              rw [namesL_next (by rw [HO.out.1]; exact hlt), ← HN0.out, ← HXE.out, HALL.out]
              rfl
            rw [hfa, hno] at HO2 hlen
            exact ⟨j + 1, by omega, by go_num, HO2.out, by omega, HB2.out⟩
          case measure => simp [intOf]; omega
    · obtain rfl : j = n := by omega
      have hLt : L.take j = L := List.take_of_length_le (by rw [HO.out.1]; exact Nat.le_refl _)
      rw [hLt] at HN hN42
      go_wp2_with fail
      go_ret
      exact ⟨_, rfl, HN.out, hN42, HB.out⟩
end Go.Proofs.Ytdbkbeojedndbaa
/-
  The walk of the reference's Names.
-/
namespace Go.Proofs.Ytdbkbeojedndbaa
open Go.RowKit

theorem neqZero (y : Nm) : ∀ w, Sem.run Try.prog (binOp .neq 44 (.agg #[.int .i64 y.1, .string y.2]) (.agg #[.int .i64 0, .string ⟨#[]⟩])) w = .ok (.bool (!zeroNm y)) w := fun w => by
  have h := neqNm y.1 0 y.2 ⟨#[]⟩ w
  rw [h]
  have : ((y.1 == 0) && ((y.2 == (⟨#[]⟩ : ByteArray)) && true)) = zeroNm y := by rw [Bool.and_true]; rfl
  rw [this]
/-- A row of names that grows. -/
structure NSt (w wr : World) (v : Value) (n : Nat) (F : List Nm) : Prop where
  own : wr.ownsRow w.heap.size 44 2 v n (nms F)
  bel : Below w.heap.size w wr
theorem NSt.len {w wr : World} {v : Value} {n : Nat} {F : List Nm} (h : NSt w wr v n F) : F.length = n := by
  have := h.own.1
  rw [nms_length] at this
  omega
theorem NSt.app {w wr w4 : World} {v v' : Value} {n : Nat} {F : List Nm} {y : Nm} (h : NSt w wr v n F) (ho : w4.ownsRow w.heap.size 44 2 v' (n + 1) (nms F ++ (#[Value.int .i64 y.1, Value.string y.2] : Array Value).toList)) (hf : Fr wr w4 [v.ownBlock]) : NSt w w4 v' (n + 1) (F ++ [y]) :=
  ⟨by rw [nms_app]; exact ho, h.bel.trans (hf.below h.bel.size (fun o ho2 i e3 => by simp at ho2; subst ho2; exact (h.own.lt i e3).1))⟩
def keepNm (y : Nm) : List Nm := if zeroNm y then [] else [y]
theorem filter_keep (l : List Nm) : l.filter (fun y => !zeroNm y) = l.flatMap keepNm := by
  induction l with
  | nil => rfl
  | cons a l ih =>
    rw [List.flatMap_cons, ← ih]
    unfold keepNm
    by_cases h : zeroNm a = true <;> simp [h]
set_option maxHeartbeats 1000000 in
set_option maxRecDepth 100000 in
theorem rNames_calls (A : Option Addr) (n cap : Nat) (L : List OpV) (w : World) (hO : OpsAt w A n L) (hn : n ≤ 100) (hF : ∀ i, i < n → FewAt (opv L i)) :
    Calls Try.prog 42 #[.slice A n cap] w fun e w' => ∃ v, e = .returned v ∧ w'.ownsRow w.heap.size 44 2 v (namesL L).length (nms (namesL L)) ∧ (namesL L).length ≤ 42 * n ∧ Below w.heap.size w w' := by
  have HO := Lib.hid hO
  have HF := Lib.hid hF
  clear hO hF
  go_enter Try.func42, Try.ntmps42
  go_wp2_with fail
  go_loopg [3, 4] n (fun g v i wr => ∃ j m : Nat, j + g = n ∧ i = .int .i64 j ∧ Hid (NSt w wr v m (namesL (L.take j))) ∧ m ≤ 42 * j)
  case atStart => exact ⟨0, 0, by omega, rfl, ⟨World.ownsRow_nil _ _ _ _, Below.refl _ _⟩, by omega⟩
  case round =>
    obtain ⟨j, m, hj, rfl, HN, hm42⟩ := hrel
    obtain ⟨W, hW⟩ : ∃ W, W = wr := ⟨_, rfl⟩
    subst hW
    have HB := Lib.hid HN.out.bel
    by_cases hlt : j < n
    · obtain ⟨b, o, hA, hc⟩ := HO.out.2.2 (by omega)
      subst hA
      have hx := HO.out.2.1 _ (opv_mem (L := L) (j := j) (by rw [HO.out.1]; exact hlt))
      have hf := HF.out j hlt
      obtain ⟨x, hxe⟩ : ∃ x, x = opv L j := ⟨_, rfl⟩
      have hcw := hc j hlt
      have hcj := hcw.below HB.out
      rw [← hxe] at hx hcj hf hcw
      have HXE := Lib.hid hxe
      have HPw := Lib.hid hx.2
      have HCw := Lib.hid hcw
      have hp40 := hf.p
      have c0 := hcj.c0
      have c1 := hcj.c1
      obtain ⟨N0, hN0⟩ : ∃ N, N = namesL (L.take j) := ⟨_, rfl⟩
      rw [← hN0] at HN
      have HN0 := Lib.hid hN0
      have q0 := neqZero x.obj
      have q1 := neqZero x.elem
      obtain ⟨Au, pu, hvu⟩ := own_slice HN.out.own
      subst hvu
      have hsz := HB.out.size
      clear hc hxe hx hf hcw hcj hN0
      go_upto_if 18 with fail
      go_cut [3] from 6 to 72 (fun v wx => ∃ m1, Hid (NSt w wx v m1 (N0 ++ keepNm x.obj)) ∧ m1 ≤ m + 1)
      case first =>
        by_cases ho : zeroNm x.obj = true
        · rw [ho]
          go_wp2_with fail
          go_meet
          exact ⟨m, by unfold keepNm; rw [if_pos ho, List.append_nil]; exact HN.out, by omega⟩
        · have ho' : zeroNm x.obj = false := by simpa using ho
          rw [ho']
          go_wp2_with (at_builtin; refine wpList_app3 rfl _ _ rfl elNm HN.out.own rfl rfl rfl rfl rfl (by omega) hsz ?_; intro g4 cg w4 hown4 hfr4 hat4 hlt4; have H4 := Lib.hid (HN.out.app hown4 hfr4); clear hown4 hfr4 hat4)
          go_meet
          exact ⟨m + 1, by unfold keepNm; rw [if_neg ho]; exact H4.out, by omega⟩
      case rest =>
        obtain ⟨m1, H1, hm1⟩ := hcut
        obtain ⟨W1, hW1⟩ : ∃ W, W = wc := ⟨_, rfl⟩
        subst hW1
        obtain ⟨Av, pv, hvv⟩ := own_slice H1.out.own
        subst hvv
        have hc1 := HCw.out.below H1.out.bel
        have c4 := hc1.c4
        have c5 := hc1.c5
        have hsz1 := H1.out.bel.size
        clear c0 c1 hc1
        go_upto_if 33 with fail
        go_cut [3] from 6 to 72 (fun v wx => ∃ m2, Hid (NSt w wx v m2 (N0 ++ keepNm x.obj ++ keepNm x.elem)) ∧ m2 ≤ m + 2)
        case first =>
          by_cases ho : zeroNm x.elem = true
          · rw [ho]
            go_wp2_with fail
            go_meet
            exact ⟨m1, by unfold keepNm; rw [if_pos ho, List.append_nil]; exact H1.out, by omega⟩
          · have ho' : zeroNm x.elem = false := by simpa using ho
            rw [ho']
            go_wp2_with (at_builtin; refine wpList_app3 rfl _ _ rfl elNm H1.out.own rfl rfl rfl rfl rfl (by omega) hsz1 ?_; intro g4 cg w4 hown4 hfr4 hat4 hlt4; have H4 := Lib.hid (H1.out.app hown4 hfr4); clear hown4 hfr4 hat4)
            go_meet
            exact ⟨m1 + 1, by unfold keepNm; rw [if_neg ho]; exact H4.out, by omega⟩
        case rest =>
          obtain ⟨m2, H2, hm2⟩ := hcut
          obtain ⟨W2, hW2⟩ : ∃ W, W = wc := ⟨_, rfl⟩
          subst hW2
          have hlp : Hid (x.preds.length = x.pn) := Lib.hid HPw.out.1
          clear c4 c5 hsz1 q0 q1 hsz
          go_wp2_with fail
          go_loopg [3, 5] x.pn (fun g2 v i wx => ∃ k m3 : Nat, k + g2 = x.pn ∧ i = .int .i64 k ∧ Hid (NSt w wx v m3 (N0 ++ keepNm x.obj ++ keepNm x.elem ++ (x.preds.take k).flatMap keepNm)) ∧ m3 ≤ m + 2 + k)
          case atStart => exact ⟨0, m2, by omega, rfl, Lib.hid (by simpa using H2.out), by omega⟩
          case round =>
            obtain ⟨k, m3, hk, rfl, H3, hm3⟩ := hrel
            obtain ⟨W3, hW3⟩ : ∃ W, W = wr := ⟨_, rfl⟩
            subst hW3
            have c12 := (HCw.out.below H3.out.bel).c12
            have hsz3 := H3.out.bel.size
            by_cases hkl : k < x.pn
            · obtain ⟨bp, op, hpA, hpc⟩ := HPw.out.2 (by omega)
              obtain ⟨d0, d1⟩ := (hpc k hkl).below H3.out.bel
              obtain ⟨y, hy⟩ : ∃ y, y = nm x.preds k := ⟨_, rfl⟩
              rw [← hy] at d0 d1
              rw [hpA] at c12
              have hfn : (x.preds.take (k + 1)).flatMap keepNm = (x.preds.take k).flatMap keepNm ++ keepNm y := by
                have hkA : k < x.preds.length := by rw [hlp.out]; exact hkl
                rw [List.take_succ_eq_append_getElem hkA, List.flatMap_append]
                congr 1
                have : x.preds[k] = y := by rw [hy]; unfold nm; rw [List.getD_eq_getElem?_getD, List.getElem?_eq_getElem hkA]; rfl
                rw [this]
                simp
              have Hfn := Lib.hid hfn
              have qy := neqZero y
              obtain ⟨Av3, pv3, hvv3⟩ := own_slice H3.out.own
              subst hvv3
              clear hpc hpA hy hfn
              by_cases ho : zeroNm y = true
              · have hb9 : (!zeroNm y) = false := by rw [ho]; rfl
                go_wp2_with fail
                go_roundg (gk - 1)
                case measure => omega
                case rel =>
                  exact ⟨k + 1, m3, by omega, by go_num, by rw [Hfn.out]; unfold keepNm; rw [if_pos ho, List.append_nil]; exact H3.out, by omega⟩
              · have ho' : zeroNm y = false := by simpa using ho
                have hb9 : (!zeroNm y) = true := by rw [ho']; rfl
                go_wp2_with (at_builtin; refine wpList_app3 rfl _ _ rfl elNm H3.out.own rfl rfl rfl rfl rfl (by omega) hsz3 ?_; intro g4 cg w4 hown4 hfr4 hat4 hlt4; have H4 := Lib.hid (H3.out.app hown4 hfr4); clear hown4 hfr4 hat4)
                go_roundg (gk - 1)
                case measure => omega
                case rel =>
                  have e9 : keepNm y = [y] := by unfold keepNm; rw [if_neg ho]
                  exact ⟨k + 1, m3 + 1, by omega, by go_num, by rw [Hfn.out, e9, ← List.append_assoc]; exact H4.out, by omega⟩
            · have Hke := Lib.hid (show k = x.pn by omega)
              go_wp2_with fail
              go_roundg (n - j - 1)
              case measure => omega
              case rel =>
                have hfa : x.preds.take k = x.preds := List.take_of_length_le (by rw [hlp.out, Hke.out]; exact Nat.le_refl _)
                have hno : N0 ++ keepNm x.obj ++ keepNm x.elem ++ x.preds.flatMap keepNm = namesL (L.take (j + 1)) := by
                  rw [namesL_next (by rw [HO.out.1]; exact hlt), ← HN0.out, ← HXE.out]
                  unfold namesOf
                  rw [filter_keep, List.flatMap_cons, List.flatMap_cons]
                  simp [List.append_assoc]
                have h3 := H3.out
                rw [hfa, hno] at h3
                exact ⟨j + 1, m3, by omega, by go_num, h3, by omega⟩
    · obtain rfl : j = n := by omega
      have hLt : L.take j = L := List.take_of_length_le (by rw [HO.out.1]; exact Nat.le_refl _)
      rw [hLt] at HN
      have hl := HN.out.len
      subst hl
      go_wp2_with fail
      go_ret
      exact ⟨_, rfl, HN.out.own, by omega, HB.out⟩
end Go.Proofs.Ytdbkbeojedndbaa
/-
  slices.Sort at strings, by the shelf.
-/
namespace Go.Proofs.Ytdbkbeojedndbaa
open Go.RowKit Go.Shelf
end Go.Proofs.Ytdbkbeojedndbaa
namespace Go.Proofs
open Go.Shelf
shelf_lay_g SlLaysN.n54 Slgn 54 at Try 73 as Try.sortStr
end Go.Proofs
/-
  The walk of actors.Table.
-/
namespace Go.Proofs.Ytdbkbeojedndbaa
open Go.RowKit Go.Maps Go.WideMaps

theorem keyS : Keyed Try.prog 9 := string_keyed Try.underlying9
theorem map_below {w w1 : World} {P : Program} {k : TypeId} {R : Value → Option (DataW Unit × List MemPlace)} {b n : Nat} {D : DataW Unit} (h : w.ownsMap P k R b n D) (hb : Below w.heap.size w w1) : w1.ownsMap P k R b n D := by
  obtain ⟨es, clock, hes, r⟩ := h
  exact ⟨es, clock, (hb.block b (Array.getElem?_eq_some_iff.1 hes).1).trans hes, r⟩
theorem map_fr {w w1 : World} {P : Program} {k : TypeId} {R : Value → Option (DataW Unit × List MemPlace)} {b n : Nat} {D : DataW Unit} {S : List (Option Nat)} (h : w.ownsMap P k R b n D) (hf : Fr w w1 S) (hS : ∀ o ∈ S, o ≠ some b) : w1.ownsMap P k R b n D := by
  obtain ⟨es, clock, hes, r⟩ := h
  exact ⟨es, clock, (hf.block b (Array.getElem?_eq_some_iff.1 hes).1 hS).trans hes, r⟩
theorem map_apart {w : World} {P : Program} {k : TypeId} {R : Value → Option (DataW Unit × List MemPlace)} {b n : Nat} {D : DataW Unit} (h : w.ownsMap P k R b n D) {base m size : Nat} {e : TypeId} {v : Value} {xs : List Value} (ho : w.ownsRow base e size v m xs) : v.ownBlock ≠ some b := by
  obtain ⟨es, clock, hes, _⟩ := h
  intro hk
  rcases ho.2 with ⟨rfl, _⟩ | ⟨g, cap, cur, rfl, _, hg, _⟩
  · simp [Value.ownBlock] at hk
  · simp [Value.ownBlock] at hk
    subst hk
    rw [hes] at hg
    cases hg
/-- The map tells who was met. -/
def MetD (D : DataW Unit) (S : ByteArray → Prop) : Prop := ∀ s : ByteArray, s.size ≤ maxLen → ∀ b : Bool, (b = true ↔ S s) → D.atKey (.string (bytes s)) (.lit (.bool false)) = .lit (.bool b)
theorem isKey {s : ByteArray} (hs : s.size ≤ maxLen) : WideAt.IsKeyLit (.string (bytes s)) := keyS.key (keyOf_string_mk Try.underlying9 hs)
theorem MetD.put {D : DataW Unit} {S : ByteArray → Prop} (h : MetD D S) (hD : IsMap D) {s : ByteArray} (hs : s.size ≤ maxLen) : MetD (D.put (.string (bytes s)) (.lit (.bool true))) (fun t => S t ∨ t = s) := by
  intro t ht b hb
  by_cases e : bytes t = bytes s
  · have e' := bytes_inj' e
    subst e'
    rw [atKey_put_same hD (isKey hs)]
    rw [hb.2 (.inr rfl)]
  · rw [atKey_put_other (fun e2 => e (Lit.string.inj e2))]
    refine h t ht b (hb.trans ?_)
    constructor
    · rintro (h1 | h1)
      · exact h1
      · subst h1; exact absurd rfl e
    · exact .inl
theorem MetD.start {S : ByteArray → Prop} (h : ∀ s, ¬ S s) : MetD (.map []) S := fun s _ b hb => by
  cases b with
  | false => rfl
  | true => exact absurd (hb.1 rfl) (h s)
theorem MetD.congr {D : DataW Unit} {S T : ByteArray → Prop} (h : MetD D S) (e : ∀ s, S s ↔ T s) : MetD D T := fun s hs b hb => h s hs b (hb.trans (e s).symm)
theorem zeroBool (w : World) : (zeroValue 4).run Try.prog w = .ok (.bool false) w := by kernel_rfl
set_option maxRecDepth 100000 in
theorem met_look {w : World} {b n : Nat} {D : DataW Unit} {S : ByteArray → Prop} (h : w.ownsMap Try.prog 9 (plainElem Try.prog 4) b n D) (hM : MetD D S) {s : ByteArray} (hs : s.size ≤ maxLen) (c : Bool) (hc : c = true ↔ S s) : (Instr.lookup 137 (.map (some b)) (.string s) false).run Try.prog w = .ok (.bool c) w := by
  obtain ⟨v, ps, hrun, hv⟩ := h.lookup keyS Try.underlying137 (zeroBool w) (plainElem_bool Try.underlying4 false) (keyOf_string_mk Try.underlying9 hs)
  rw [hM s hs c hc] at hv
  rw [hrun]
  have : v = .bool c := by
    unfold plainElem at hv
    rw [Try.underlying4] at hv
    cases v <;> simp at hv
    rw [hv.1]
  rw [this]
theorem met_put {w : World} {b n : Nat} {D : DataW Unit} {S : ByteArray → Prop} (h : w.ownsMap Try.prog 9 (plainElem Try.prog 4) b n D) (hM : MetD D S) (hn : n < maxLen) {s : ByteArray} (hs : s.size ≤ maxLen) :
    ∃ w' D', (Instr.mapUpdate 137 (.map (some b)) (.string s) (.bool true)).run Try.prog w = .ok () w' ∧ w'.ownsMap Try.prog 9 (plainElem Try.prog 4) b (n + 1) D' ∧ MetD D' (fun t => S t ∨ t = s) ∧ w.grownBy w' (some b) := by
  obtain ⟨w', hrun, h2, hg⟩ := h.update keyS Try.underlying137 hn (keyOf_string_mk Try.underlying9 hs) (plainElem_bool Try.underlying4 true)
  exact ⟨w', _, hrun, h2, hM.put h.isMap hs, hg⟩
theorem Fr.cellK {w w' : World} {S : List (Option Nat)} (h : Fr w w' S) {a : Addr} {v : Value} (hc : w.cell? a = some v) (ha : ∀ o ∈ S, o ≠ some a.block) : w'.cell? a = some v := by
  simp only [World.cell?] at hc ⊢
  rw [h.block a.block (World.block_lt_of_cell? w a hc) ha]
  exact hc
def sortS (out : List ByteArray) : List ByteArray := ((out.map bytes).mergeSort fun x y => decide (x ≤ y)).map text
theorem sortS_length (out : List ByteArray) : (sortS out).length = out.length := by simp [sortS]
theorem strs_enc (out : List ByteArray) : strs out = (out.map bytes).map Go.Proofs.encStr := by
  unfold strs
  rw [List.map_map]
  refine List.map_congr_left (fun x _ => ?_)
  show Value.string x = Value.string (text (bytes x))
  rw [text_bytes]
theorem strs_sortS (out : List ByteArray) : strs (sortS out) = ((out.map bytes).mergeSort fun x y => decide (x ≤ y)).map Go.Proofs.encStr := by
  unfold sortS strs
  rw [List.map_map]
  rfl
theorem Sort_calls (A : Option Addr) (n c base : Nat) (out : List ByteArray) (w : World) (ho : w.ownsRow base 9 1 (.slice A n c) n (strs out)) (hn : n ≤ 100000) :
    Calls Try.prog 73 #[.slice A n c] w fun e w' => e = .returned (.tuple #[]) ∧ w'.ownsRow base 9 1 (.slice A n c) n (strs (sortS out)) ∧ Fr w w' [(Value.slice A n c).ownBlock] := by
  have hl := ho.1
  rw [strs_length, Nat.mul_one] at hl
  rcases Nat.eq_zero_or_pos n with h0 | h0
  · subst h0
    refine (AnyG.slices_Sort_string_none Try.sortStr A c w).mono ?_
    rintro e w' ⟨rfl, rfl⟩
    obtain rfl : out = [] := List.length_eq_zero_iff.1 hl
    have e0 : sortS [] = [] := by simp [sortS]
    rw [e0]
    exact ⟨rfl, ho, Fr.refl _ _⟩
  · rcases ho.2 with ⟨h1, _⟩ | ⟨g, cap, cur, e1, hb, hg, h3, h4, h5, h6⟩
    · cases h1; omega
    · cases e1
      have hlb : (out.map bytes).length = n := by rw [List.length_map, hl]
      have ht : cur.toList.take (out.map bytes).length = (out.map bytes).map Go.Proofs.encStr := by
        rw [hlb, ← strs_enc, ← h6, Nat.mul_one]
      have hH := holds_of_block hg ht
      have hc := AnyG.slices_Sort_string Try.sortStr g 0 c (out.map bytes) w hH (Array.getElem?_eq_some_iff.1 hg).1 (by omega)
      rw [hlb] at hc
      refine hc.mono ?_
      rintro e w' ⟨rfl, n', os, rfl⟩
      have hr := ownsRow_sorted (n := n') (os := os) (ss := out.map bytes) (ts := (out.map bytes).mergeSort fun x y => decide (x ≤ y)) (by simp) hb hg (by omega) h4 h5
      rw [hlb, ← strs_sortS] at hr
      exact ⟨rfl, hr, Fr.ofGrown (grownBy_sorted _)⟩
set_option maxHeartbeats 1000000 in
set_option maxRecDepth 100000 in
theorem Table_calls (au : ByteArray) (A : Option Addr) (n cap : Nat) (L : List OpV) (w : World) (hau : au.size ≤ 1000) (hO : OpsAt w A n L) (hn : n ≤ 2000) (hF : ∀ i, i < n → FewAt (opv L i)) :
    Calls Try.prog 47 #[.string au, .slice A n cap] w fun e w' => ∃ v T, e = .returned v ∧ IsTable au (namesL L) T ∧ w'.ownsRow w.heap.size 9 1 v T.length (strs T) ∧ Below w.heap.size w w' := by
  have hsm : ∀ y ∈ namesL L, y.2.size ≤ 100 := namesL_small hO.1 (fun i hi => by
    have hf := hF i hi
    refine ⟨hf.o, hf.e, fun y hy => ?_⟩
    obtain ⟨q, hq, rfl⟩ := List.getElem_of_mem hy
    have hx := (hO.2.1 _ (opv_mem (L := L) (j := i) (by rw [hO.1]; exact hi))).2.1
    have := hf.y q (by omega)
    unfold nm at this
    rwa [List.getD_eq_getElem?_getD, List.getElem?_eq_getElem hq] at this)
  have Hsm := Lib.hid hsm
  have HO := Lib.hid hO
  have HF := Lib.hid hF
  have hau' : au.size ≤ maxLen := by unfold maxLen; omega
  have Hau := Lib.hid hau'
  have hmm := @run_makeMap Try.prog
  obtain ⟨W1, D1, hr1, hm1, hM1, hg1⟩ := met_put (World.ownsMap_made (H := Unit) w Try.prog 9 (plainElem Try.prog 4)) (MetD.start (S := fun _ => False) (fun _ h => h)) (by unfold maxLen; omega) hau'
  have hb1 : Below w.heap.size w W1 := ((Below.refl w.heap.size w).alloc (Nat.le_refl _) _).grown hg1 (by simp) (fun k hk => by cases hk; exact Nat.le_refl _)
  have Hm1 := Lib.hid hm1
  have HM1 := Lib.hid (hM1.congr (T := fun t => t = au ∨ t ∈ ([] : List ByteArray)) (fun s => by simp))
  have Hb1 := Lib.hid hb1
  have hs1 := hb1.size
  clear hO hF hau' hm1 hM1 hg1 hb1 hsm
  go_enter Try.func47, Try.ntmps47
  go_wp2_with fail
  clear hmm hr1
  refine (Names_calls A n cap L _ (HO.out.below Hb1.out) hn HF.out).mono ?_
  rintro e w2 ⟨v2, rfl, ho2, hlen, hb2⟩
  have HB2 := Lib.hid (below_seq Hb1.out (Nat.le_refl _) hb2)
  obtain ⟨A2, c2, rfl, _, hnm, hN2⟩ := own_nms ho2
  have Hm2 := Lib.hid (map_below Hm1.out hb2)
  have hs2 := hb2.size
  have hm0 := Hm1.out.lt
  obtain ⟨N, hN⟩ : ∃ N, N = namesL L := ⟨_, rfl⟩
  obtain ⟨m, hm⟩ : ∃ m, m = N.length := ⟨_, rfl⟩
  rw [← hN] at hnm Hsm hlen ho2 ⊢
  rw [← hm] at hnm hlen ho2 ⊢
  have hm42 : m ≤ 84000 := by omega
  have hcells : ∀ k, k < m → ∃ b o, A2 = some ⟨b, o, none⟩ ∧ NmCells w2 b (o + k * 2) (nm N k) ∧ b ≠ w.heap.size := by
    intro k hk
    obtain ⟨b, o, hA2, hc⟩ := hnm.2 (by omega)
    refine ⟨b, o, hA2, hc k hk, ?_⟩
    have := (ho2.lt b (by rw [hA2]; rfl)).1
    omega
  have HC := Lib.hid hcells
  have HN := Lib.hid hN
  have Hm := Lib.hid hm
  clear ho2 hnm hN2 hb2 hN hm hlen hcells
  go_wp2_with fail
  go_loopw [6, 15] (fun v i wr => ∃ (k : Nat) (D : DataW Unit) (out : List ByteArray), k ≤ m ∧ i = .int .i64 k ∧ Hid (wr.ownsRow w2.heap.size 9 1 v out.length (strs out)) ∧ out.length ≤ k ∧ Hid (wr.ownsMap Try.prog 9 (plainElem Try.prog 4) w.heap.size (k + 1) D) ∧ Hid (MetD D fun t => t = au ∨ t ∈ out) ∧ Hid (Dist au (N.take k) out) ∧ Hid (Fr w2 wr [some w.heap.size])) (fun _ i _ => m - (intOf i).toNat)
  case atStart => exact ⟨0, D1, [], by omega, rfl, World.ownsRow_nil _ _ _ _, by simp, Hm2.out, HM1.out, Dist.nil au, Fr.refl _ _⟩
  case round =>
    obtain ⟨k, D, out, hk, rfl, HOu, hol, HD, HM, HDi, HF2⟩ := hrel
    obtain ⟨W, hW⟩ : ∃ W, W = wr := ⟨_, rfl⟩
    subst hW
    obtain ⟨mo, hmo⟩ : ∃ mo, mo = out.length := ⟨_, rfl⟩
    rw [← hmo] at HOu hol
    have Hmo := Lib.hid hmo
    have hsw := HF2.out.size
    clear hmo
    by_cases hlt : k < m
    · obtain ⟨b2, o2, hA2, ⟨d0, d1⟩, hbne⟩ := HC.out k hlt
      obtain ⟨y, hy⟩ : ∃ y, y = nm N k := ⟨_, rfl⟩
      rw [← hy] at d0 d1
      subst hA2
      have hne : ∀ o ∈ [some w.heap.size], o ≠ some b2 := fun o ho e => by simp at ho; subst ho; cases e; exact hbne rfl
      have d0 := HF2.out.cellK d0 hne
      have d1 := HF2.out.cellK d1 hne
      have hkN : k < N.length := by rw [← Hm.out]; exact hlt
      have hyN : N[k] = y := by rw [hy]; unfold nm; rw [List.getD_eq_getElem?_getD, List.getElem?_eq_getElem hkN]; rfl
      have hys : y.2.size ≤ 100 := Hsm.out y (by rw [← hyN]; exact List.getElem_mem hkN)
      have hyM : y.2.size ≤ maxLen := by unfold maxLen; omega
      have hNt : N.take (k + 1) = N.take k ++ [y] := by rw [List.take_succ_eq_append_getElem hkN, hyN]
      have HNt := Lib.hid hNt
      have HyM := Lib.hid hyM
      clear hy hne hyN hNt hyM hkN
      by_cases hyo : y.2 = au ∨ y.2 ∈ out
      · have hlook := met_look (HD.out.alloc (.cells #[.int .i64 y.1, .string y.2] 44)) HM.out HyM.out true ⟨fun _ => hyo, fun _ => rfl⟩
        go_wp2_with fail
        go_roundw
        case rel =>
          exact ⟨k + 1, D, out, by omega, by go_num, by rw [← Hmo.out]; exact HOu.out.alloc _, by rw [← Hmo.out]; omega, (HD.out.alloc _).mono (by omega), HM.out, by rw [HNt.out]; exact HDi.out.old hyo, HF2.out.alloc _⟩
        case measure => simp [intOf]; omega
      · have hlook := met_look (HD.out.alloc (.cells #[.int .i64 y.1, .string y.2] 44)) HM.out HyM.out false ⟨fun h => (by cases h), fun h => absurd h hyo⟩
        obtain ⟨W3, D3, hr3, hD3, hM3, hg3⟩ := met_put (HD.out.alloc (.cells #[.int .i64 y.1, .string y.2] 44)) HM.out (by unfold maxLen; omega) HyM.out
        have hfr3 := Fr.ofGrown hg3
        have hnm : ∀ o ∈ [some w.heap.size], o ≠ some W.heap.size := fun o ho e => by simp at ho; subst ho; have := Option.some.inj e; omega
        have z1 : W3.cell? ⟨W.heap.size, 1, none⟩ = some (.string y.2) := hfr3.cellK (by simp) hnm
        obtain ⟨Au, pu, hvu⟩ := own_slice HOu.out
        subst hvu
        have hO3 : W3.ownsRow w2.heap.size 9 1 (.slice Au mo pu) mo (strs out) := own_fr (HOu.out.alloc _) hfr3 (fun o ho i hi e => by
          simp at ho; subst ho; cases e
          have := (HOu.out.lt _ hi).1
          omega)
        have hs3 : w2.heap.size ≤ W3.heap.size := Nat.le_trans (by simp; omega) hfr3.size
        have HO3 := Lib.hid hO3
        have HD3 := Lib.hid hD3
        have HM3 := Lib.hid (hM3.congr (T := fun t => t = au ∨ t ∈ out ++ [y.2]) (fun s => by simp [or_assoc]))
        have HF3 := Lib.hid ((HF2.out.alloc _).trans hfr3 (fun o ho => .inl ho))
        clear hD3 hM3 hg3 hfr3 hO3 hnm
        go_wp2_with (at_builtin; refine wpList_app3 rfl _ _ rfl elStr HO3.out rfl rfl rfl rfl rfl (by omega) hs3 ?_; intro g4 cg w4 hown4 hfr4 hat4 hlt4; have Hown4 := Lib.hid hown4; have Hfr4 := Lib.hid hfr4; clear hown4 hfr4 hat4)
        go_roundw
        case rel =>
          refine ⟨k + 1, D3, out ++ [y.2], by omega, by go_num, ?_, by rw [List.length_append, ← Hmo.out]; simp; omega, map_fr HD3.out Hfr4.out (fun o ho e => ?_), HM3.out, by rw [HNt.out]; exact HDi.out.new hyo, HF3.out.trans Hfr4.out (fun o ho => .inr (fun j e => (HO3.out.lt j (by simp at ho; subst ho; exact e)).1))⟩
          · rw [List.length_append, ← Hmo.out, strs_app]; exact Hown4.out
          · simp at ho; subst ho
            have := (HO3.out.lt _ e).1
            omega
        case measure => simp [intOf]; omega
    · obtain rfl : k = m := by omega
      have hNt : N.take k = N := List.take_of_length_le (by rw [← Hm.out]; exact Nat.le_refl _)
      rw [hNt] at HDi
      obtain ⟨Au, pu, hvu⟩ := own_slice HOu.out
      subst hvu
      go_wp2_with fail
      refine (Sort_calls Au mo pu w2.heap.size out _ HOu.out (by omega)).mono ?_
      rintro e w4 ⟨rfl, ho4, hf4⟩
      have Ho4 := Lib.hid ho4
      have hsz4 := hf4.size
      have HB4 : Hid (Below w.heap.size w w4) := Lib.hid (HB2.out.trans ((HF2.out.trans hf4 (fun o ho => .inr (fun j e => (HOu.out.lt j (by simp at ho; subst ho; exact e)).1))).below (by omega) (fun o ho j e => by simp at ho; subst ho; cases e; exact Nat.le_refl _)))
      have hs4 := HB4.out.size
      have HV4 := Lib.hid ((own_rdV (Ho4.out.alloc (.cells #[.string au] 9))))
      have Hlit := Lib.hid (World.ownsRow_lit (base := w.heap.size) (size := 1) (e := 9) w4 #[.string au] 1 hs4 (by simp [maxLen]) rfl)
      clear ho4 hf4
      obtain ⟨_, _, e4, _, hv4, hn4⟩ := HV4.out
      cases e4
      have Hv4 := Lib.hid hv4
      have Hn4 := Lib.hid hn4
      clear hv4 hn4
      go_wp2_with (at_builtin; refine wpList_appV rfl _ _ rfl elStr Hlit.out rfl rfl Hv4.out Hn4.out (strs_one _) (by omega) (by simp <;> omega) ?_; intro v5 w5 hown5 hfr5 hat5; have Hown5 := Lib.hid hown5; have Hfr5 := Lib.hid hfr5; clear hown5 hfr5 hat5)
      go_ret
      have h5 := Hown5.out
      have hT : (#[Value.string au] : Array Value).toList ++ strs (sortS out) = strs (au :: sortS out) := rfl
      rw [hT] at h5
      refine ⟨_, au :: sortS out, rfl, by rw [← HN.out]; exact HDi.out.table, by rw [List.length_cons, sortS_length, ← Hmo.out, Nat.add_comm]; exact h5, HB4.out.trans (((Below.refl w4.heap.size w4).alloc (Nat.le_refl _) _ |>.trans (Hfr5.out.below (by simp) (fun o ho j e => by simp [Value.ownBlock] at ho; subst ho; simp at e; omega))).mono hs4)⟩
end Go.Proofs.Ytdbkbeojedndbaa
/-
  An append of a read slice, as one operation of a region that draws its order.
-/
namespace Go.Proofs.Ytdbkbeojedndbaa
open Go.RowKit

theorem step_appRd {P : Program} {w : World} {ops : Array Oper} {o : Oper} {a : Act} {K : Act → World → Prop} {Q : Exit → Act → World → Prop} {E : Prop} (hgd : o.guard = none) (s x : Operand) {t : TypeId}
    (ho : o.op = .call { callee := .builtin .append, args := #[s, x], argTypes := #[t, t] })
    {base : Nat} {e : TypeId} {k : IntKind} {bytes : Nat} (El : ElT P t e (.int k 0) 1 bytes) {v : Value} {n : Nat} {ys : List Int} (hown : w.ownsRow base e 1 v n (ints k ys)) (hs : a.eval s = v)
    {A : Option Addr} {m c : Nat} {zs : List Int} (hx : a.eval x = .slice A m c) (hR : Rd w k A m zs) (hA : A = none → m = 0 ∧ c = 0) (hbytes : (n + m) * bytes ≤ 140737488355328) (hbase : base ≤ w.heap.size)
    (h : ∀ v' w', w'.ownsRow base e 1 v' (n + m) (ints k (ys ++ zs)) → w.grownBy w' v.ownBlock → K (a.put o.dst v') w') : if Region.wanted o (yielded ops a.tmps) = true then Oper.wp P o a w K Q else E := by
  have hw : Region.wanted o (yielded ops a.tmps) = true := by simp [Region.wanted, hgd]
  rw [if_pos hw]
  obtain ⟨i0, hi, hz0, hz1, hz2⟩ := info_parts El.info
  have hn : n + m ≤ maxLen := by
    have := Nat.mul_le_mul_left (n + m) El.bpos
    unfold maxLen
    omega
  have hl := hR.1
  cases A with
  | none =>
    obtain ⟨rfl, rfl⟩ := hA rfl
    have hz : zs = [] := List.length_eq_zero_iff.1 hl
    subst hz
    have hrun := run_append_owned_none (P := P) (w := w) base t o.type e i0 1 El.und hi v n _ hown
    have h9 := h v w (by simpa using hown) ⟨rfl, rfl, rfl, Nat.le_refl _, fun _ _ _ => rfl⟩
    unfold Oper.wp
    simp [execOp, ho, resolve, invoke, builtin, hs, hx, hrun, Result.andThen]
    exact h9
  | some ad =>
    refine wp_append_own _ s x t ho base e i0 (.int k 0) 1 bytes El.und hi hz0 hz1 hz2 El.zs El.pos v n _ hs hown ad m c (ints k zs) hx (by rw [ints_length]; omega) ?_ (fun u hu => ?_) hn hbytes hbase ?_
    · intro j u hu
      have hj : j < zs.length := by
        have := (List.getElem?_eq_some_iff.1 hu).1
        rwa [ints_length] at this
      obtain ⟨b, o', e', hc⟩ := hR.2 (by omega)
      cases e'
      rw [ints_get hj] at hu
      cases hu
      rw [addr_add]
      exact hc j (by omega)
    · obtain ⟨q, _, rfl⟩ := List.mem_map.1 hu
      rfl
    · intro v' w' h1 h2 _
      exact h v' w' (by rw [ints_append]; exact h1) h2
end Go.Proofs.Ytdbkbeojedndbaa
/-
  The reference's table grows (no program).
-/
namespace Go.Proofs.Ytdbkbeojedndbaa
open Go.RowKit

/-- May s come next? -/
def Cand (au : ByteArray) (t : List ByteArray) (s : ByteArray) : Prop := s ≠ au ∧ ∀ x, t.getLast? = some x → ltB x s
structure Grow (au : ByteArray) (N : List Nm) (t : List ByteArray) : Prop where
  up : t.Pairwise ltB
  ok : ∀ s ∈ t, s ≠ au ∧ ∃ y ∈ N, y.2 = s
  all : ∀ y ∈ N, y.2 ≠ au → y.2 ∈ t ∨ ∀ x ∈ t, ltB x y.2
theorem Grow.nil (au : ByteArray) (N : List Nm) : Grow au N [] := ⟨List.Pairwise.nil, (fun s h => by cases h), fun y _ _ => .inr (fun x h => by cases h)⟩
theorem last_top {t : List ByteArray} (h : t.Pairwise ltB) {x l : ByteArray} (hl : t.getLast? = some l) (hx : x ∈ t) : x = l ∨ ltB x l := by
  obtain ⟨f, rfl⟩ : ∃ f, t = f ++ [l] := by
    refine ⟨t.dropLast, ?_⟩
    rw [List.getLast?_eq_some_iff] at hl
    obtain ⟨f, rfl⟩ := hl
    simp
  rcases List.mem_append.1 hx with h1 | h1
  · exact .inr ((List.pairwise_append.1 h).2.2 x h1 l (by simp))
  · exact .inl (by simpa using h1)
theorem Grow.cand {au : ByteArray} {N : List Nm} {t : List ByteArray} (_h : Grow au N t) {s : ByteArray} (hc : Cand au t s) (hp : t.Pairwise ltB) : ∀ x ∈ t, ltB x s := by
  intro x hx
  cases hl : t.getLast? with
  | none => rw [List.getLast?_eq_none_iff] at hl; subst hl; cases hx
  | some l =>
    rcases last_top hp hl hx with e | e
    · subst e; exact hc.2 _ hl
    · exact ltB_trans e (hc.2 _ hl)
theorem Grow.next {au : ByteArray} {N : List Nm} {t : List ByteArray} (h : Grow au N t) {z : Nm} (hz : z ∈ N) (hc : Cand au t z.2) (hm : ∀ y ∈ N, Cand au t y.2 → ¬ ltB y.2 z.2) : Grow au N (t ++ [z.2]) := by
  have hb := h.cand hc h.up
  refine ⟨?_, ?_, ?_⟩
  · rw [List.pairwise_append]
    refine ⟨h.up, by simp, fun a ha b hb2 => ?_⟩
    obtain rfl : b = z.2 := by simpa using hb2
    exact hb a ha
  · intro s hs
    rcases List.mem_append.1 hs with h1 | h1
    · exact h.ok s h1
    · obtain rfl : s = z.2 := by simpa using h1
      exact ⟨hc.1, z, hz, rfl⟩
  · intro y hy hya
    rcases h.all y hy hya with h1 | h1
    · exact .inl (List.mem_append_left _ h1)
    · have hcy : Cand au t y.2 := ⟨hya, fun x hx => h1 x (List.mem_of_getLast? hx)⟩
      have h2 := hm y hy hcy
      by_cases e : y.2 = z.2
      · exact .inl (by rw [e]; simp)
      · refine .inr (fun x hx => ?_)
        rcases List.mem_append.1 hx with h3 | h3
        · exact h1 x h3
        · obtain rfl : x = z.2 := by simpa using h3
          exact ltB_or h2 e
theorem Grow.done {au : ByteArray} {N : List Nm} {t : List ByteArray} (h : Grow au N t) (hn : ∀ y ∈ N, ¬ Cand au t y.2) : IsTable au N (au :: t) := by
  refine ⟨t, rfl, h.up, fun s => ⟨h.ok s, ?_⟩⟩
  rintro ⟨h1, y, hy, rfl⟩
  rcases h.all y hy h1 with h2 | h2
  · exact h2
  · exact absurd ⟨h1, fun x hx => h2 x (List.mem_of_getLast? hx)⟩ (hn y hy)
open Classical in
/-- How many names are still to come. -/
noncomputable def left (N : List Nm) (t : List ByteArray) : Nat := (N.filter fun y => decide (y.2 ∉ t)).length
theorem left_le (N : List Nm) (t : List ByteArray) : left N t ≤ N.length := List.length_filter_le _ _
theorem filter_less {p q : Nm → Bool} {N : List Nm} (h : ∀ y, q y = true → p y = true) : (N.filter q).length ≤ (N.filter p).length := by
  induction N with
  | nil => simp
  | cons a N ih =>
    rw [List.filter_cons, List.filter_cons]
    by_cases hq : q a = true
    · rw [if_pos hq, if_pos (h a hq)]; simp; exact ih
    · rw [if_neg hq]
      split
      · simp; omega
      · exact ih
theorem filter_lt {p q : Nm → Bool} {N : List Nm} (h : ∀ y, q y = true → p y = true) {z : Nm} (hz : z ∈ N) (hp : p z = true) (hq : q z = false) : (N.filter q).length < (N.filter p).length := by
  induction N with
  | nil => cases hz
  | cons a N ih =>
    rw [List.filter_cons, List.filter_cons]
    rcases List.mem_cons.1 hz with e | e
    · subst e
      rw [if_pos hp, if_neg (by rw [hq]; decide)]
      have := filter_less (N := N) h
      simp; omega
    · have := ih e
      by_cases hqa : q a = true
      · rw [if_pos hqa, if_pos (h a hqa)]; simp; exact this
      · rw [if_neg hqa]
        split
        · simp; omega
        · exact this
open Classical in
theorem Grow.left {au : ByteArray} {N : List Nm} {t : List ByteArray} (h : Grow au N t) {z : Nm} (hz : z ∈ N) (hc : Cand au t z.2) : left N (t ++ [z.2]) < Go.Proofs.Ytdbkbeojedndbaa.left N t := by
  refine filter_lt (z := z) (fun y hy => ?_) hz ?_ ?_
  · simp at hy ⊢; exact hy.1
  · simp
    intro hm
    exact ltB_irrefl _ (h.cand hc h.up _ hm)
  · simp
theorem nodup_le : ∀ {t : List ByteArray} {N : List Nm} {P : ByteArray → Prop}, t.Nodup → (∀ s ∈ t, P s ∧ ∃ y ∈ N, y.2 = s) → t.length ≤ N.length := by
  intro t
  induction t with
  | nil => intro N P _ _; simp
  | cons a t ih =>
    intro N P h k
    obtain ⟨h1, h2⟩ := List.nodup_cons.1 h
    obtain ⟨_, y, hy, e⟩ := k a (List.mem_cons_self ..)
    have h3 := ih (N := N.filter fun z => decide (z.2 ≠ a)) (P := fun _ => True) h2 (fun s hs => by
      obtain ⟨_, z, hz, e2⟩ := k s (List.mem_cons_of_mem _ hs)
      refine ⟨trivial, z, List.mem_filter.2 ⟨hz, ?_⟩, e2⟩
      refine decide_eq_true (fun e3 => h1 ?_)
      rw [← e3, e2]; exact hs)
    have h4 := filter_lt (N := N) (p := fun _ => true) (q := fun z => decide (z.2 ≠ a)) (fun _ _ => rfl) hy rfl (by rw [e]; simp)
    rw [List.filter_eq_self.2 (fun _ _ => rfl)] at h4
    simp only [List.length_cons]
    omega
/-- The least candidate among the first. -/
structure Best (au : ByteArray) (N : List Nm) (t : List ByteArray) (k : Nat) (b : Int) : Prop where
  is : (b = -1 ∧ ∀ y ∈ N.take k, ¬ Cand au t y.2) ∨ (∃ j : Nat, b = j ∧ j < k ∧ Cand au t (nm N j).2 ∧ ∀ y ∈ N.take k, Cand au t y.2 → ¬ ltB y.2 (nm N j).2)
theorem Best.start (au : ByteArray) (N : List Nm) (t : List ByteArray) : Best au N t 0 (-1) := ⟨.inl ⟨rfl, fun y hy => by simp at hy⟩⟩
theorem take_nm {N : List Nm} {k : Nat} (h : k < N.length) : N.take (k + 1) = N.take k ++ [nm N k] := by
  rw [List.take_succ_eq_append_getElem h]
  unfold nm
  rw [List.getD_eq_getElem?_getD, List.getElem?_eq_getElem h]
  rfl
theorem nm_mem {N : List Nm} {k : Nat} (h : k < N.length) : nm N k ∈ N := by
  unfold nm
  rw [List.getD_eq_getElem?_getD, List.getElem?_eq_getElem h]
  exact List.getElem_mem h
theorem Best.skip {au : ByteArray} {N : List Nm} {t : List ByteArray} {k : Nat} {b : Int} (h : Best au N t k b) (hk : k < N.length) (hs : ¬ Cand au t (nm N k).2 ∨ (∃ j : Nat, b = j ∧ ¬ ltB (nm N k).2 (nm N j).2)) : Best au N t (k + 1) b := by
  refine ⟨?_⟩
  rw [take_nm hk]
  rcases h.is with ⟨rfl, h2⟩ | ⟨j, rfl, h2, h3, h4⟩
  · refine .inl ⟨rfl, fun y hy => ?_⟩
    rcases List.mem_append.1 hy with e | e
    · exact h2 y e
    · obtain rfl : y = nm N k := by simpa using e
      rcases hs with hs | ⟨j, e2, _⟩
      · exact hs
      · omega
  · refine .inr ⟨j, rfl, by omega, h3, fun y hy hc => ?_⟩
    rcases List.mem_append.1 hy with e | e
    · exact h4 y e hc
    · obtain rfl : y = nm N k := by simpa using e
      rcases hs with hs | ⟨j', e2, h5⟩
      · exact absurd hc hs
      · obtain rfl : j = j' := by omega
        exact h5
theorem Best.take {au : ByteArray} {N : List Nm} {t : List ByteArray} {k : Nat} {b : Int} (h : Best au N t k b) (hk : k < N.length) (hc : Cand au t (nm N k).2) (hs : b = -1 ∨ ∃ j : Nat, b = j ∧ ltB (nm N k).2 (nm N j).2) : Best au N t (k + 1) k := by
  refine ⟨.inr ⟨k, rfl, by omega, hc, fun y hy hcy => ?_⟩⟩
  rw [take_nm hk] at hy
  rcases List.mem_append.1 hy with e | e
  · rcases h.is with ⟨rfl, h2⟩ | ⟨j, rfl, h2, h3, h4⟩
    · exact absurd hcy (h2 y e)
    · rcases hs with hs | ⟨j', e2, h5⟩
      · omega
      · obtain rfl : j = j' := by omega
        exact fun h6 => h4 y e hcy (ltB_trans h6 h5)
  · obtain rfl : y = nm N k := by simpa using e
    exact ltB_irrefl _
theorem Best.rng {au : ByteArray} {N : List Nm} {t : List ByteArray} {k : Nat} {b : Int} (h : Best au N t k b) : b = -1 ∨ ∃ j : Nat, b = j ∧ j < k := by
  rcases h.is with ⟨h1, _⟩ | ⟨j, h1, h2, _⟩
  · exact .inl h1
  · exact .inr ⟨j, h1, h2⟩
end Go.Proofs.Ytdbkbeojedndbaa
