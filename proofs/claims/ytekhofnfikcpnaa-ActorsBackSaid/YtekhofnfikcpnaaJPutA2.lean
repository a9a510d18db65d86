/-
  Texts joined into one file: PutA.
-/
import Derived.Test.YtekhofnfikcpnaaJPutA1
import Derived.Deep.Cut
import Derived.Deep.CutRange
import Derived.Deep.CutBlock
/-
  The walks of actors.Put (the program's and the reference's).
-/
namespace Go.Proofs.Ytekhofnfikcpnaa
open Go.RowKit

/-- The bytes of a text ahead of which its length stands. -/
def txtB (s : ByteArray) : List Int := lebU s.size ++ nums s
def putT (T : List ByteArray) : List Int := lebU (T.length - 1) ++ (T.drop 1).flatMap txtB
theorem txtB_len {s : ByteArray} (h : s.size ≤ 1000) : (txtB s).length ≤ 1010 := by
  unfold txtB
  rw [List.length_append, nums_length]
  have := lebU_10 (n := s.size) (by omega)
  omega
theorem flat_next {L : List ByteArray} {k : Nat} (h : k < L.length) : (L.take (k + 1)).flatMap txtB = (L.take k).flatMap txtB ++ (lebU (str L k).size ++ nums (str L k)) := by
  rw [List.take_succ_eq_append_getElem h, List.flatMap_append]
  unfold str
  rw [List.getD_eq_getElem?_getD, List.getElem?_eq_getElem h]
  simp [txtB]
theorem putT_byte (T : List ByteArray) : ∀ x ∈ putT T, 0 ≤ x ∧ x ≤ 255 := by
  intro x hx
  rcases List.mem_append.1 hx with h | h
  · exact lebU_byte _ x h
  · obtain ⟨s, _, h⟩ := List.mem_flatMap.1 h
    rcases List.mem_append.1 h with h | h
    · exact lebU_byte _ x h
    · exact nums_byte _ x h
/-- Bytes that grow. -/
structure BSt (w wr : World) (v : Value) (n : Nat) (L : List Int) : Prop where
  own : wr.ownsRow w.heap.size 5 1 v n (ints .u8 L)
  bel : Below w.heap.size w wr
theorem BSt.len {w wr : World} {v : Value} {n : Nat} {L : List Int} (h : BSt w wr v n L) : L.length = n := by
  have := h.own.1
  rw [ints_length] at this
  omega
theorem BSt.later {w wr w2 : World} {v : Value} {n : Nat} {L : List Int} (h : BSt w wr v n L) (hb : Below wr.heap.size wr w2) : BSt w w2 v n L := ⟨own_below h.own hb, h.bel.trans (hb.mono h.bel.size)⟩
theorem BSt.app {w wr w4 : World} {v v' : Value} {n m : Nat} {L M : List Int} (h : BSt w wr v n L) (ho : w4.ownsRow w.heap.size 5 1 v' (n + m) (ints .u8 L ++ ints .u8 M)) (hf : Fr wr w4 [v.ownBlock]) : BSt w w4 v' (n + m) (L ++ M) :=
  ⟨by rw [ints_append]; exact ho, h.bel.trans (hf.below h.bel.size (fun o ho2 i e3 => by simp at ho2; subst ho2; exact (h.own.lt i e3).1))⟩
theorem infoU8 : ∃ i : TypeInfo, Try.prog.info? 5 = some i ∧ i.zero = some (.int .u8 0) ∧ i.size = 1 ∧ i.bytes = 1 := info_parts elU8.info
set_option maxHeartbeats 1000000 in
set_option maxRecDepth 100000 in
theorem Put_calls (A : Option Addr) (n c : Nat) (T : List ByteArray) (w : World) (hA : RdS w A n T) (hN : A = none → n = 0 ∧ c = 0) (hc : n ≤ c) (hn : n ≤ 10000) (hs : ∀ s ∈ T, s.size ≤ 1000) :
    Calls Try.prog 17 #[.slice A n c] w fun e w' => ∃ v, e = .returned v ∧ w'.ownsRow w.heap.size 5 1 v (putT T).length (ints .u8 (putT T)) ∧ Below w.heap.size w w' := by
  have HA := Lib.hid hA.2
  have Hl := Lib.hid hA.1
  have HN := Lib.hid hN
  have Hs := Lib.hid hs
  clear hA hN hs
  go_enter Try.func17, Try.ntmps17
  go_upto_region 1 with fail
  go_cut [3] from 7 to 31 (fun v wx => ∃ A' c', v = .slice A' (n - 1) c' ∧ Hid (RdS w A' (n - 1) (T.drop 1)) ∧ wx = w)
  case first =>
    by_cases h0 : n = 0
    · obtain rfl : T = [] := List.length_eq_zero_iff.1 (by rw [Hl.out]; exact h0)
      subst h0
      go_wp2_with fail
      all_goals go_meet
      all_goals exact ⟨_, _, rfl, ⟨rfl, fun h => by omega⟩, rfl⟩
    · obtain ⟨b, o, e1, hcell⟩ := HA.out (by omega)
      subst e1
      have hr : ∀ A', (A' = some ⟨b, o + 1, none⟩ ∨ n - 1 = 0) → RdS w A' (n - 1) (T.drop 1) := fun A' hA' => by
        refine ⟨by rw [List.length_drop, Hl.out], fun h => ?_⟩
        rcases hA' with e | e
        · refine ⟨b, o + 1, e, fun j hj => ?_⟩
          have := hcell (1 + j) (by omega)
          rw [Nat.add_assoc, this]
          unfold str
          rw [List.getD_eq_getElem?_getD, List.getD_eq_getElem?_getD, List.getElem?_drop]
        · omega
      have Hr := Lib.hid hr
      clear hcell hr
      by_cases h1 : c = 1
      · go_wp2_with fail
        all_goals go_meet
        all_goals exact ⟨_, _, rfl, Hr.out _ (.inr (by omega)), rfl⟩
      · have hc1 : 1 < c := by omega
        go_wp2_with fail
        all_goals go_meet
        all_goals exact ⟨_, _, rfl, Hr.out _ (.inl rfl), rfl⟩
  case rest =>
    obtain ⟨A', c', rfl, HR, hw⟩ := hcut
    obtain ⟨W0, hW0⟩ : ∃ W, W = wc := ⟨_, rfl⟩
    rw [← hW0] at hw ⊢
    subst hw
    clear hW0
    obtain ⟨m, hm⟩ : ∃ m, m = n - 1 := ⟨_, rfl⟩
    rw [← hm] at HR ⊢
    have Hm := Lib.hid hm
    have hm9 : m ≤ 10000 := by omega
    have HT1 : Hid ((T.drop 1).length = m) := Lib.hid HR.out.1
    have HS1 : Hid (∀ s ∈ T.drop 1, s.size ≤ 1000) := Lib.hid (fun s h => Hs.out s (List.mem_of_mem_drop h))
    obtain ⟨D, hD⟩ : ∃ D, D = T.drop 1 := ⟨_, rfl⟩
    rw [← hD] at HR HT1 HS1
    have HD := Lib.hid hD
    have hl10 := lebU_10 (n := m) (by omega)
    obtain ⟨q0, hq0⟩ : ∃ q, q = (lebU m).length := ⟨_, rfl⟩
    rw [← hq0] at hl10
    have Hq0 := Lib.hid hq0
    clear hm hD hq0
    go_wp2_with fail
    refine (U_calls m _ (by omega)).mono ?_
    rintro e w2 ⟨v2, rfl, ho2, hb2⟩
    rw [← Hq0.out] at ho2
    have HB2 : Hid (BSt W0 w2 v2 q0 (lebU m)) := Lib.hid ⟨ho2, hb2⟩
    clear ho2 hb2
    go_wp2_with fail
    go_loopw [4, 18] (fun v i wr => ∃ k q : Nat, k ≤ m ∧ i = .int .i64 k ∧ Hid (BSt W0 wr v q (lebU m ++ (D.take k).flatMap txtB)) ∧ q ≤ 10 + 1010 * k) (fun _ i _ => m - (intOf i).toNat)
    case atStart => exact ⟨0, q0, by omega, rfl, Lib.hid (by simpa using HB2.out), by omega⟩
    case round =>
      obtain ⟨k, q, hk, rfl, HS, hq⟩ := hrel
      obtain ⟨W, hW⟩ : ∃ W, W = wr := ⟨_, rfl⟩
      subst hW
      by_cases hlt : k < m
      · obtain ⟨b, o, e1, hcell⟩ := HR.out.2 (by omega)
        subst e1
        have d0 := kept_cell HS.out.bel (hcell k hlt)
        obtain ⟨s, hs⟩ : ∃ s, s = str D k := ⟨_, rfl⟩
        rw [← hs] at d0
        have hsz : s.size ≤ 1000 := by
          rw [hs]
          unfold str
          rw [List.getD_eq_getElem?_getD, List.getElem?_eq_getElem (by rw [HT1.out]; exact hlt)]
          exact HS1.out _ (List.getElem_mem _)
        have hfn := flat_next (L := D) (k := k) (by rw [HT1.out]; exact hlt)
        rw [← hs] at hfn
        have Hfn := Lib.hid hfn
        have h10 := lebU_10 (n := s.size) (by omega)
        obtain ⟨qs, hqs⟩ : ∃ q, q = (lebU s.size).length := ⟨_, rfl⟩
        rw [← hqs] at h10
        have Hqs := Lib.hid hqs
        obtain ⟨Av, cv, hv⟩ := own_slice HS.out.own
        subst hv
        clear hs hcell hfn hqs
        go_wp2_with fail
        refine (U_calls s.size _ (by omega)).mono ?_
        rintro e w3 ⟨v3, rfl, ho3, hb3⟩
        rw [← Hqs.out] at ho3
        have HS3 := Lib.hid (HS.out.later hb3)
        obtain ⟨A3, c3, rfl, _, hr3, hn3⟩ := own_rdV ho3
        have Hr3 := Lib.hid hr3
        have Hn3 := Lib.hid hn3
        have hs3 := HS3.out.bel.size
        obtain ⟨i0, hi0, hz0, hz1, hz2⟩ := infoU8
        clear ho3 hb3 hr3 hn3
        obtain ⟨q1, hq1⟩ : ∃ q1, q1 = q + qs := ⟨_, rfl⟩
        have Hq1 := Lib.hid hq1
        have hq19 : q1 ≤ 10 + 1010 * k + 10 := by omega
        clear hq1
        go_wp2_with (first
          | (at_builtin; refine wpList_appV rfl _ _ rfl elU8 HS3.out.own rfl rfl Hr3.out Hn3.out (ints_all _ _) (by omega) hs3 ?_; intro v4 w4 hown4 hfr4 hat4; have HS4 := Lib.hid (HS3.out.app hown4 hfr4); rw [← Hq1.out] at HS4; have hs4 := HS4.out.bel.size; obtain ⟨A4, c4, rfl⟩ := own_slice HS4.out.own; clear hown4 hfr4 hat4)
          | (at_builtin; refine Lib.wpList_append_own_string _ rfl _ _ _ _ rfl _ _ i0 Try.underlying39 Try.underlying9 hi0 hz0 hz1 hz2 _ q1 _ rfl HS4.out.own s rfl (by unfold maxLen; omega) (by omega) hs4 ?_; intro v5 w5 hown5 hg5 hn5; rw [strCells_nums] at hown5; have HS5 := Lib.hid (HS4.out.app hown5 (Fr.ofGrown hg5)); clear hown5 hg5 hn5))
        go_roundw
        case rel =>
          refine ⟨k + 1, q1 + s.size, by omega, by go_num, ?_, by omega⟩
          have h5 := HS5.out
          rw [Hfn.out, ← List.append_assoc, ← List.append_assoc]
          exact h5
        case measure => simp [intOf]; omega
      · obtain rfl : k = m := by omega
        go_wp2_with fail
        go_ret
        have hfa : D.take k = D := List.take_of_length_le (by rw [HT1.out]; exact Nat.le_refl _)
        have hS := HS.out
        have e9 : lebU k ++ D.flatMap txtB = putT T := by unfold putT; rw [Hl.out, ← Hm.out, ← HD.out]
        rw [hfa, e9] at hS
        have hl9 := hS.len
        subst hl9
        exact ⟨_, rfl, hS.own, hS.bel⟩
theorem drop_next {T : List ByteArray} {k : Nat} (h : k + 1 < T.length) : ((T.drop 1).take (k + 1)).flatMap txtB = ((T.drop 1).take k).flatMap txtB ++ (lebU (str T (k + 1)).size ++ nums (str T (k + 1))) := by
  rw [flat_next (by rw [List.length_drop]; omega)]
  have : str (T.drop 1) k = str T (k + 1) := by
    unfold str
    rw [List.getD_eq_getElem?_getD, List.getD_eq_getElem?_getD, List.getElem?_drop, Nat.add_comm]
  rw [this]
set_option maxHeartbeats 1000000 in
set_option maxRecDepth 100000 in
theorem rPut_calls (A : Option Addr) (n c : Nat) (T : List ByteArray) (w : World) (hA : RdS w A n T) (hn0 : 0 < n) (hn : n ≤ 10000) (hs : ∀ s ∈ T, s.size ≤ 1000) :
    Calls Try.prog 18 #[.slice A n c] w fun e w' => ∃ v, e = .returned v ∧ w'.ownsRow w.heap.size 5 1 v (putT T).length (ints .u8 (putT T)) ∧ Below w.heap.size w w' := by
  obtain ⟨b, o, e1, hcell⟩ := hA.2 hn0
  subst e1
  have Hl := Lib.hid hA.1
  have Hs := Lib.hid hs
  have Hcell := Lib.hid hcell
  have hl10 := lebU_10 (n := n - 1) (by omega)
  obtain ⟨q0, hq0⟩ : ∃ q, q = (lebU (n - 1)).length := ⟨_, rfl⟩
  rw [← hq0] at hl10
  have Hq0 := Lib.hid hq0
  have hmax : (if (n : Int) < 1 then (1 : Int) else n) = n := by rw [if_neg (by omega)]
  clear hA hcell hs hq0
  go_enter Try.func18, Try.ntmps18
  go_wp2_with fail
  rw [show (n : Int) - 1 = ((n - 1 : Nat) : Int) by omega]
  refine (rU_calls n (n - 1) _ (by omega) (by omega)).mono ?_
  rintro e w2 ⟨v2, rfl, ho2, hb2⟩
  rw [← Hq0.out] at ho2
  have HB2 : Hid (BSt w w2 v2 q0 (lebU (n - 1))) := Lib.hid ⟨ho2, hb2⟩
  clear ho2 hb2 hmax
  go_wp2_with fail
  go_loopw [3, 4] (fun v i wr => ∃ k q : Nat, k + 1 ≤ n ∧ i = .int .i64 ((k + 1 : Nat) : Int) ∧ Hid (BSt w wr v q (lebU (n - 1) ++ ((T.drop 1).take k).flatMap txtB)) ∧ q ≤ 10 + 1010 * k) (fun _ i _ => n - (intOf i).toNat)
  case atStart => exact ⟨0, q0, by omega, rfl, Lib.hid (by simpa using HB2.out), by omega⟩
  case round =>
    obtain ⟨k, q, hk, rfl, HS, hq⟩ := hrel
    obtain ⟨W, hW⟩ : ∃ W, W = wr := ⟨_, rfl⟩
    subst hW
    obtain ⟨j, hj⟩ : ∃ j, j = k + 1 := ⟨_, rfl⟩
    rw [← hj] at hk ⊢
    have Hj := Lib.hid hj
    clear hj
    by_cases hlt : j < n
    · have d0 := kept_cell HS.out.bel (Hcell.out j hlt)
      obtain ⟨s, hs⟩ : ∃ s, s = str T j := ⟨_, rfl⟩
      rw [← hs] at d0
      have hsz : s.size ≤ 1000 := by
        rw [hs]
        unfold str
        rw [List.getD_eq_getElem?_getD, List.getElem?_eq_getElem (by rw [Hl.out]; exact hlt)]
        exact Hs.out _ (List.getElem_mem _)
      have hfn := drop_next (T := T) (k := k) (by rw [Hl.out, ← Hj.out]; exact hlt)
      rw [← Hj.out, ← hs] at hfn
      have Hfn := Lib.hid hfn
      have h10 := lebU_10 (n := s.size) (by omega)
      obtain ⟨qs, hqs⟩ : ∃ q, q = (lebU s.size).length := ⟨_, rfl⟩
      rw [← hqs] at h10
      have Hqs := Lib.hid hqs
      obtain ⟨Av, cv, hv⟩ := own_slice HS.out.own
      subst hv
      have hjk := Hj.out
      have hq9 : q ≤ 10 + 1010 * 10000 := by omega
      have HSs := Lib.hid hs
      have Hq := Lib.hid hq
      clear hs hfn hqs hjk hq
      go_wp2_with fail
      refine (rU_calls (s.size + 1) s.size _ (by omega) (by omega)).mono ?_
      rintro e w3 ⟨v3, rfl, ho3, hb3⟩
      rw [← Hqs.out] at ho3
      have HS3 := Lib.hid (HS.out.later hb3)
      obtain ⟨A3, c3, rfl, _, hr3, hn3⟩ := own_rdV ho3
      have Hr3 := Lib.hid hr3
      have Hn3 := Lib.hid hn3
      have hs3 := HS3.out.bel.size
      obtain ⟨i0, hi0, hz0, hz1, hz2⟩ := infoU8
      clear ho3 hb3 hr3 hn3 d0
      obtain ⟨q1, hq1⟩ : ∃ q1, q1 = q + qs := ⟨_, rfl⟩
      have Hq1 := Lib.hid hq1
      have hq19 : q1 ≤ 10 + 1010 * 10000 + 10 := by omega
      clear hq1
      go_wp2_with (first
        | (at_builtin; refine wpList_appV rfl _ _ rfl elU8 HS3.out.own rfl rfl Hr3.out Hn3.out (ints_all _ _) (by omega) hs3 ?_; intro v4 w4 hown4 hfr4 hat4; have HS4 := Lib.hid (HS3.out.app hown4 hfr4); rw [← Hq1.out] at HS4; have hs4 := HS4.out.bel.size; have d4 := kept_cell HS4.out.bel (Hcell.out j hlt); rw [← HSs.out] at d4; obtain ⟨A4, c4, rfl⟩ := own_slice HS4.out.own; clear hown4 hfr4 hat4)
        | (at_builtin; refine Lib.wpList_append_own_string _ rfl _ _ _ _ rfl _ _ i0 Try.underlying39 Try.underlying9 hi0 hz0 hz1 hz2 _ q1 _ rfl HS4.out.own s rfl (by unfold maxLen; omega) (by omega) hs4 ?_; intro v5 w5 hown5 hg5 hn5; rw [strCells_nums] at hown5; have HS5 := Lib.hid (HS4.out.app hown5 (Fr.ofGrown hg5)); clear hown5 hg5 hn5))
      go_roundw
      case rel =>
        refine ⟨j, q1 + s.size, by omega, by go_num, ?_, by have := Hq.out; have := Hq1.out; have := Hj.out; omega⟩
        have h5 := HS5.out
        rw [Hfn.out, ← List.append_assoc, ← List.append_assoc]
        exact h5
      case measure => simp [intOf]; omega
    · obtain rfl : j = n := by omega
      go_wp2_with fail
      go_ret
      have hfa : (T.drop 1).take k = T.drop 1 := List.take_of_length_le (by rw [List.length_drop, Hl.out, Hj.out]; omega)
      have hS := HS.out
      have e9 : lebU (j - 1) ++ (T.drop 1).flatMap txtB = putT T := by unfold putT; rw [Hl.out]
      rw [hfa, e9] at hS
      have hl9 := hS.len
      subst hl9
      exact ⟨_, rfl, hS.own, hS.bel⟩
end Go.Proofs.Ytekhofnfikcpnaa
