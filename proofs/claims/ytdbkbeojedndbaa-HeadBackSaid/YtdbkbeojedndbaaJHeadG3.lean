/-
  Texts joined into one file: LebW, PutA, BackA, GetW, Conv.
-/
import Derived.Test.YtdbkbeojedndbaaJHeadG1
import Derived.Test.YtdbkbeojedndbaaJHeadG2
import Derived.Deep.Cut
import Derived.Deep.CutRange
import Derived.Deep.CutBlock
import Derived.Laws.BytesString
import Derived.Laws.BytesArg
/-
  The walks of leb.U and of the reference's U.
-/
namespace Go.Proofs.Ytdbkbeojedndbaa
open Go.RowKit

theorem elU8b : ElT Try.prog 22 5 (.int .u8 0) 1 1 := ⟨Try.underlying22, by kernel_rfl, rfl, by decide, by decide⟩
theorem ints_all (k : IntKind) (l : List Int) : (ints k l).all (fun u => u.oneCell') = true := by
  rw [List.all_eq_true]
  intro u hu
  obtain ⟨x, _, rfl⟩ := List.mem_map.1 hu
  rfl
set_option maxHeartbeats 1000000 in
set_option maxRecDepth 100000 in
theorem U_calls (n : Nat) (w : World) (hn : n < 18446744073709551616) :
    Calls Try.prog 43 #[.int .u64 n] w fun e w' => ∃ v, e = .returned v ∧ w'.ownsRow w.heap.size 5 1 v (lebU n).length (ints .u8 (lebU n)) ∧ Below w.heap.size w w' := by
  go_enter Try.func43, Try.ntmps43
  go_wp2_with fail
  go_loopw [0, 3] (fun x v wr => ∃ (q : Nat) (L : List Int), x = .int .u64 q ∧ q ≤ n ∧ Hid (L ++ lebU q = lebU n) ∧ L.length ≤ 10 ∧ Hid (wr.ownsRow w.heap.size 5 1 v L.length (ints .u8 L)) ∧ Hid (Below w.heap.size w wr)) (fun x _ _ => (intOf x).toNat)
  case atStart => exact ⟨n, [], rfl, by omega, Lib.hid rfl, by simp, World.ownsRow_nil _ _ _ _, Below.refl _ _⟩
  case round =>
    obtain ⟨q, L, rfl, hq, HL, hl10, HO, HB⟩ := hrel
    obtain ⟨W, hW⟩ : ∃ W, W = wr := ⟨_, rfl⟩
    subst hW
    obtain ⟨m, hm⟩ : ∃ m, m = L.length := ⟨_, rfl⟩
    rw [← hm] at HO hl10
    have Hm := Lib.hid hm
    obtain ⟨Av, cv, hv⟩ := own_slice HO.out
    subst hv
    have hsz := HB.out.size
    clear hm
    by_cases h1 : q < 128
    · go_wp2_with (at_builtin; refine wpList_app3 rfl _ _ rfl elU8b HO.out rfl rfl rfl rfl rfl (by omega) hsz ?_; intro g4 cg w4 hown4 hfr4 hat4 hlt4; have Hown4 := Lib.hid hown4; have Hfr4 := Lib.hid hfr4; clear hown4 hfr4 hat4)
      go_ret
      have e9 : ints .u8 L ++ (#[Value.int .u8 (q : Int)] : Array Value).toList = ints .u8 (lebU n) := by rw [← HL.out, lebU_last h1, ints_append]; rfl
      have e5 : (lebU n).length = m + 1 := by rw [← HL.out, List.length_append, lebU_last h1, ← Hm.out]; rfl
      have h4 := Hown4.out
      rw [e9] at h4
      exact ⟨_, rfl, by rw [e5]; exact h4, HB.out.trans (Hfr4.out.below hsz (fun o ho i e => by simp at ho; subst ho; exact (HO.out.lt i e).1))⟩
    · have hlen9 : m + 1 ≤ 10 := by
        have h2 := congrArg List.length HL.out
        rw [List.length_append, ← Hm.out] at h2
        have h3 := lebU_10 hn
        have h4 := lebU_10 (n := q) (by omega)
        omega
      have hor := or_128 (y := (q : Int) % 256) (by omega)
      go_wp2_with (at_builtin; refine wpList_app3 rfl _ _ rfl elU8b HO.out rfl rfl rfl rfl rfl (by omega) hsz ?_; intro g4 cg w4 hown4 hfr4 hat4 hlt4; have Hown4 := Lib.hid hown4; have Hfr4 := Lib.hid hfr4; clear hown4 hfr4 hat4)
      go_roundw
      case rel =>
        have ed : (q : Int) / 128 = ((q / 128 : Nat) : Int) := by omega
        have e9 : ints .u8 L ++ (#[Value.int .u8 ((q : Int) % 128 + 128)] : Array Value).toList = ints .u8 (L ++ [((q % 128 + 128 : Nat) : Int)]) := by
          rw [ints_append]
          have : (q : Int) % 128 + 128 = ((q % 128 + 128 : Nat) : Int) := by omega
          rw [this]; rfl
        have h4 := Hown4.out
        rw [e9] at h4
        refine ⟨q / 128, L ++ [((q % 128 + 128 : Nat) : Int)], by rw [ed], by omega, ?_, by rw [List.length_append, ← Hm.out]; exact hlen9, by rw [List.length_append, ← Hm.out]; exact h4, HB.out.trans (Hfr4.out.below hsz (fun o ho i e => by simp at ho; subst ho; exact (HO.out.lt i e).1))⟩
        rw [List.append_assoc]
        rw [← HL.out, lebU_more h1]
        rfl
      case measure => simp [intOf]; omega
set_option maxHeartbeats 1000000 in
set_option maxRecDepth 100000 in
theorem rU_calls : ∀ (f n : Nat) (w : World), n < f → n < 18446744073709551616 →
    Calls Try.prog 91 #[.int .u64 n] w fun e w' => ∃ v, e = .returned v ∧ w'.ownsRow w.heap.size 5 1 v (lebU n).length (ints .u8 (lebU n)) ∧ Below w.heap.size w w' := by
  intro f
  induction f with
  | zero => intro n w h; omega
  | succ f ih =>
    intro n w hf hn
    go_enter Try.func91, Try.ntmps91
    by_cases h1 : n < 128
    · go_wp2_with fail
      go_ret
      have hl := World.ownsRow_lit (base := w.heap.size) (size := 1) (e := 5) w #[.int .u8 (n : Int)] 1 (Nat.le_refl _) (by simp [maxLen]) rfl
      refine ⟨_, rfl, ?_, (Below.refl _ _).alloc (Nat.le_refl _) _⟩
      rw [lebU_last h1]
      exact hl
    · have hl := World.ownsRow_lit (base := w.heap.size) (size := 1) (e := 5) w #[.int .u8 (128 + (n : Int) % 128)] 1 (Nat.le_refl _) (by simp [maxLen]) rfl
      have Hl := Lib.hid hl
      have h10 := lebU_10 (n := n / 128) (by omega)
      have H10 := Lib.hid h10
      clear hl h10
      go_wp2_with fail
      rw [show (n : Int) / 128 = ((n / 128 : Nat) : Int) by omega]
      refine (ih (n / 128) _ (by omega) (by omega)).mono ?_
      rintro e w2 ⟨v2, rfl, ho2, hb2⟩
      obtain ⟨A2, c2, rfl, _, hr2, hn2⟩ := own_rdV ho2
      obtain ⟨m, hm⟩ : ∃ m, m = (lebU (n / 128)).length := ⟨_, rfl⟩
      have hm10 : m ≤ 10 := by rw [hm]; exact H10.out.2
      rw [← hm] at hr2 hn2 ⊢
      have Hr2 := Lib.hid hr2
      have Hn2 := Lib.hid hn2
      have Hm := Lib.hid hm
      have Hl2 := Lib.hid (own_below Hl.out hb2)
      have HB2 := Lib.hid (((Below.refl w.heap.size w).alloc (Nat.le_refl _) _).trans (hb2.mono (by simp)))
      have hs2 := HB2.out.size
      clear ho2 hr2 hn2 hm hb2
      go_wp2_with (at_builtin; refine wpList_appV rfl _ _ rfl elU8b Hl2.out rfl rfl Hr2.out Hn2.out (ints_all _ _) (by omega) hs2 ?_; intro v4 w4 hown4 hfr4 hat4; have Hown4 := Lib.hid hown4; have Hfr4 := Lib.hid hfr4; clear hown4 hfr4 hat4)
      go_ret
      have e9 : (#[Value.int .u8 (128 + (n : Int) % 128)] : Array Value).toList ++ ints .u8 (lebU (n / 128)) = ints .u8 (lebU n) := by
        rw [lebU_more h1]
        have : 128 + (n : Int) % 128 = ((n % 128 + 128 : Nat) : Int) := by omega
        rw [this]; rfl
      have e5 : (lebU n).length = 1 + m := by rw [lebU_more h1, List.length_cons, ← Hm.out]; omega
      have h4 := Hown4.out
      rw [e9] at h4
      exact ⟨_, rfl, by rw [e5]; exact h4, HB2.out.trans (Hfr4.out.below hs2 (fun o ho i e => by simp at ho; subst ho; exact (Hl2.out.lt i e).1))⟩
end Go.Proofs.Ytdbkbeojedndbaa
/-
  The walks of actors.Put (the program's and the reference's).
-/
namespace Go.Proofs.Ytdbkbeojedndbaa
open Go.RowKit

/-- The bytes of a text ahead of which its length stands. -/
def txtB (s : ByteArray) : List Int := lebU s.size ++ nums s
def putT (T : List ByteArray) : List Int := lebU (T.length - 1) ++ (T.drop 1).flatMap txtB
theorem txtB_len {s : ByteArray} (h : s.size ≤ 1000) : (txtB s).length ≤ 1010 := by
  unfold txtB
  rw [List.length_append, nums_length]
  have := lebU_10 (n := s.size) (by omega)
  omega
theorem flat_next {L : List ByteArray} {k : Nat} (h : k < L.length) : (L.take (k + 1)).flatMap txtB = (L.take k).flatMap txtB ++ (lebU (str L k).size ++ nums (str L k)) := by
  rw [List.take_succ_eq_append_getElem h, List.flatMap_append]
  unfold str
  rw [List.getD_eq_getElem?_getD, List.getElem?_eq_getElem h]
  simp [txtB]
theorem putT_byte (T : List ByteArray) : ∀ x ∈ putT T, 0 ≤ x ∧ x ≤ 255 := by
  intro x hx
  rcases List.mem_append.1 hx with h | h
  · exact lebU_byte _ x h
  · obtain ⟨s, _, h⟩ := List.mem_flatMap.1 h
    rcases List.mem_append.1 h with h | h
    · exact lebU_byte _ x h
    · exact nums_byte _ x h
/-- Bytes that grow. -/
structure BSt (w wr : World) (v : Value) (n : Nat) (L : List Int) : Prop where
  own : wr.ownsRow w.heap.size 5 1 v n (ints .u8 L)
  bel : Below w.heap.size w wr
theorem BSt.len {w wr : World} {v : Value} {n : Nat} {L : List Int} (h : BSt w wr v n L) : L.length = n := by
  have := h.own.1
  rw [ints_length] at this
  omega
theorem BSt.later {w wr w2 : World} {v : Value} {n : Nat} {L : List Int} (h : BSt w wr v n L) (hb : Below wr.heap.size wr w2) : BSt w w2 v n L := ⟨own_below h.own hb, h.bel.trans (hb.mono h.bel.size)⟩
theorem BSt.app {w wr w4 : World} {v v' : Value} {n m : Nat} {L M : List Int} (h : BSt w wr v n L) (ho : w4.ownsRow w.heap.size 5 1 v' (n + m) (ints .u8 L ++ ints .u8 M)) (hf : Fr wr w4 [v.ownBlock]) : BSt w w4 v' (n + m) (L ++ M) :=
  ⟨by rw [ints_append]; exact ho, h.bel.trans (hf.below h.bel.size (fun o ho2 i e3 => by simp at ho2; subst ho2; exact (h.own.lt i e3).1))⟩
theorem infoU8 : ∃ i : TypeInfo, Try.prog.info? 5 = some i ∧ i.zero = some (.int .u8 0) ∧ i.size = 1 ∧ i.bytes = 1 := info_parts elU8b.info
set_option maxHeartbeats 1000000 in
set_option maxRecDepth 100000 in
theorem Put_calls (A : Option Addr) (n c : Nat) (T : List ByteArray) (w : World) (hA : RdS w A n T) (hN : A = none → n = 0 ∧ c = 0) (hc : n ≤ c) (hn : n ≤ 10000) (hs : ∀ s ∈ T, s.size ≤ 1000) :
    Calls Try.prog 46 #[.slice A n c] w fun e w' => ∃ v, e = .returned v ∧ w'.ownsRow w.heap.size 5 1 v (putT T).length (ints .u8 (putT T)) ∧ Below w.heap.size w w' := by
  have HA := Lib.hid hA.2
  have Hl := Lib.hid hA.1
  have HN := Lib.hid hN
  have Hs := Lib.hid hs
  clear hA hN hs
  go_enter Try.func46, Try.ntmps46
  go_upto_region 1 with fail
  go_cut [3] from 7 to 31 (fun v wx => ∃ A' c', v = .slice A' (n - 1) c' ∧ Hid (RdS w A' (n - 1) (T.drop 1)) ∧ wx = w)
  case first =>
    by_cases h0 : n = 0
    · obtain rfl : T = [] := List.length_eq_zero_iff.1 (by rw [Hl.out]; exact h0)
      subst h0
      go_wp2_with fail
      all_goals go_meet
      all_goals exact ⟨_, _, rfl, ⟨rfl, fun h => by omega⟩, rfl⟩
    · obtain ⟨b, o, e1, hcell⟩ := HA.out (by omega)
      subst e1
      have hr : ∀ A', (A' = some ⟨b, o + 1, none⟩ ∨ n - 1 = 0) → RdS w A' (n - 1) (T.drop 1) := fun A' hA' => by
        refine ⟨by rw [List.length_drop, Hl.out], fun h => ?_⟩
        rcases hA' with e | e
        · refine ⟨b, o + 1, e, fun j hj => ?_⟩
          have := hcell (1 + j) (by omega)
          rw [Nat.add_assoc, this]
          unfold str
          rw [List.getD_eq_getElem?_getD, List.getD_eq_getElem?_getD, List.getElem?_drop]
        · omega
      have Hr := Lib.hid hr
      clear hcell hr
      by_cases h1 : c = 1
      · go_wp2_with fail
        all_goals go_meet
        all_goals exact ⟨_, _, rfl, Hr.out _ (.inr (by omega)), rfl⟩
      · have hc1 : 1 < c := by omega
        go_wp2_with fail
        all_goals go_meet
        all_goals exact ⟨_, _, rfl, Hr.out _ (.inl rfl), rfl⟩
  case rest =>
    obtain ⟨A', c', rfl, HR, hw⟩ := hcut
    obtain ⟨W0, hW0⟩ : ∃ W, W = wc := ⟨_, rfl⟩
    rw [← hW0] at hw ⊢
    subst hw
    clear hW0
    obtain ⟨m, hm⟩ : ∃ m, m = n - 1 := ⟨_, rfl⟩
    rw [← hm] at HR ⊢
    have Hm := Lib.hid hm
    have hm9 : m ≤ 10000 := by omega
    have HT1 : Hid ((T.drop 1).length = m) := Lib.hid HR.out.1
    have HS1 : Hid (∀ s ∈ T.drop 1, s.size ≤ 1000) := Lib.hid (fun s h => Hs.out s (List.mem_of_mem_drop h))
    obtain ⟨D, hD⟩ : ∃ D, D = T.drop 1 := ⟨_, rfl⟩
    rw [← hD] at HR HT1 HS1
    have HD := Lib.hid hD
    have hl10 := lebU_10 (n := m) (by omega)
    obtain ⟨q0, hq0⟩ : ∃ q, q = (lebU m).length := ⟨_, rfl⟩
    rw [← hq0] at hl10
    have Hq0 := Lib.hid hq0
    clear hm hD hq0
    go_wp2_with fail
    refine (U_calls m _ (by omega)).mono ?_
    rintro e w2 ⟨v2, rfl, ho2, hb2⟩
    rw [← Hq0.out] at ho2
    have HB2 : Hid (BSt W0 w2 v2 q0 (lebU m)) := Lib.hid ⟨ho2, hb2⟩
    clear ho2 hb2
    go_wp2_with fail
    go_loopw [4, 18] (fun v i wr => ∃ k q : Nat, k ≤ m ∧ i = .int .i64 k ∧ Hid (BSt W0 wr v q (lebU m ++ (D.take k).flatMap txtB)) ∧ q ≤ 10 + 1010 * k) (fun _ i _ => m - (intOf i).toNat)
    case atStart => exact ⟨0, q0, by omega, rfl, Lib.hid (by simpa using HB2.out), by omega⟩
    case round =>
      obtain ⟨k, q, hk, rfl, HS, hq⟩ := hrel
      obtain ⟨W, hW⟩ : ∃ W, W = wr := ⟨_, rfl⟩
      subst hW
      by_cases hlt : k < m
      · obtain ⟨b, o, e1, hcell⟩ := HR.out.2 (by omega)
        subst e1
        have d0 := kept_cell HS.out.bel (hcell k hlt)
        obtain ⟨s, hs⟩ : ∃ s, s = str D k := ⟨_, rfl⟩
        rw [← hs] at d0
        have hsz : s.size ≤ 1000 := by
          rw [hs]
          unfold str
          rw [List.getD_eq_getElem?_getD, List.getElem?_eq_getElem (by rw [HT1.out]; exact hlt)]
          exact HS1.out _ (List.getElem_mem _)
        have hfn := flat_next (L := D) (k := k) (by rw [HT1.out]; exact hlt)
        rw [← hs] at hfn
        have Hfn := Lib.hid hfn
        have h10 := lebU_10 (n := s.size) (by omega)
        obtain ⟨qs, hqs⟩ : ∃ q, q = (lebU s.size).length := ⟨_, rfl⟩
        rw [← hqs] at h10
        have Hqs := Lib.hid hqs
        obtain ⟨Av, cv, hv⟩ := own_slice HS.out.own
        subst hv
        clear hs hcell hfn hqs
        go_wp2_with fail
        refine (U_calls s.size _ (by omega)).mono ?_
        rintro e w3 ⟨v3, rfl, ho3, hb3⟩
        rw [← Hqs.out] at ho3
        have HS3 := Lib.hid (HS.out.later hb3)
        obtain ⟨A3, c3, rfl, _, hr3, hn3⟩ := own_rdV ho3
        have Hr3 := Lib.hid hr3
        have Hn3 := Lib.hid hn3
        have hs3 := HS3.out.bel.size
        obtain ⟨i0, hi0, hz0, hz1, hz2⟩ := infoU8
        clear ho3 hb3 hr3 hn3
        obtain ⟨q1, hq1⟩ : ∃ q1, q1 = q + qs := ⟨_, rfl⟩
        have Hq1 := Lib.hid hq1
        have hq19 : q1 ≤ 10 + 1010 * k + 10 := by omega
        clear hq1
        go_wp2_with (first
          | (at_builtin; refine wpList_appV rfl _ _ rfl elU8b HS3.out.own rfl rfl Hr3.out Hn3.out (ints_all _ _) (by omega) hs3 ?_; intro v4 w4 hown4 hfr4 hat4; have HS4 := Lib.hid (HS3.out.app hown4 hfr4); rw [← Hq1.out] at HS4; have hs4 := HS4.out.bel.size; obtain ⟨A4, c4, rfl⟩ := own_slice HS4.out.own; clear hown4 hfr4 hat4)
          | (at_builtin; refine Lib.wpList_append_own_string _ rfl _ _ _ _ rfl _ _ i0 Try.underlying22 Try.underlying9 hi0 hz0 hz1 hz2 _ q1 _ rfl HS4.out.own s rfl (by unfold maxLen; omega) (by omega) hs4 ?_; intro v5 w5 hown5 hg5 hn5; rw [strCells_nums] at hown5; have HS5 := Lib.hid (HS4.out.app hown5 (Fr.ofGrown hg5)); clear hown5 hg5 hn5))
        go_roundw
        case rel =>
          refine ⟨k + 1, q1 + s.size, by omega, by go_num, ?_, by omega⟩
          have h5 := HS5.out
          rw [Hfn.out, ← List.append_assoc, ← List.append_assoc]
          exact h5
        case measure => simp [intOf]; omega
      · obtain rfl : k = m := by omega
        go_wp2_with fail
        go_ret
        have hfa : D.take k = D := List.take_of_length_le (by rw [HT1.out]; exact Nat.le_refl _)
        have hS := HS.out
        have e9 : lebU k ++ D.flatMap txtB = putT T := by unfold putT; rw [Hl.out, ← Hm.out, ← HD.out]
        rw [hfa, e9] at hS
        have hl9 := hS.len
        subst hl9
        exact ⟨_, rfl, hS.own, hS.bel⟩
end Go.Proofs.Ytdbkbeojedndbaa
/-
  What is put is read as it was (no program).
-/
namespace Go.Proofs.Ytdbkbeojedndbaa
open Go.RowKit

/-- Names that may stand behind each other. -/
def Chain (au : ByteArray) : List ByteArray → List ByteArray → Prop
  | _, [] => True
  | out, s :: l => (1 ≤ s.size ∧ s.size ≤ 16 ∧ ¬ BadNm au out s) ∧ Chain au (out ++ [s]) l
theorem textAt_app (P s : List Int) (R : List Int) {a : ByteArray} (hs : s = nums a) : textAt (P ++ (s ++ R)) P.length a.size = a := by
  unfold textAt
  rw [List.drop_left, hs, ← nums_length a, List.take_left, strOf_nums]
theorem reads_put (au : ByteArray) (R : List Int) : ∀ (l out : List ByteArray) (P : List Int), Chain au out l →
    Reads au (P ++ (l.flatMap txtB ++ R)) l.length P.length out (out ++ l) (P.length + (l.flatMap txtB).length) 0 := by
  intro l
  induction l with
  | nil => intro out P _; rw [List.append_nil]; exact .done _ _
  | cons s l ih =>
    intro out P hc
    obtain ⟨⟨h1, h2, h3⟩, h4⟩ := hc
    have e1 : P ++ ((s :: l).flatMap txtB ++ R) = P ++ (lebU s.size ++ (nums s ++ (l.flatMap txtB ++ R))) := by simp [txtB, List.append_assoc]
    have e2 : P ++ ((s :: l).flatMap txtB ++ R) = (P ++ lebU s.size) ++ (nums s ++ (l.flatMap txtB ++ R)) := by rw [e1, List.append_assoc]
    have e3 : P ++ ((s :: l).flatMap txtB ++ R) = (P ++ txtB s) ++ (l.flatMap txtB ++ R) := by simp [List.append_assoc]
    have hg : IsGet ((P ++ ((s :: l).flatMap txtB ++ R)).drop P.length) s.size (lebU s.size).length 0 := by
      rw [e1, List.drop_left]; exact get_leb (by omega) _
    have ht : textAt (P ++ ((s :: l).flatMap txtB ++ R)) (P.length + (lebU s.size).length) s.size = s := by
      rw [e2, ← List.length_append]; exact textAt_app _ _ _ rfl
    have hl : P.length + (lebU s.size).length + s.size = (P ++ txtB s).length := by rw [List.length_append, txtB, List.length_append, nums_length]; omega
    refine .next hg h1 h2 ?_ (by rw [ht]; exact h3) ?_
    · rw [e2]
      simp only [List.length_append, nums_length]
      omega
    · rw [ht, hl]
      have := ih (out ++ [s]) (P ++ txtB s) h4
      rw [← e3] at this
      rw [List.append_assoc] at this
      have e4 : P.length + ((s :: l).flatMap txtB).length = (P ++ txtB s).length + (l.flatMap txtB).length := by simp; omega
      rw [e4]
      exact this
theorem reads_front (au : ByteArray) : ∀ (l out : List ByteArray) (P : List Int) (k : Nat), Chain au out l → P.length ≤ k → k < P.length + (l.flatMap txtB).length →
    Reads au ((P ++ l.flatMap txtB).take k) l.length P.length out [] 0 2 := by
  intro l
  induction l with
  | nil => intro out P k _ h1 h2; simp at h2; omega
  | cons s l ih =>
    intro out P k hc hk1 hk2
    obtain ⟨⟨h1, h2, h3⟩, h4⟩ := hc
    have e1 : P ++ (s :: l).flatMap txtB = P ++ (lebU s.size ++ (nums s ++ l.flatMap txtB)) := by simp [txtB, List.append_assoc]
    have e3 : P ++ (s :: l).flatMap txtB = (P ++ txtB s) ++ l.flatMap txtB := by simp [List.append_assoc]
    obtain ⟨j, rfl⟩ : ∃ j, k = P.length + j := ⟨k - P.length, by omega⟩
    have hd : ((P ++ (s :: l).flatMap txtB).take (P.length + j)).drop P.length = ((lebU s.size ++ (nums s ++ l.flatMap txtB))).take j := by
      rw [e1, List.drop_take, List.drop_left, Nat.add_sub_cancel_left]
    by_cases hj : j < (lebU s.size).length
    · refine .num (v := 0) (k := 0) (f := 2) ?_ (by decide)
      rw [hd, List.take_append_of_le_length (by omega)]
      exact get_front (by omega) hj
    · obtain ⟨j2, rfl⟩ : ∃ j2, j = (lebU s.size).length + j2 := ⟨j - (lebU s.size).length, by omega⟩
      have hg : IsGet (((P ++ (s :: l).flatMap txtB).take (P.length + ((lebU s.size).length + j2))).drop P.length) s.size (lebU s.size).length 0 := by
        rw [hd, List.take_length_add_append]
        exact get_leb (by omega) _
      have hlen : ((P ++ (s :: l).flatMap txtB).take (P.length + ((lebU s.size).length + j2))).length = P.length + ((lebU s.size).length + j2) := by
        rw [List.length_take, List.length_append]; omega
      by_cases hj2 : j2 < s.size
      · refine .short hg h1 h2 ?_
        rw [hlen]; omega
      · have ht : textAt ((P ++ (s :: l).flatMap txtB).take (P.length + ((lebU s.size).length + j2))) (P.length + (lebU s.size).length) s.size = s := by
          unfold textAt
          rw [List.drop_take, List.take_take, e1, ← List.append_assoc, ← List.length_append, List.drop_left, Nat.min_eq_left (by rw [List.length_append]; omega)]
          rw [← nums_length s, List.take_left, strOf_nums]
        have hl : P.length + (lebU s.size).length + s.size = (P ++ txtB s).length := by rw [List.length_append, txtB, List.length_append, nums_length]; omega
        refine .next hg h1 h2 (by rw [hlen]; omega) (by rw [ht]; exact h3) ?_
        rw [ht, hl]
        have := ih (out ++ [s]) (P ++ txtB s) (P.length + ((lebU s.size).length + j2)) h4 (by rw [← hl]; omega) (by rw [← hl]; have e9 : ((s :: l).flatMap txtB).length = (txtB s).length + (l.flatMap txtB).length := (by simp); simp only [txtB, List.length_append, nums_length] at e9; omega)
        rw [← e3] at this
        exact this
end Go.Proofs.Ytdbkbeojedndbaa
/-
  The walks of leb.span, leb.GetU and of the reference's Span, Num.
-/
namespace Go.Proofs.Ytdbkbeojedndbaa
open Go.RowKit

set_option maxHeartbeats 1000000 in
set_option maxRecDepth 100000 in
theorem span_calls (A : Option Addr) (n c : Nat) (b : List Int) (w : World) (hR : Rd w .u8 A n b) (hn : n ≤ 1000000) :
    Calls Try.prog 92 #[.slice A n c] w fun e w' => ∃ (s : Nat) (f : Int), e = .returned (.tuple #[.int .i64 s, .int .i64 f]) ∧ Hid (IsSpan b s f) ∧ w' = w := by
  have HR := Lib.hid hR.2
  have Hl := Lib.hid hR.1
  clear hR
  go_enter Try.func92, Try.ntmps92
  go_wp2_with fail
  go_loopw [8] (fun i wr => ∃ k : Nat, k ≤ n ∧ k ≤ 9 ∧ i = .int .i64 k ∧ Hid (∀ i, i < k → 128 ≤ rd b i) ∧ wr = w) (fun i _ => n - (intOf i).toNat)
  case atStart => exact ⟨0, by omega, by omega, rfl, Lib.hid (fun i hi => by omega), rfl⟩
  case round =>
    obtain ⟨k, hk, hk9, rfl, HN, hw⟩ := hrel
    obtain ⟨W, hW⟩ : ∃ W, W = wr := ⟨_, rfl⟩
    rw [← hW] at hw ⊢
    subst hw
    clear hW
    by_cases hlt : k < n
    · obtain ⟨b0, o0, e0, hc⟩ := HR.out (by omega)
      subst e0
      have c0 := hc k hlt
      obtain ⟨x, hx⟩ : ∃ x, x = rd b k := ⟨_, rfl⟩
      rw [← hx] at c0
      have HX := Lib.hid hx
      clear hc hx
      by_cases h1 : x < 128
      · go_wp2_with fail
        refine bodyPost_ret (v := .tuple #[.int .i64 ((k : Int) + 1), .int .i64 0]) (by simp [results, Try.results92, go_sem]) rfl ?_
        refine ⟨k + 1, 0, by simp, .inl ⟨rfl, by omega, by omega, by rw [Hl.out]; omega, fun i hi => HN.out i (by omega), by rw [Nat.add_sub_cancel, ← HX.out]; exact h1⟩, rfl⟩
      · by_cases h9 : k = 9
        · subst h9
          go_wp2_with fail
          refine bodyPost_ret (v := .tuple #[.int .i64 0, .int .i64 3]) (by simp [results, Try.results92, go_sem]) rfl ?_
          refine ⟨0, 3, rfl, .inr (.inl ⟨rfl, rfl, by rw [Hl.out]; omega, fun i hi => ?_⟩), rfl⟩
          rcases Nat.lt_or_ge i 9 with g | g
          · exact HN.out i g
          · obtain rfl : i = 9 := by omega
            rw [← HX.out]; omega
        · have h9b : ((k : Int) == 9) = false := by simp; omega
          go_wp2_with fail
          go_roundw
          case rel =>
            refine ⟨k + 1, by omega, by omega, by go_num, Lib.hid (fun i hi => ?_), trivial⟩
            rcases Nat.lt_or_ge i k with g | g
            · exact HN.out i g
            · obtain rfl : i = k := by omega
              rw [← HX.out]; omega
          case measure => simp [intOf]; omega
    · obtain rfl : k = n := by omega
      go_wp2_with fail
      refine bodyPost_ret (v := .tuple #[.int .i64 0, .int .i64 2]) (by simp [results, Try.results92, go_sem]) rfl ?_
      exact ⟨0, 2, rfl, .inr (.inr ⟨rfl, rfl, by rw [Hl.out]; omega, by rw [Hl.out]; exact HN.out⟩), rfl⟩
set_option maxHeartbeats 1000000 in
set_option maxRecDepth 100000 in
theorem rSpan_calls (A : Option Addr) (n c : Nat) (b : List Int) (w : World) (hR : Rd w .u8 A n b) (hn : n ≤ 1000000) :
    Calls Try.prog 36 #[.slice A n c] w fun e w' => ∃ (s : Nat) (f : Int), e = .returned (.tuple #[.int .i64 s, .int .i64 f]) ∧ Hid (IsSpan b s f) ∧ w' = w := by
  have HR := Lib.hid hR.2
  have Hl := Lib.hid hR.1
  clear hR
  go_enter Try.func36, Try.ntmps36
  go_wp2_with fail
  go_loopw [4] (fun i wr => ∃ k : Nat, k ≤ n ∧ k ≤ 9 ∧ i = .int .i64 k ∧ Hid (∀ i, i < k → 128 ≤ rd b i) ∧ wr = w) (fun i _ => n - (intOf i).toNat)
  case atStart => exact ⟨0, by omega, by omega, rfl, Lib.hid (fun i hi => by omega), rfl⟩
  case round =>
    obtain ⟨k, hk, hk9, rfl, HN, hw⟩ := hrel
    obtain ⟨W, hW⟩ : ∃ W, W = wr := ⟨_, rfl⟩
    rw [← hW] at hw ⊢
    subst hw
    clear hW
    by_cases hlt : k < n
    · obtain ⟨b0, o0, e0, hc⟩ := HR.out (by omega)
      subst e0
      have c0 := hc k hlt
      obtain ⟨x, hx⟩ : ∃ x, x = rd b k := ⟨_, rfl⟩
      rw [← hx] at c0
      have HX := Lib.hid hx
      clear hc hx
      by_cases h1 : x < 128
      · go_wp2_with fail
        refine bodyPost_ret (v := .tuple #[.int .i64 ((k : Int) + 1), .int .i64 0]) (by simp [results, Try.results36, go_sem]) rfl ?_
        refine ⟨k + 1, 0, by simp, .inl ⟨rfl, by omega, by omega, by rw [Hl.out]; omega, fun i hi => HN.out i (by omega), by rw [Nat.add_sub_cancel, ← HX.out]; exact h1⟩, rfl⟩
      · by_cases h9 : k = 9
        · subst h9
          go_wp2_with fail
          refine bodyPost_ret (v := .tuple #[.int .i64 0, .int .i64 3]) (by simp [results, Try.results36, go_sem]) rfl ?_
          refine ⟨0, 3, rfl, .inr (.inl ⟨rfl, rfl, by rw [Hl.out]; omega, fun i hi => ?_⟩), rfl⟩
          rcases Nat.lt_or_ge i 9 with g | g
          · exact HN.out i g
          · obtain rfl : i = 9 := by omega
            rw [← HX.out]; omega
        · have h9b : ((k : Int) == 9) = false := by simp; omega
          go_wp2_with fail
          go_roundw
          case rel =>
            refine ⟨k + 1, by omega, by omega, by go_num, Lib.hid (fun i hi => ?_), trivial⟩
            rcases Nat.lt_or_ge i k with g | g
            · exact HN.out i g
            · obtain rfl : i = k := by omega
              rw [← HX.out]; omega
          case measure => simp [intOf]; omega
    · obtain rfl : k = n := by omega
      go_wp2_with fail
      refine bodyPost_ret (v := .tuple #[.int .i64 0, .int .i64 2]) (by simp [results, Try.results36, go_sem]) rfl ?_
      exact ⟨0, 2, rfl, .inr (.inr ⟨rfl, rfl, by rw [Hl.out]; omega, by rw [Hl.out]; exact HN.out⟩), rfl⟩
set_option maxHeartbeats 1000000 in
set_option maxRecDepth 100000 in
theorem GetU_calls (A : Option Addr) (n c : Nat) (b : List Int) (w : World) (hR : Rd w .u8 A n b) (hA : A = none → n = 0 ∧ c = 0) (hc : n ≤ c) (hb : ∀ x ∈ b, 0 ≤ x ∧ x ≤ 255) (hn : n ≤ 1000000) :
    Calls Try.prog 65 #[.slice A n c] w fun e w' => ∃ (v k : Nat) (f : Int), e = .returned (.tuple #[.int .u64 v, .int .i64 k, .int .i64 f]) ∧ Hid (IsGet b v k f) ∧ Below w.heap.size w w' := by
  have HR := Lib.hid hR
  have Hl := Lib.hid hR.1
  have Hb := Lib.hid hb
  clear hR hb
  go_enter Try.func65, Try.ntmps65
  go_wp2_with fail
  refine (span_calls A n c b w HR.out hn).mono ?_
  rintro e w' ⟨s, f, rfl, Hs, rfl⟩
  by_cases hf : f = 0
  · subst hf
    have hs10 : 1 ≤ s ∧ s ≤ 10 ∧ s ≤ n := by
      rcases Hs.out with ⟨_, h1, h2, h3, _⟩ | ⟨_, h, _⟩ | ⟨_, h, _⟩
      · rw [Hl.out] at h3; exact ⟨h1, h2, h3⟩
      · omega
      · omega
    obtain ⟨hs1, hs2, hs3⟩ := hs10
    obtain ⟨b0, o0, e0, hcell⟩ := HR.out.2 (by omega)
    subst e0
    have Hcell := Lib.hid hcell
    clear hcell
    go_wp2_with fail
    go_loopw [7, 22] (fun v i wr => ∃ k : Nat, k ≤ s ∧ i = .int .i64 k ∧ v = .int .u64 ((valB (b.take k) % 18446744073709551616 : Nat) : Int) ∧ wr = w') (fun _ i _ => s - (intOf i).toNat)
    case atStart => exact ⟨0, by omega, rfl, rfl, rfl⟩
    case round =>
      obtain ⟨k, hk, rfl, rfl, hw⟩ := hrel
      obtain ⟨W, hW⟩ : ∃ W, W = wr := ⟨_, rfl⟩
      rw [← hW] at hw ⊢
      subst hw
      clear hW
      obtain ⟨q, hq⟩ : ∃ q, q = valB (b.take k) % 18446744073709551616 := ⟨_, rfl⟩
      rw [← hq]
      have hq64 : q < 18446744073709551616 := by rw [hq]; exact Nat.mod_lt _ (by decide)
      have Hq := Lib.hid hq
      clear hq
      by_cases hlt : k < s
      · have c0 := Hcell.out k (by omega)
        obtain ⟨x, hx⟩ : ∃ x, x = rd b k := ⟨_, rfl⟩
        rw [← hx] at c0
        have HX := Lib.hid hx
        have hx255 : 0 ≤ x ∧ x ≤ 255 := by rw [hx, rd_getElem (by rw [Hl.out]; omega)]; exact Hb.out _ (List.getElem_mem _)
        obtain ⟨hx0, hx1⟩ := hx255
        clear hx
        have hst := step_val (b := b) (k := k) (by omega) (by rw [Hl.out]; omega) HX.out ⟨hx0, hx1⟩ Hq.out
        have Hst := Lib.hid hst
        clear hst
        go_wp2_with fail
        go_roundw
        case rel => exact ⟨k + 1, by omega, by go_num, by rw [Hst.out], trivial⟩
        case measure => simp [intOf]; omega
      · obtain rfl : k = s := by omega
        obtain ⟨x9, hx9⟩ : ∃ x, x = rd b (k - 1) := ⟨_, rfl⟩
        have c9 := Hcell.out (k - 1) (by omega)
        rw [← hx9] at c9
        have HX9 := Lib.hid hx9
        have h10 := lebU_10 (n := q) hq64
        obtain ⟨lq, hlq⟩ : ∃ l, l = (lebU q).length := ⟨_, rfl⟩
        rw [← hlq] at h10
        have Hlq := Lib.hid hlq
        clear hx9 hlq
        go_wp2_with fail
        refine (U_calls q _ hq64).mono ?_
        rintro e w2 ⟨v2, rfl, ho2, hb2⟩
        rw [← Hlq.out] at ho2
        obtain ⟨A2, c2, rfl⟩ := own_slice ho2
        have HB2 := Lib.hid hb2
        have c92 := kept_cell hb2 c9
        clear ho2 hb2 c9
        by_cases hl : lq = k
        · subst hl
          have hq1 : ((lq : Int) != lq) = false := by simp
          by_cases h9 : lq = 10
          · subst h9
            by_cases hx : 1 < x9
            · have hd9 : decide ((1 : Int) < x9) = true := decide_eq_true hx
              have hg := get_ten Hs.out (by rw [← HX9.out]; exact hx)
              have Hg := Lib.hid hg
              clear hg
              go_wp2_with fail
              refine bodyPost_ret (v := .tuple #[.int .u64 0, .int .i64 0, .int .i64 3]) (by simp [results, Try.results65, go_sem]) rfl ?_
              exact ⟨0, 0, 3, rfl, Hg.out, HB2.out⟩
            · have hd9 : decide ((1 : Int) < x9) = false := decide_eq_false hx
              have hg := get_some Hb.out Hs.out Hq.out Hlq.out.symm (fun _ => by rw [← HX9.out]; omega)
              have Hg := Lib.hid hg
              clear hg
              go_wp2_with fail
              refine bodyPost_ret (v := .tuple #[.int .u64 q, .int .i64 10, .int .i64 0]) (by simp [results, Try.results65, go_sem]) rfl ?_
              exact ⟨q, 10, 0, rfl, Hg.out, HB2.out⟩
          · have h9b : ((lq : Int) == 10) = false := by simp; omega
            have hg := get_some Hb.out Hs.out Hq.out Hlq.out.symm (fun h => absurd h h9)
            have Hg := Lib.hid hg
            clear hg
            go_wp2_with fail
            refine bodyPost_ret (v := .tuple #[.int .u64 q, .int .i64 lq, .int .i64 0]) (by simp [results, Try.results65, go_sem]) rfl ?_
            exact ⟨q, lq, 0, rfl, Hg.out, HB2.out⟩
        · have hlb : ((lq : Int) != k) = true := by simp; omega
          have hg := get_none Hs.out Hq.out (fun e => hl (by rw [Hlq.out]; exact e))
          have Hg := Lib.hid hg
          clear hg
          go_wp2_with fail
          refine bodyPost_ret (v := .tuple #[.int .u64 0, .int .i64 0, .int .i64 3]) (by simp [results, Try.results65, go_sem]) rfl ?_
          exact ⟨0, 0, 3, rfl, Hg.out, HB2.out⟩
  · have hfb : (f == 0) = false := by simpa using hf
    go_wp2_with fail
    refine bodyPost_ret (v := .tuple #[.int .u64 0, .int .i64 0, .int .i64 f]) (by simp [results, Try.results65, go_sem]) rfl ?_
    exact ⟨0, 0, f, rfl, get_err Hs.out hf, Below.refl _ _⟩
end Go.Proofs.Ytdbkbeojedndbaa
/-
  Strings of bytes that are read, none too.
-/
namespace Go.Proofs.Ytdbkbeojedndbaa
open Go.RowKit

theorem conv_all {W : World} {A : Option Addr} {n c : Nat} {ns : List Int} (h : Rd W .u8 A n ns) : (convert 22 9 (.slice A n c)).run Try.prog W = .ok (.string (strOfNums ns)) W := by
  rcases Nat.eq_zero_or_pos n with h0 | h0
  · subst h0
    have : ns = [] := List.length_eq_zero_iff.1 h.1
    subst this
    rw [run_convert_bytes_string W 22 9 A 0 c (e := 5) Try.underlying22 Try.underlying5 Try.underlying9]
    cases A <;> simp [Conv.bytesToString, loadCells]
    all_goals rfl
  · obtain ⟨b, o, rfl, hc⟩ := h.2 h0
    exact run_convert_bytes_arg W _ 5 Try.underlying22 Try.underlying5 b o n c ns h.1 hc _ Try.underlying9
theorem conv_allL {w0 : World} {A : Option Addr} {n c : Nat} {ns : List Int} (h : Rd w0 .u8 A n ns) : ∀ W, Later w0 W → (convert 22 9 (.slice A n c)).run Try.prog W = .ok (.string (strOfNums ns)) W :=
  fun _ hL => conv_all (h.below hL.bel)
end Go.Proofs.Ytdbkbeojedndbaa
