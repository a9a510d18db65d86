/-
  Texts joined into one file: Table, RTabP, Less, RTable, Idx, Conv.
-/
import Derived.Test.YtekhofnfikcpnaaJAw181
import Derived.Maps.OwnSet
import Derived.Sort.OwnSorted
import Derived.Deep.RegionWith
import Derived.Deep.LoopGhost
import Derived.Test.YtekhofnfikcpnaaJPutA1
import Derived.Laws.BytesString
import Derived.Laws.BytesArg
/-
  The walk of actors.Table.
-/
namespace Go.Proofs.Ytekhofnfikcpnaa
open Go.RowKit Go.Maps Go.WideMaps

theorem keyS : Keyed Try.prog 9 := string_keyed Try.underlying9
theorem map_below {w w1 : World} {P : Program} {k : TypeId} {R : Value → Option (DataW Unit × List MemPlace)} {b n : Nat} {D : DataW Unit} (h : w.ownsMap P k R b n D) (hb : Below w.heap.size w w1) : w1.ownsMap P k R b n D := by
  obtain ⟨es, clock, hes, r⟩ := h
  exact ⟨es, clock, (hb.block b (Array.getElem?_eq_some_iff.1 hes).1).trans hes, r⟩
theorem map_fr {w w1 : World} {P : Program} {k : TypeId} {R : Value → Option (DataW Unit × List MemPlace)} {b n : Nat} {D : DataW Unit} {S : List (Option Nat)} (h : w.ownsMap P k R b n D) (hf : Fr w w1 S) (hS : ∀ o ∈ S, o ≠ some b) : w1.ownsMap P k R b n D := by
  obtain ⟨es, clock, hes, r⟩ := h
  exact ⟨es, clock, (hf.block b (Array.getElem?_eq_some_iff.1 hes).1 hS).trans hes, r⟩
theorem map_apart {w : World} {P : Program} {k : TypeId} {R : Value → Option (DataW Unit × List MemPlace)} {b n : Nat} {D : DataW Unit} (h : w.ownsMap P k R b n D) {base m size : Nat} {e : TypeId} {v : Value} {xs : List Value} (ho : w.ownsRow base e size v m xs) : v.ownBlock ≠ some b := by
  obtain ⟨es, clock, hes, _⟩ := h
  intro hk
  rcases ho.2 with ⟨rfl, _⟩ | ⟨g, cap, cur, rfl, _, hg, _⟩
  · simp [Value.ownBlock] at hk
  · simp [Value.ownBlock] at hk
    subst hk
    rw [hes] at hg
    cases hg
/-- The map tells who was met. -/
def MetD (D : DataW Unit) (S : ByteArray → Prop) : Prop := ∀ s : ByteArray, s.size ≤ maxLen → ∀ b : Bool, (b = true ↔ S s) → D.atKey (.string (bytes s)) (.lit (.bool false)) = .lit (.bool b)
theorem isKey {s : ByteArray} (hs : s.size ≤ maxLen) : WideAt.IsKeyLit (.string (bytes s)) := keyS.key (keyOf_string_mk Try.underlying9 hs)
theorem MetD.put {D : DataW Unit} {S : ByteArray → Prop} (h : MetD D S) (hD : IsMap D) {s : ByteArray} (hs : s.size ≤ maxLen) : MetD (D.put (.string (bytes s)) (.lit (.bool true))) (fun t => S t ∨ t = s) := by
  intro t ht b hb
  by_cases e : bytes t = bytes s
  · have e' := bytes_inj' e
    subst e'
    rw [atKey_put_same hD (isKey hs)]
    rw [hb.2 (.inr rfl)]
  · rw [atKey_put_other (fun e2 => e (Lit.string.inj e2))]
    refine h t ht b (hb.trans ?_)
    constructor
    · rintro (h1 | h1)
      · exact h1
      · subst h1; exact absurd rfl e
    · exact .inl
theorem MetD.start {S : ByteArray → Prop} (h : ∀ s, ¬ S s) : MetD (.map []) S := fun s _ b hb => by
  cases b with
  | false => rfl
  | true => exact absurd (hb.1 rfl) (h s)
theorem MetD.congr {D : DataW Unit} {S T : ByteArray → Prop} (h : MetD D S) (e : ∀ s, S s ↔ T s) : MetD D T := fun s hs b hb => h s hs b (hb.trans (e s).symm)
theorem zeroBool (w : World) : (zeroValue 4).run Try.prog w = .ok (.bool false) w := by kernel_rfl
set_option maxRecDepth 100000 in
theorem met_look {w : World} {b n : Nat} {D : DataW Unit} {S : ByteArray → Prop} (h : w.ownsMap Try.prog 9 (plainElem Try.prog 4) b n D) (hM : MetD D S) {s : ByteArray} (hs : s.size ≤ maxLen) (c : Bool) (hc : c = true ↔ S s) : (Instr.lookup 59 (.map (some b)) (.string s) false).run Try.prog w = .ok (.bool c) w := by
  obtain ⟨v, ps, hrun, hv⟩ := h.lookup keyS Try.underlying59 (zeroBool w) (plainElem_bool Try.underlying4 false) (keyOf_string_mk Try.underlying9 hs)
  rw [hM s hs c hc] at hv
  rw [hrun]
  have : v = .bool c := by
    unfold plainElem at hv
    rw [Try.underlying4] at hv
    cases v <;> simp at hv
    rw [hv.1]
  rw [this]
theorem met_put {w : World} {b n : Nat} {D : DataW Unit} {S : ByteArray → Prop} (h : w.ownsMap Try.prog 9 (plainElem Try.prog 4) b n D) (hM : MetD D S) (hn : n < maxLen) {s : ByteArray} (hs : s.size ≤ maxLen) :
    ∃ w' D', (Instr.mapUpdate 59 (.map (some b)) (.string s) (.bool true)).run Try.prog w = .ok () w' ∧ w'.ownsMap Try.prog 9 (plainElem Try.prog 4) b (n + 1) D' ∧ MetD D' (fun t => S t ∨ t = s) ∧ w.grownBy w' (some b) := by
  obtain ⟨w', hrun, h2, hg⟩ := h.update keyS Try.underlying59 hn (keyOf_string_mk Try.underlying9 hs) (plainElem_bool Try.underlying4 true)
  exact ⟨w', _, hrun, h2, hM.put h.isMap hs, hg⟩
theorem Fr.cellK {w w' : World} {S : List (Option Nat)} (h : Fr w w' S) {a : Addr} {v : Value} (hc : w.cell? a = some v) (ha : ∀ o ∈ S, o ≠ some a.block) : w'.cell? a = some v := by
  simp only [World.cell?] at hc ⊢
  rw [h.block a.block (World.block_lt_of_cell? w a hc) ha]
  exact hc
def sortS (out : List ByteArray) : List ByteArray := ((out.map bytes).mergeSort fun x y => decide (x ≤ y)).map text
theorem sortS_length (out : List ByteArray) : (sortS out).length = out.length := by simp [sortS]
theorem strs_enc (out : List ByteArray) : strs out = (out.map bytes).map Go.Proofs.encStr := by
  unfold strs
  rw [List.map_map]
  refine List.map_congr_left (fun x _ => ?_)
  show Value.string x = Value.string (text (bytes x))
  rw [text_bytes]
theorem strs_sortS (out : List ByteArray) : strs (sortS out) = ((out.map bytes).mergeSort fun x y => decide (x ≤ y)).map Go.Proofs.encStr := by
  unfold sortS strs
  rw [List.map_map]
  rfl
theorem Sort_calls (A : Option Addr) (n c base : Nat) (out : List ByteArray) (w : World) (ho : w.ownsRow base 9 1 (.slice A n c) n (strs out)) (hn : n ≤ 100000) :
    Calls Try.prog 29 #[.slice A n c] w fun e w' => e = .returned (.tuple #[]) ∧ w'.ownsRow base 9 1 (.slice A n c) n (strs (sortS out)) ∧ Fr w w' [(Value.slice A n c).ownBlock] := by
  have hl := ho.1
  rw [strs_length, Nat.mul_one] at hl
  rcases Nat.eq_zero_or_pos n with h0 | h0
  · subst h0
    refine (AnyG.slices_Sort_string_none Try.sortStr A c w).mono ?_
    rintro e w' ⟨rfl, rfl⟩
    obtain rfl : out = [] := List.length_eq_zero_iff.1 hl
    have e0 : sortS [] = [] := by simp [sortS]
    rw [e0]
    exact ⟨rfl, ho, Fr.refl _ _⟩
  · rcases ho.2 with ⟨h1, _⟩ | ⟨g, cap, cur, e1, hb, hg, h3, h4, h5, h6⟩
    · cases h1; omega
    · cases e1
      have hlb : (out.map bytes).length = n := by rw [List.length_map, hl]
      have ht : cur.toList.take (out.map bytes).length = (out.map bytes).map Go.Proofs.encStr := by
        rw [hlb, ← strs_enc, ← h6, Nat.mul_one]
      have hH := holds_of_block hg ht
      have hc := AnyG.slices_Sort_string Try.sortStr g 0 c (out.map bytes) w hH (Array.getElem?_eq_some_iff.1 hg).1 (by omega)
      rw [hlb] at hc
      refine hc.mono ?_
      rintro e w' ⟨rfl, n', os, rfl⟩
      have hr := ownsRow_sorted (n := n') (os := os) (ss := out.map bytes) (ts := (out.map bytes).mergeSort fun x y => decide (x ≤ y)) (by simp) hb hg (by omega) h4 h5
      rw [hlb, ← strs_sortS] at hr
      exact ⟨rfl, hr, Fr.ofGrown (grownBy_sorted _)⟩
set_option maxHeartbeats 1000000 in
set_option maxRecDepth 100000 in
theorem Table_calls (au : ByteArray) (A : Option Addr) (n cap : Nat) (L : List OpV) (w : World) (hau : au.size ≤ 1000) (hO : OpsAt w A n L) (hn : n ≤ 100) (hF : ∀ i, i < n → FewAt (opv L i)) :
    Calls Try.prog 13 #[.string au, .slice A n cap] w fun e w' => ∃ v T, e = .returned v ∧ IsTable au (namesL L) T ∧ w'.ownsRow w.heap.size 9 1 v T.length (strs T) ∧ Below w.heap.size w w' := by
  have hsm : ∀ y ∈ namesL L, y.2.size ≤ 100 := namesL_small hO.1 (fun i hi => by
    have hf := hF i hi
    refine ⟨hf.o, hf.e, fun y hy => ?_⟩
    obtain ⟨q, hq, rfl⟩ := List.getElem_of_mem hy
    have hx := (hO.2.1 _ (opv_mem (L := L) (j := i) (by rw [hO.1]; exact hi))).2.1
    have := hf.y q (by omega)
    unfold nm at this
    rwa [List.getD_eq_getElem?_getD, List.getElem?_eq_getElem hq] at this)
  have Hsm := Lib.hid hsm
  have HO := Lib.hid hO
  have HF := Lib.hid hF
  have hau' : au.size ≤ maxLen := by unfold maxLen; omega
  have Hau := Lib.hid hau'
  have hmm := @run_makeMap Try.prog
  obtain ⟨W1, D1, hr1, hm1, hM1, hg1⟩ := met_put (World.ownsMap_made (H := Unit) w Try.prog 9 (plainElem Try.prog 4)) (MetD.start (S := fun _ => False) (fun _ h => h)) (by unfold maxLen; omega) hau'
  have hb1 : Below w.heap.size w W1 := ((Below.refl w.heap.size w).alloc (Nat.le_refl _) _).grown hg1 (by simp) (fun k hk => by cases hk; exact Nat.le_refl _)
  have Hm1 := Lib.hid hm1
  have HM1 := Lib.hid (hM1.congr (T := fun t => t = au ∨ t ∈ ([] : List ByteArray)) (fun s => by simp))
  have Hb1 := Lib.hid hb1
  have hs1 := hb1.size
  clear hO hF hau' hm1 hM1 hg1 hb1 hsm
  go_enter Try.func13, Try.ntmps13
  go_wp2_with fail
  clear hmm hr1
  refine (Names_calls A n cap L _ (HO.out.below Hb1.out) hn HF.out).mono ?_
  rintro e w2 ⟨v2, rfl, ho2, hlen, hb2⟩
  have HB2 := Lib.hid (below_seq Hb1.out (Nat.le_refl _) hb2)
  obtain ⟨A2, c2, rfl, _, hnm, hN2⟩ := own_nms ho2
  have Hm2 := Lib.hid (map_below Hm1.out hb2)
  have hs2 := hb2.size
  have hm0 := Hm1.out.lt
  obtain ⟨N, hN⟩ : ∃ N, N = namesL L := ⟨_, rfl⟩
  obtain ⟨m, hm⟩ : ∃ m, m = N.length := ⟨_, rfl⟩
  rw [← hN] at hnm Hsm hlen ho2 ⊢
  rw [← hm] at hnm hlen ho2 ⊢
  have hm42 : m ≤ 4200 := by omega
  have hcells : ∀ k, k < m → ∃ b o, A2 = some ⟨b, o, none⟩ ∧ NmCells w2 b (o + k * 2) (nm N k) ∧ b ≠ w.heap.size := by
    intro k hk
    obtain ⟨b, o, hA2, hc⟩ := hnm.2 (by omega)
    refine ⟨b, o, hA2, hc k hk, ?_⟩
    have := (ho2.lt b (by rw [hA2]; rfl)).1
    omega
  have HC := Lib.hid hcells
  have HN := Lib.hid hN
  have Hm := Lib.hid hm
  clear ho2 hnm hN2 hb2 hN hm hlen hcells
  go_wp2_with fail
  go_loopw [6, 15] (fun v i wr => ∃ (k : Nat) (D : DataW Unit) (out : List ByteArray), k ≤ m ∧ i = .int .i64 k ∧ Hid (wr.ownsRow w2.heap.size 9 1 v out.length (strs out)) ∧ out.length ≤ k ∧ Hid (wr.ownsMap Try.prog 9 (plainElem Try.prog 4) w.heap.size (k + 1) D) ∧ Hid (MetD D fun t => t = au ∨ t ∈ out) ∧ Hid (Dist au (N.take k) out) ∧ Hid (Fr w2 wr [some w.heap.size])) (fun _ i _ => m - (intOf i).toNat)
  case atStart => exact ⟨0, D1, [], by omega, rfl, World.ownsRow_nil _ _ _ _, by simp, Hm2.out, HM1.out, Dist.nil au, Fr.refl _ _⟩
  case round =>
    obtain ⟨k, D, out, hk, rfl, HOu, hol, HD, HM, HDi, HF2⟩ := hrel
    obtain ⟨W, hW⟩ : ∃ W, W = wr := ⟨_, rfl⟩
    subst hW
    obtain ⟨mo, hmo⟩ : ∃ mo, mo = out.length := ⟨_, rfl⟩
    rw [← hmo] at HOu hol
    have Hmo := Lib.hid hmo
    have hsw := HF2.out.size
    clear hmo
    by_cases hlt : k < m
    · obtain ⟨b2, o2, hA2, ⟨d0, d1⟩, hbne⟩ := HC.out k hlt
      obtain ⟨y, hy⟩ : ∃ y, y = nm N k := ⟨_, rfl⟩
      rw [← hy] at d0 d1
      subst hA2
      have hne : ∀ o ∈ [some w.heap.size], o ≠ some b2 := fun o ho e => by simp at ho; subst ho; cases e; exact hbne rfl
      have d0 := HF2.out.cellK d0 hne
      have d1 := HF2.out.cellK d1 hne
      have hkN : k < N.length := by rw [← Hm.out]; exact hlt
      have hyN : N[k] = y := by rw [hy]; unfold nm; rw [List.getD_eq_getElem?_getD, List.getElem?_eq_getElem hkN]; rfl
      have hys : y.2.size ≤ 100 := Hsm.out y (by rw [← hyN]; exact List.getElem_mem hkN)
      have hyM : y.2.size ≤ maxLen := by unfold maxLen; omega
      have hNt : N.take (k + 1) = N.take k ++ [y] := by rw [List.take_succ_eq_append_getElem hkN, hyN]
      have HNt := Lib.hid hNt
      have HyM := Lib.hid hyM
      clear hy hne hyN hNt hyM hkN
      by_cases hyo : y.2 = au ∨ y.2 ∈ out
      · have hlook := met_look (HD.out.alloc (.cells #[.int .i64 y.1, .string y.2] 26)) HM.out HyM.out true ⟨fun _ => hyo, fun _ => rfl⟩
        go_wp2_with fail
        go_roundw
        case rel =>
          exact ⟨k + 1, D, out, by omega, by go_num, by rw [← Hmo.out]; exact HOu.out.alloc _, by rw [← Hmo.out]; omega, (HD.out.alloc _).mono (by omega), HM.out, by rw [HNt.out]; exact HDi.out.old hyo, HF2.out.alloc _⟩
        case measure => simp [intOf]; omega
      · have hlook := met_look (HD.out.alloc (.cells #[.int .i64 y.1, .string y.2] 26)) HM.out HyM.out false ⟨fun h => (by cases h), fun h => absurd h hyo⟩
        obtain ⟨W3, D3, hr3, hD3, hM3, hg3⟩ := met_put (HD.out.alloc (.cells #[.int .i64 y.1, .string y.2] 26)) HM.out (by unfold maxLen; omega) HyM.out
        have hfr3 := Fr.ofGrown hg3
        have hnm : ∀ o ∈ [some w.heap.size], o ≠ some W.heap.size := fun o ho e => by simp at ho; subst ho; have := Option.some.inj e; omega
        have z1 : W3.cell? ⟨W.heap.size, 1, none⟩ = some (.string y.2) := hfr3.cellK (by simp) hnm
        obtain ⟨Au, pu, hvu⟩ := own_slice HOu.out
        subst hvu
        have hO3 : W3.ownsRow w2.heap.size 9 1 (.slice Au mo pu) mo (strs out) := own_fr (HOu.out.alloc _) hfr3 (fun o ho i hi e => by
          simp at ho; subst ho; cases e
          have := (HOu.out.lt _ hi).1
          omega)
        have hs3 : w2.heap.size ≤ W3.heap.size := Nat.le_trans (by simp; omega) hfr3.size
        have HO3 := Lib.hid hO3
        have HD3 := Lib.hid hD3
        have HM3 := Lib.hid (hM3.congr (T := fun t => t = au ∨ t ∈ out ++ [y.2]) (fun s => by simp [or_assoc]))
        have HF3 := Lib.hid ((HF2.out.alloc _).trans hfr3 (fun o ho => .inl ho))
        clear hD3 hM3 hg3 hfr3 hO3 hnm
        go_wp2_with (at_builtin; refine wpList_app3 rfl _ _ rfl elStr HO3.out rfl rfl rfl rfl rfl (by omega) hs3 ?_; intro g4 cg w4 hown4 hfr4 hat4 hlt4; have Hown4 := Lib.hid hown4; have Hfr4 := Lib.hid hfr4; clear hown4 hfr4 hat4)
        go_roundw
        case rel =>
          refine ⟨k + 1, D3, out ++ [y.2], by omega, by go_num, ?_, by rw [List.length_append, ← Hmo.out]; simp; omega, map_fr HD3.out Hfr4.out (fun o ho e => ?_), HM3.out, by rw [HNt.out]; exact HDi.out.new hyo, HF3.out.trans Hfr4.out (fun o ho => .inr (fun j e => (HO3.out.lt j (by simp at ho; subst ho; exact e)).1))⟩
          · rw [List.length_append, ← Hmo.out, strs_app]; exact Hown4.out
          · simp at ho; subst ho
            have := (HO3.out.lt _ e).1
            omega
        case measure => simp [intOf]; omega
    · obtain rfl : k = m := by omega
      have hNt : N.take k = N := List.take_of_length_le (by rw [← Hm.out]; exact Nat.le_refl _)
      rw [hNt] at HDi
      obtain ⟨Au, pu, hvu⟩ := own_slice HOu.out
      subst hvu
      go_wp2_with fail
      refine (Sort_calls Au mo pu w2.heap.size out _ HOu.out (by omega)).mono ?_
      rintro e w4 ⟨rfl, ho4, hf4⟩
      have Ho4 := Lib.hid ho4
      have hsz4 := hf4.size
      have HB4 : Hid (Below w.heap.size w w4) := Lib.hid (HB2.out.trans ((HF2.out.trans hf4 (fun o ho => .inr (fun j e => (HOu.out.lt j (by simp at ho; subst ho; exact e)).1))).below (by omega) (fun o ho j e => by simp at ho; subst ho; cases e; exact Nat.le_refl _)))
      have hs4 := HB4.out.size
      have HV4 := Lib.hid ((own_rdV (Ho4.out.alloc (.cells #[.string au] 9))))
      have Hlit := Lib.hid (World.ownsRow_lit (base := w.heap.size) (size := 1) (e := 9) w4 #[.string au] 1 hs4 (by simp [maxLen]) rfl)
      clear ho4 hf4
      obtain ⟨_, _, e4, _, hv4, hn4⟩ := HV4.out
      cases e4
      have Hv4 := Lib.hid hv4
      have Hn4 := Lib.hid hn4
      clear hv4 hn4
      go_wp2_with (at_builtin; refine wpList_appV rfl _ _ rfl elStr Hlit.out rfl rfl Hv4.out Hn4.out (strs_one _) (by omega) (by simp <;> omega) ?_; intro v5 w5 hown5 hfr5 hat5; have Hown5 := Lib.hid hown5; have Hfr5 := Lib.hid hfr5; clear hown5 hfr5 hat5)
      go_ret
      have h5 := Hown5.out
      have hT : (#[Value.string au] : Array Value).toList ++ strs (sortS out) = strs (au :: sortS out) := rfl
      rw [hT] at h5
      refine ⟨_, au :: sortS out, rfl, by rw [← HN.out]; exact HDi.out.table, by rw [List.length_cons, sortS_length, ← Hmo.out, Nat.add_comm]; exact h5, HB4.out.trans (((Below.refl w4.heap.size w4).alloc (Nat.le_refl _) _ |>.trans (Hfr5.out.below (by simp) (fun o ho j e => by simp [Value.ownBlock] at ho; subst ho; simp at e; omega))).mono hs4)⟩
end Go.Proofs.Ytekhofnfikcpnaa
/-
  The reference's table grows (no program).
-/
namespace Go.Proofs.Ytekhofnfikcpnaa
open Go.RowKit

/-- May s come next? -/
def Cand (au : ByteArray) (t : List ByteArray) (s : ByteArray) : Prop := s ≠ au ∧ ∀ x, t.getLast? = some x → ltB x s
structure Grow (au : ByteArray) (N : List Nm) (t : List ByteArray) : Prop where
  up : t.Pairwise ltB
  ok : ∀ s ∈ t, s ≠ au ∧ ∃ y ∈ N, y.2 = s
  all : ∀ y ∈ N, y.2 ≠ au → y.2 ∈ t ∨ ∀ x ∈ t, ltB x y.2
theorem Grow.nil (au : ByteArray) (N : List Nm) : Grow au N [] := ⟨List.Pairwise.nil, (fun s h => by cases h), fun y _ _ => .inr (fun x h => by cases h)⟩
theorem last_top {t : List ByteArray} (h : t.Pairwise ltB) {x l : ByteArray} (hl : t.getLast? = some l) (hx : x ∈ t) : x = l ∨ ltB x l := by
  obtain ⟨f, rfl⟩ : ∃ f, t = f ++ [l] := by
    refine ⟨t.dropLast, ?_⟩
    rw [List.getLast?_eq_some_iff] at hl
    obtain ⟨f, rfl⟩ := hl
    simp
  rcases List.mem_append.1 hx with h1 | h1
  · exact .inr ((List.pairwise_append.1 h).2.2 x h1 l (by simp))
  · exact .inl (by simpa using h1)
theorem Grow.cand {au : ByteArray} {N : List Nm} {t : List ByteArray} (_h : Grow au N t) {s : ByteArray} (hc : Cand au t s) (hp : t.Pairwise ltB) : ∀ x ∈ t, ltB x s := by
  intro x hx
  cases hl : t.getLast? with
  | none => rw [List.getLast?_eq_none_iff] at hl; subst hl; cases hx
  | some l =>
    rcases last_top hp hl hx with e | e
    · subst e; exact hc.2 _ hl
    · exact ltB_trans e (hc.2 _ hl)
theorem Grow.next {au : ByteArray} {N : List Nm} {t : List ByteArray} (h : Grow au N t) {z : Nm} (hz : z ∈ N) (hc : Cand au t z.2) (hm : ∀ y ∈ N, Cand au t y.2 → ¬ ltB y.2 z.2) : Grow au N (t ++ [z.2]) := by
  have hb := h.cand hc h.up
  refine ⟨?_, ?_, ?_⟩
  · rw [List.pairwise_append]
    refine ⟨h.up, by simp, fun a ha b hb2 => ?_⟩
    obtain rfl : b = z.2 := by simpa using hb2
    exact hb a ha
  · intro s hs
    rcases List.mem_append.1 hs with h1 | h1
    · exact h.ok s h1
    · obtain rfl : s = z.2 := by simpa using h1
      exact ⟨hc.1, z, hz, rfl⟩
  · intro y hy hya
    rcases h.all y hy hya with h1 | h1
    · exact .inl (List.mem_append_left _ h1)
    · have hcy : Cand au t y.2 := ⟨hya, fun x hx => h1 x (List.mem_of_getLast? hx)⟩
      have h2 := hm y hy hcy
      by_cases e : y.2 = z.2
      · exact .inl (by rw [e]; simp)
      · refine .inr (fun x hx => ?_)
        rcases List.mem_append.1 hx with h3 | h3
        · exact h1 x h3
        · obtain rfl : x = z.2 := by simpa using h3
          exact ltB_or h2 e
theorem Grow.done {au : ByteArray} {N : List Nm} {t : List ByteArray} (h : Grow au N t) (hn : ∀ y ∈ N, ¬ Cand au t y.2) : IsTable au N (au :: t) := by
  refine ⟨t, rfl, h.up, fun s => ⟨h.ok s, ?_⟩⟩
  rintro ⟨h1, y, hy, rfl⟩
  rcases h.all y hy h1 with h2 | h2
  · exact h2
  · exact absurd ⟨h1, fun x hx => h2 x (List.mem_of_getLast? hx)⟩ (hn y hy)
open Classical in
/-- How many names are still to come. -/
noncomputable def left (N : List Nm) (t : List ByteArray) : Nat := (N.filter fun y => decide (y.2 ∉ t)).length
theorem left_le (N : List Nm) (t : List ByteArray) : left N t ≤ N.length := List.length_filter_le _ _
theorem filter_less {p q : Nm → Bool} {N : List Nm} (h : ∀ y, q y = true → p y = true) : (N.filter q).length ≤ (N.filter p).length := by
  induction N with
  | nil => simp
  | cons a N ih =>
    rw [List.filter_cons, List.filter_cons]
    by_cases hq : q a = true
    · rw [if_pos hq, if_pos (h a hq)]; simp; exact ih
    · rw [if_neg hq]
      split
      · simp; omega
      · exact ih
theorem filter_lt {p q : Nm → Bool} {N : List Nm} (h : ∀ y, q y = true → p y = true) {z : Nm} (hz : z ∈ N) (hp : p z = true) (hq : q z = false) : (N.filter q).length < (N.filter p).length := by
  induction N with
  | nil => cases hz
  | cons a N ih =>
    rw [List.filter_cons, List.filter_cons]
    rcases List.mem_cons.1 hz with e | e
    · subst e
      rw [if_pos hp, if_neg (by rw [hq]; decide)]
      have := filter_less (N := N) h
      simp; omega
    · have := ih e
      by_cases hqa : q a = true
      · rw [if_pos hqa, if_pos (h a hqa)]; simp; exact this
      · rw [if_neg hqa]
        split
        · simp; omega
        · exact this
open Classical in
theorem Grow.left {au : ByteArray} {N : List Nm} {t : List ByteArray} (h : Grow au N t) {z : Nm} (hz : z ∈ N) (hc : Cand au t z.2) : left N (t ++ [z.2]) < Go.Proofs.Ytekhofnfikcpnaa.left N t := by
  refine filter_lt (z := z) (fun y hy => ?_) hz ?_ ?_
  · simp at hy ⊢; exact hy.1
  · simp
    intro hm
    exact ltB_irrefl _ (h.cand hc h.up _ hm)
  · simp
theorem nodup_le : ∀ {t : List ByteArray} {N : List Nm} {P : ByteArray → Prop}, t.Nodup → (∀ s ∈ t, P s ∧ ∃ y ∈ N, y.2 = s) → t.length ≤ N.length := by
  intro t
  induction t with
  | nil => intro N P _ _; simp
  | cons a t ih =>
    intro N P h k
    obtain ⟨h1, h2⟩ := List.nodup_cons.1 h
    obtain ⟨_, y, hy, e⟩ := k a (List.mem_cons_self ..)
    have h3 := ih (N := N.filter fun z => decide (z.2 ≠ a)) (P := fun _ => True) h2 (fun s hs => by
      obtain ⟨_, z, hz, e2⟩ := k s (List.mem_cons_of_mem _ hs)
      refine ⟨trivial, z, List.mem_filter.2 ⟨hz, ?_⟩, e2⟩
      refine decide_eq_true (fun e3 => h1 ?_)
      rw [← e3, e2]; exact hs)
    have h4 := filter_lt (N := N) (p := fun _ => true) (q := fun z => decide (z.2 ≠ a)) (fun _ _ => rfl) hy rfl (by rw [e]; simp)
    rw [List.filter_eq_self.2 (fun _ _ => rfl)] at h4
    simp only [List.length_cons]
    omega
/-- The least candidate among the first. -/
structure Best (au : ByteArray) (N : List Nm) (t : List ByteArray) (k : Nat) (b : Int) : Prop where
  is : (b = -1 ∧ ∀ y ∈ N.take k, ¬ Cand au t y.2) ∨ (∃ j : Nat, b = j ∧ j < k ∧ Cand au t (nm N j).2 ∧ ∀ y ∈ N.take k, Cand au t y.2 → ¬ ltB y.2 (nm N j).2)
theorem Best.start (au : ByteArray) (N : List Nm) (t : List ByteArray) : Best au N t 0 (-1) := ⟨.inl ⟨rfl, fun y hy => by simp at hy⟩⟩
theorem take_nm {N : List Nm} {k : Nat} (h : k < N.length) : N.take (k + 1) = N.take k ++ [nm N k] := by
  rw [List.take_succ_eq_append_getElem h]
  unfold nm
  rw [List.getD_eq_getElem?_getD, List.getElem?_eq_getElem h]
  rfl
theorem nm_mem {N : List Nm} {k : Nat} (h : k < N.length) : nm N k ∈ N := by
  unfold nm
  rw [List.getD_eq_getElem?_getD, List.getElem?_eq_getElem h]
  exact List.getElem_mem h
theorem Best.skip {au : ByteArray} {N : List Nm} {t : List ByteArray} {k : Nat} {b : Int} (h : Best au N t k b) (hk : k < N.length) (hs : ¬ Cand au t (nm N k).2 ∨ (∃ j : Nat, b = j ∧ ¬ ltB (nm N k).2 (nm N j).2)) : Best au N t (k + 1) b := by
  refine ⟨?_⟩
  rw [take_nm hk]
  rcases h.is with ⟨rfl, h2⟩ | ⟨j, rfl, h2, h3, h4⟩
  · refine .inl ⟨rfl, fun y hy => ?_⟩
    rcases List.mem_append.1 hy with e | e
    · exact h2 y e
    · obtain rfl : y = nm N k := by simpa using e
      rcases hs with hs | ⟨j, e2, _⟩
      · exact hs
      · omega
  · refine .inr ⟨j, rfl, by omega, h3, fun y hy hc => ?_⟩
    rcases List.mem_append.1 hy with e | e
    · exact h4 y e hc
    · obtain rfl : y = nm N k := by simpa using e
      rcases hs with hs | ⟨j', e2, h5⟩
      · exact absurd hc hs
      · obtain rfl : j = j' := by omega
        exact h5
theorem Best.take {au : ByteArray} {N : List Nm} {t : List ByteArray} {k : Nat} {b : Int} (h : Best au N t k b) (hk : k < N.length) (hc : Cand au t (nm N k).2) (hs : b = -1 ∨ ∃ j : Nat, b = j ∧ ltB (nm N k).2 (nm N j).2) : Best au N t (k + 1) k := by
  refine ⟨.inr ⟨k, rfl, by omega, hc, fun y hy hcy => ?_⟩⟩
  rw [take_nm hk] at hy
  rcases List.mem_append.1 hy with e | e
  · rcases h.is with ⟨rfl, h2⟩ | ⟨j, rfl, h2, h3, h4⟩
    · exact absurd hcy (h2 y e)
    · rcases hs with hs | ⟨j', e2, h5⟩
      · omega
      · obtain rfl : j = j' := by omega
        exact fun h6 => h4 y e hcy (ltB_trans h6 h5)
  · obtain rfl : y = nm N k := by simpa using e
    exact ltB_irrefl _
theorem Best.rng {au : ByteArray} {N : List Nm} {t : List ByteArray} {k : Nat} {b : Int} (h : Best au N t k b) : b = -1 ∨ ∃ j : Nat, b = j ∧ j < k := by
  rcases h.is with ⟨h1, _⟩ | ⟨j, h1, h2, _⟩
  · exact .inl h1
  · exact .inr ⟨j, h1, h2⟩
end Go.Proofs.Ytekhofnfikcpnaa
/-
  The walk of the reference's Less at names of one number.
-/
namespace Go.Proofs.Ytekhofnfikcpnaa
open Go.RowKit

theorem pre_lt (p : List UInt8) {x y : List UInt8} : p ++ x < p ++ y ↔ x < y := by
  induction p with
  | nil => rfl
  | cons a p ih =>
    rw [List.cons_append, List.cons_append, List.cons_lt_cons_iff]
    constructor
    · rintro (h | ⟨_, h⟩)
      · exact absurd h (UInt8.lt_irrefl _)
      · exact ih.1 h
    · intro h; exact .inr ⟨rfl, ih.2 h⟩
theorem same_split {l m : List UInt8} {k : Nat} (hl : k < l.length) (hm : k < m.length) (h : l.take k = m.take k) : (l < m ↔ l[k] < m[k] ∨ (l[k] = m[k] ∧ l.drop (k + 1) < m.drop (k + 1))) := by
  have e1 : l = l.take k ++ l[k] :: l.drop (k + 1) := by rw [← List.drop_eq_getElem_cons hl, List.take_append_drop]
  have e2 : m = l.take k ++ m[k] :: m.drop (k + 1) := by rw [h, ← List.drop_eq_getElem_cons hm, List.take_append_drop]
  have := pre_lt (l.take k) (x := l[k] :: l.drop (k + 1)) (y := m[k] :: m.drop (k + 1))
  rw [← e1, ← e2, List.cons_lt_cons_iff] at this
  exact this
theorem less_here {l m : List UInt8} {k : Nat} (hl : k < l.length) (hm : k < m.length) (h : l.take k = m.take k) (hne : l[k] ≠ m[k]) : (l < m ↔ l[k] < m[k]) := by
  rw [same_split hl hm h]
  constructor
  · rintro (h | ⟨h, _⟩)
    · exact h
    · exact absurd h hne
  · exact .inl
theorem less_end {l m : List UInt8} {k : Nat} (hk : k ≤ l.length ∧ k ≤ m.length) (hend : k = l.length ∨ k = m.length) (h : l.take k = m.take k) : (l < m ↔ l.length < m.length) := by
  rcases hend with e | e
  · have e1 : l = l.take k ++ [] := by rw [List.append_nil, List.take_of_length_le (by omega)]
    have e2 : m = l.take k ++ m.drop k := by rw [h, List.take_append_drop]
    have := pre_lt (l.take k) (x := []) (y := m.drop k)
    rw [← e1, ← e2] at this
    rw [this]
    cases hd : m.drop k with
    | nil =>
      have := congrArg List.length hd
      simp at this
      constructor
      · intro h; exact absurd h (List.not_lt_nil _)
      · intro h; omega
    | cons a t =>
      have := congrArg List.length hd
      simp at this
      constructor
      · intro _; omega
      · intro _; exact List.nil_lt_cons ..
  · have e1 : m = m.take k ++ [] := by rw [List.append_nil, List.take_of_length_le (by omega)]
    have e2 : l = m.take k ++ l.drop k := by rw [← h, List.take_append_drop]
    have := pre_lt (m.take k) (x := l.drop k) (y := [])
    rw [← e1, ← e2] at this
    rw [this]
    constructor
    · intro h; exact absurd h (List.not_lt_nil _)
    · intro h; omega
set_option maxHeartbeats 1000000 in
set_option maxRecDepth 100000 in
theorem Less_calls (a b : ByteArray) (w : World) (ha : a.size ≤ 100000) (hb : b.size ≤ 100000) :
    Calls Try.prog 54 #[.agg #[.int .i64 1, .string a], .agg #[.int .i64 1, .string b]] w fun e w' => ∃ c, e = .returned (.bool c) ∧ Hid (c = true ↔ ltB a b) ∧ Below w.heap.size w w' := by
  go_enter Try.func54, Try.ntmps54
  go_wp2_with fail
  obtain ⟨W, hW⟩ : ∃ W, W = (w.alloc (.cells #[.int .i64 1, .string a] 26)).alloc (.cells #[.int .i64 1, .string b] 26) := ⟨_, rfl⟩
  have c1 : W.cell? ⟨w.heap.size, 1, none⟩ = some (.string a) := by rw [hW]; exact kept_new (by simp) _
  have c2 : W.cell? ⟨w.heap.size + 1, 1, none⟩ = some (.string b) := by rw [hW]; simp
  have hB : Below w.heap.size w W := by rw [hW]; exact ((Below.refl _ _).alloc (Nat.le_refl _) _).alloc (by simp) _
  rw [← hW]
  have HC1 := Lib.hid c1
  have HC2 := Lib.hid c2
  have HB := Lib.hid hB
  clear hW c1 c2 hB
  go_loopw [5] (fun i wr => ∃ k : Nat, k ≤ a.size ∧ k ≤ b.size ∧ i = .int .i64 k ∧ Hid ((bytes a).take k = (bytes b).take k) ∧ Hid (Below W.heap.size W wr)) (fun i _ => a.size - (intOf i).toNat)
  case atStart => exact ⟨0, by omega, by omega, rfl, Lib.hid rfl, Below.refl _ _⟩
  case round =>
    obtain ⟨k, hka, hkb, rfl, HT, HBr⟩ := hrel
    obtain ⟨W2, hW2⟩ : ∃ W, W = wr := ⟨_, rfl⟩
    subst hW2
    have c1 := kept_cell HBr.out HC1.out
    have c2 := kept_cell HBr.out HC2.out
    by_cases h1 : k < a.size
    · by_cases h2 : k < b.size
      · have hl1 : k < (bytes a).length := h1
        have hl2 : k < (bytes b).length := h2
        have e1 : (bytes a)[k] = a[k] := rfl
        have e2 : (bytes b)[k] = b[k] := rfl
        by_cases he : a[k] = b[k]
        · have hx : ((a[k].toNat : Int) != (b[k].toNat : Int)) = false := by rw [he]; simp
          have HE := Lib.hid he
          clear he e1 e2
          go_wp2_with fail
          go_region
          go_wp2_with fail
          go_roundw
          case rel =>
            refine ⟨k + 1, by omega, by omega, by go_num, Lib.hid ?_, HBr.out.drew⟩
            rw [List.take_succ_eq_append_getElem hl1, List.take_succ_eq_append_getElem hl2, HT.out]
            congr 1
            show [a[k]] = [b[k]]
            rw [HE.out]
          case measure => simp [intOf]; omega
        · have hx : ((a[k].toNat : Int) != (b[k].toNat : Int)) = true := by
            have : a[k].toNat ≠ b[k].toNat := fun e => he (UInt8.toNat_inj.1 e)
            simp; omega
          have hlt := less_here hl1 hl2 HT.out (by rw [e1, e2]; exact he)
          rw [e1, e2] at hlt
          have Hlt := Lib.hid hlt
          clear he e1 e2 hlt
          go_wp2_with fail
          go_region
          go_wp2_with fail
          go_region
          all_goals go_wp2_with fail
          all_goals go_ret
          all_goals refine ⟨_, rfl, Lib.hid ?_, HB.out.trans (HBr.out.drew.drew.mono HB.out.size)⟩
          all_goals
            show _ ↔ bytes a < bytes b
            rw [Hlt.out, UInt8.lt_iff_toNat_lt]
            simp
      · go_wp2_with fail
        go_ret
        refine ⟨_, rfl, Lib.hid ?_, HB.out.trans (HBr.out.mono HB.out.size)⟩
        show _ ↔ bytes a < bytes b
        rw [less_end ⟨hka, hkb⟩ (.inr (show k = b.size by omega)) HT.out]
        show _ ↔ a.size < b.size
        simp
    · go_wp2_with fail
      go_ret
      refine ⟨_, rfl, Lib.hid ?_, HB.out.trans (HBr.out.mono HB.out.size)⟩
      show _ ↔ bytes a < bytes b
      rw [less_end ⟨hka, hkb⟩ (.inl (show k = a.size by omega)) HT.out]
      show _ ↔ a.size < b.size
      simp
theorem less_calls (a b : ByteArray) (w : World) (ha : a.size ≤ 100000) (hb : b.size ≤ 100000) :
    Calls Try.prog 30 #[.string a, .string b] w fun e w' => ∃ c, e = .returned (.bool c) ∧ Hid (c = true ↔ ltB a b) ∧ Below w.heap.size w w' := by
  go_enter Try.func30, Try.ntmps30
  go_wp2_with fail
  refine (Less_calls a b _ ha hb).mono ?_
  rintro e w1 ⟨c, rfl, hc, hb1⟩
  go_wp2_with fail
  go_ret
  exact ⟨c, rfl, hc, hb1⟩
end Go.Proofs.Ytekhofnfikcpnaa
/-
  The walk of the reference's Table. Printed by gen_rtable.py.
-/
namespace Go.Proofs.Ytekhofnfikcpnaa
open Go.RowKit

theorem small_of {n : Nat} {L : List OpV} {w : World} {A : Option Addr} (hO : OpsAt w A n L) (hF : ∀ i, i < n → FewAt (opv L i)) : ∀ y ∈ namesL L, y.2.size ≤ 100 :=
  namesL_small hO.1 (fun i hi => by
    have hf := hF i hi
    refine ⟨hf.o, hf.e, fun y hy => ?_⟩
    obtain ⟨q, hq, rfl⟩ := List.getElem_of_mem hy
    have hx := (hO.2.1 _ (opv_mem (L := L) (j := i) (by rw [hO.1]; exact hi))).2.1
    have := hf.y q (by omega)
    unfold nm at this
    rwa [List.getD_eq_getElem?_getD, List.getElem?_eq_getElem hq] at this)
set_option maxHeartbeats 1000000 in
set_option maxRecDepth 100000 in
theorem rTable_calls (au : ByteArray) (A : Option Addr) (n cap : Nat) (L : List OpV) (w : World) (hO : OpsAt w A n L) (hn : n ≤ 100) (hF : ∀ i, i < n → FewAt (opv L i)) :
    Calls Try.prog 14 #[.string au, .slice A n cap] w fun e w' => ∃ v T, e = .returned v ∧ IsTable au (namesL L) T ∧ w'.ownsRow w.heap.size 9 1 v T.length (strs T) ∧ Below w.heap.size w w' := by
  have Hsm := Lib.hid (small_of hO hF)
  have HO := Lib.hid hO
  have HF := Lib.hid hF
  clear hO hF
  go_enter Try.func14, Try.ntmps14
  have hb0 : Below w.heap.size w (w.alloc (.cells #[.string au] 9)) := (Below.refl _ _).alloc (Nat.le_refl _) _
  have hlit := World.ownsRow_lit (base := w.heap.size) (size := 1) (e := 9) w #[.string au] 1 (Nat.le_refl _) (by simp [maxLen]) rfl
  have HB0 := Lib.hid hb0
  have Hlit := Lib.hid hlit
  clear hb0 hlit
  go_wp2_with fail
  refine (rNames_calls A n cap L _ (HO.out.below HB0.out) hn HF.out).mono ?_
  rintro e w2 ⟨v2, rfl, ho2, hlen, hb2⟩
  have HB2 := Lib.hid (below_seq HB0.out (Nat.le_refl _) hb2)
  obtain ⟨A2, c2, rfl, _, _, _⟩ := own_nms ho2
  have Hl2 := Lib.hid (own_below Hlit.out hb2)
  obtain ⟨N, hN⟩ : ∃ N, N = namesL L := ⟨_, rfl⟩
  obtain ⟨m, hm⟩ : ∃ m, m = N.length := ⟨_, rfl⟩
  rw [← hN] at Hsm hlen ho2 ⊢
  rw [← hm] at hlen ho2 ⊢
  have hm42 : m ≤ 4200 := by omega
  have HN2 := Lib.hid (own_mono ho2 (base' := w.heap.size) (by simp))
  have HN := Lib.hid hN
  have Hm := Lib.hid hm.symm
  have hs2 := HB2.out.size
  clear ho2 hb2 hN hm hlen
  go_wp2_with fail
  go_loopg [5] (m + 1) (fun g v wr => ∃ t : List ByteArray, Hid (Grow au N t) ∧ Hid (left N t < g) ∧ Hid (wr.ownsRow w.heap.size 9 1 v (t.length + 1) (strs (au :: t))) ∧ Hid (wr.ownsRow w.heap.size 26 2 (.slice A2 m c2) m (nms N)) ∧ Hid (Below w.heap.size w wr))
  case atStart => exact ⟨[], Grow.nil au N, Lib.hid (by have := left_le N []; rw [Hm.out] at this; omega), Hl2.out, HN2.out, HB2.out⟩
  case round =>
    obtain ⟨t, HG, HL, HT, HNr, HBr⟩ := hrel
    obtain ⟨Wo, hWo⟩ : ∃ W, W = wr := ⟨_, rfl⟩
    subst hWo
    have htl : Hid (t.length ≤ m) := Lib.hid (by
      have h1 : t.Nodup := HG.out.up.imp (fun h e => by subst e; exact ltB_irrefl _ h)
      have h2 := nodup_le h1 (fun s hs => HG.out.ok s hs)
      rw [Hm.out] at h2
      exact h2)
    obtain ⟨n5, hn5⟩ : ∃ n5, n5 = t.length + 1 := ⟨_, rfl⟩
    rw [← hn5] at HT
    have hn5m : n5 ≤ 4201 := by have := htl.out; omega
    have hn51 : 1 ≤ n5 := by omega
    have Hn5 := Lib.hid hn5
    obtain ⟨A5, c5, rfl, _, hr5, _⟩ := own_rdS HT.out
    obtain ⟨b5, o5, e5, hc5⟩ := hr5.2 (by omega)
    subst e5
    have Hc5 := Lib.hid hc5
    obtain ⟨_, _, e2, _, hnm, _⟩ := own_nms HNr.out
    cases e2
    have hncell : ∀ k, k < m → ∀ wx, Below Wo.heap.size Wo wx → NmCells wx (A2.getD ⟨0, 0, none⟩).block ((A2.getD ⟨0, 0, none⟩).off + k * 2) (nm N k) := by
      intro k hk wx hb
      obtain ⟨b2, o2, e2, hc⟩ := hnm.2 (by omega)
      subst e2
      exact (hc k hk).below hb
    have hA2 : 0 < m → ∃ b2 o2, A2 = some ⟨b2, o2, none⟩ := fun h => by obtain ⟨b2, o2, e2, _⟩ := hnm.2 h; exact ⟨b2, o2, e2⟩
    have HA2 := Lib.hid hA2
    have Hncell := Lib.hid hncell
    clear hn5 hr5 hnm hncell hA2 hc5
    go_wp2_with fail
    go_loopw [7, 8] (fun v i wr => ∃ (k : Nat) (b : Int), k ≤ m ∧ i = .int .i64 k ∧ v = .int .i64 b ∧ Hid (Best au N t k b) ∧ Hid (Below Wo.heap.size Wo wr)) (fun _ i _ => m - (intOf i).toNat)
    case atStart => exact ⟨0, -1, by omega, rfl, rfl, Best.start au N t, Below.refl _ _⟩
    case round =>
      obtain ⟨k, b, hk, rfl, rfl, HBest, HBi⟩ := hrel
      obtain ⟨W, hW⟩ : ∃ W, W = wr := ⟨_, rfl⟩
      subst hW
      by_cases hlt : k < m
      · obtain ⟨b2, o2, e2⟩ := HA2.out (by omega)
        subst e2
        have Hnc : Hid (∀ k, k < m → ∀ wx, Below Wo.heap.size Wo wx → NmCells wx b2 (o2 + k * 2) (nm N k)) := Hncell
        obtain ⟨y, hy⟩ : ∃ y, y = nm N k := ⟨_, rfl⟩
        obtain ⟨d0, d1⟩ := Hnc.out k hlt W HBi.out
        rw [← hy] at d0 d1
        have hys : y.2.size ≤ 100 := by rw [hy]; exact Hsm.out _ (nm_mem (by rw [Hm.out]; exact hlt))
        have HY := Lib.hid hy
        clear hy
        by_cases hya : y.2 = au
        · have hq : (y.2.toList == au.toList) = true := by rw [tl_beq]; exact decide_eq_true hya
          have hq2 : y.2.toList = au.toList := by rw [hya]
          go_wp2_with fail
          go_roundw
          case rel => exact ⟨k + 1, b, by omega, by go_num, rfl, Lib.hid (HBest.out.skip (by rw [Hm.out]; exact hlt) (.inl (fun hc => hc.1 (by rw [← HY.out]; exact hya)))), HBi.out⟩
          case measure => simp [intOf]; omega
        · have hq : (y.2.toList == au.toList) = false := by rw [tl_beq]; exact decide_eq_false hya
          have hq2 : ¬ y.2.toList = au.toList := fun e => hya ((tl_iff _ _).1 e)
          by_cases h1 : n5 = 1
          · have ht0 : t = [] := List.length_eq_zero_iff.1 (by have := Hn5.out; omega)
            have Hc : Hid (Cand au t (nm N k).2) := Lib.hid (by rw [← HY.out, ht0]; exact ⟨hya, fun x hx => by simp at hx⟩)
            have hn1 : ¬ (1 : Int) < n5 := by omega
            clear ht0 h1
            have hc12 := Hnc.out k hlt W HBi.out
            rcases HBest.out.rng with hbm | ⟨jb, hbj, hjk⟩
            · subst hbm
              go_wp2_with fail
              go_roundw
              case rel => exact ⟨k + 1, k, by omega, by go_num, rfl, Lib.hid (HBest.out.take (by rw [Hm.out]; exact hlt) Hc.out (.inl rfl)), HBi.out⟩
              case measure => simp [intOf]; omega
            · subst hbj
              obtain ⟨z, hz⟩ : ∃ z, z = nm N jb := ⟨_, rfl⟩
              obtain ⟨f0, f1⟩ := Hnc.out jb (by omega) W HBi.out
              rw [← hz] at f0 f1
              have HZ := Lib.hid hz
              have hzs : z.2.size ≤ 100 := by rw [hz]; exact Hsm.out _ (nm_mem (by rw [Hm.out]; omega))
              have hz0 : ¬ ((jb : Int) < 0) := by omega
              clear hz hc12
              go_wp2_with fail
              refine (less_calls y.2 z.2 _ (by omega) (by omega)).mono ?_
              rintro e wz ⟨cz, rfl, Hcz, hbz⟩
              have HBz := Lib.hid (below_seq HBi.out (Nat.le_refl _) hbz)
              clear hbz
              cases cz
              · go_wp2_with fail
                go_roundw
                case rel => exact ⟨k + 1, jb, by omega, by go_num, rfl, Lib.hid (HBest.out.skip (by rw [Hm.out]; exact hlt) (.inr ⟨jb, rfl, fun h => by rw [← HY.out, ← HZ.out] at h; exact absurd (Hcz.out.2 h) (by decide)⟩)), HBz.out⟩
                case measure => simp [intOf]; omega
              · go_wp2_with fail
                go_roundw
                case rel => exact ⟨k + 1, k, by omega, by go_num, rfl, Lib.hid (HBest.out.take (by rw [Hm.out]; exact hlt) Hc.out (.inr ⟨jb, rfl, by rw [← HY.out, ← HZ.out]; exact Hcz.out.1 (by trivial)⟩)), HBz.out⟩
                case measure => simp [intOf]; omega
          · have hn1 : (1 : Int) < n5 := by omega
            obtain ⟨l, hl⟩ : ∃ l, l = str (au :: t) (n5 - 1) := ⟨_, rfl⟩
            have hcl := kept_cell HBi.out (Hc5.out (n5 - 1) (by omega))
            rw [← hl] at hcl
            have hlt9 : t.getLast? = some l := by
              obtain ⟨f, s, hf⟩ : ∃ f s, t = f ++ [s] := by
                have : t ≠ [] := fun e => by rw [e] at Hn5; have := Hn5.out; simp at this; omega
                exact ⟨t.dropLast, t.getLast this, (List.dropLast_concat_getLast this).symm⟩
              have hn9 := Hn5.out
              rw [hf] at hn9 hl ⊢
              simp at hn9
              rw [hl, hn9]
              unfold str
              rw [List.getD_eq_getElem?_getD]
              simp
            have hls : l.size ≤ 100 := by
              obtain ⟨_, q, hq1, hq2⟩ := HG.out.ok l (List.mem_of_getLast? hlt9)
              rw [← hq2]; exact Hsm.out q hq1
            have HL9 := Lib.hid hlt9
            have hidx : ((n5 : Int) - 1) = ((n5 - 1 : Nat) : Int) := by omega
            clear hl hlt9 h1
            go_wp2_with fail
            refine (less_calls l y.2 _ (by omega) (by omega)).mono ?_
            rintro e wl ⟨cl, rfl, Hcl, hbl⟩
            have HBl := Lib.hid (below_seq HBi.out (Nat.le_refl _) hbl)
            clear hbl hcl
            cases cl
            · go_wp2_with fail
              go_roundw
              case rel => exact ⟨k + 1, b, by omega, by go_num, rfl, Lib.hid (HBest.out.skip (by rw [Hm.out]; exact hlt) (.inl (fun hc => by
                have h9 := hc.2 l HL9.out
                rw [← HY.out] at h9
                exact absurd (Hcl.out.2 h9) (by decide)))), HBl.out⟩
              case measure => simp [intOf]; omega
            · have Hc : Hid (Cand au t (nm N k).2) := Lib.hid (by
                rw [← HY.out]
                refine ⟨hya, fun x hx => ?_⟩
                rw [HL9.out] at hx
                cases hx
                exact Hcl.out.1 (by trivial))
              obtain ⟨d0', d1'⟩ := Hnc.out k hlt wl HBl.out
              rw [← HY.out] at d0' d1'
              clear d0 d1
              have hc12 := Hnc.out k hlt wl HBl.out
              rcases HBest.out.rng with hbm | ⟨jb, hbj, hjk⟩
              · subst hbm
                go_wp2_with fail
                go_roundw
                case rel => exact ⟨k + 1, k, by omega, by go_num, rfl, Lib.hid (HBest.out.take (by rw [Hm.out]; exact hlt) Hc.out (.inl rfl)), HBl.out⟩
                case measure => simp [intOf]; omega
              · subst hbj
                obtain ⟨z, hz⟩ : ∃ z, z = nm N jb := ⟨_, rfl⟩
                obtain ⟨f0, f1⟩ := Hnc.out jb (by omega) wl HBl.out
                rw [← hz] at f0 f1
                have HZ := Lib.hid hz
                have hzs : z.2.size ≤ 100 := by rw [hz]; exact Hsm.out _ (nm_mem (by rw [Hm.out]; omega))
                have hz0 : ¬ ((jb : Int) < 0) := by omega
                clear hz hc12
                go_wp2_with fail
                refine (less_calls y.2 z.2 _ (by omega) (by omega)).mono ?_
                rintro e wz ⟨cz, rfl, Hcz, hbz⟩
                have HBz := Lib.hid (below_seq HBl.out (Nat.le_refl _) hbz)
                clear hbz
                cases cz
                · go_wp2_with fail
                  go_roundw
                  case rel => exact ⟨k + 1, jb, by omega, by go_num, rfl, Lib.hid (HBest.out.skip (by rw [Hm.out]; exact hlt) (.inr ⟨jb, rfl, fun h => by rw [← HY.out, ← HZ.out] at h; exact absurd (Hcz.out.2 h) (by decide)⟩)), HBz.out⟩
                  case measure => simp [intOf]; omega
                · go_wp2_with fail
                  go_roundw
                  case rel => exact ⟨k + 1, k, by omega, by go_num, rfl, Lib.hid (HBest.out.take (by rw [Hm.out]; exact hlt) Hc.out (.inr ⟨jb, rfl, by rw [← HY.out, ← HZ.out]; exact Hcz.out.1 (by trivial)⟩)), HBz.out⟩
                  case measure => simp [intOf]; omega
      · obtain rfl : k = m := by omega
        have HBo := Lib.hid (below_seq HBr.out (Nat.le_refl _) HBi.out)
        have HTi := Lib.hid (own_below HT.out HBi.out)
        have hNk : N.take k = N := List.take_of_length_le (by rw [Hm.out]; exact Nat.le_refl _)
        rcases HBest.out.is with ⟨rfl, hno⟩ | ⟨jb, rfl, hjk, hcj, hmin⟩
        · rw [hNk] at hno
          have HNo := Lib.hid hno
          clear hno hNk
          go_wp2_with fail
          go_ret
          refine ⟨_, au :: t, rfl, by rw [← HN.out]; exact HG.out.done HNo.out, ?_, HBo.out⟩
          rw [List.length_cons, ← Hn5.out]
          exact HTi.out
        · rw [hNk] at hmin
          obtain ⟨b2, o2, e2⟩ := HA2.out (by omega)
          subst e2
          have Hnc : Hid (∀ k', k' < k → ∀ wx, Below Wo.heap.size Wo wx → NmCells wx b2 (o2 + k' * 2) (nm N k')) := Hncell
          obtain ⟨z, hz⟩ : ∃ z, z = nm N jb := ⟨_, rfl⟩
          obtain ⟨f0, f1⟩ := Hnc.out jb hjk W HBi.out
          have hzN : z ∈ N := by rw [hz]; exact nm_mem (by rw [Hm.out]; exact hjk)
          rw [← hz] at f0 f1 hcj hmin
          have Hcj := Lib.hid hcj
          have Hmin := Lib.hid hmin
          have HzN := Lib.hid hzN
          have hz0 : ¬ ((jb : Int) < 0) := by omega
          have hbo := HBo.out.size
          have HNi := Lib.hid (own_below HNr.out HBi.out)
          clear hz hcj hmin hzN hNk
          go_wp2_with (at_builtin; refine wpList_app3 rfl _ _ rfl elStr HTi.out rfl rfl rfl rfl rfl (by omega) hbo ?_; intro g4 cg w4 hown4 hfr4 hat4 hlt4; have Hown4 := Lib.hid hown4; have Hfr4 := Lib.hid hfr4; clear hown4 hfr4 hat4)
          go_roundg (left N t)
          case measure => exact HL.out
          case rel =>
            have e9 : strs (au :: t) ++ (#[Value.string z.2] : Array Value).toList = strs (au :: (t ++ [z.2])) := by
              rw [← List.cons_append, strs_app]; rfl
            have h4 := Hown4.out
            rw [e9] at h4
            refine ⟨t ++ [z.2], HG.out.next HzN.out Hcj.out Hmin.out, HG.out.left HzN.out Hcj.out, ?_, own_fr HNi.out Hfr4.out (fun o ho => by simp at ho; subst ho; exact own_apart2 (by decide) HNi.out HTi.out), HBo.out.trans (Hfr4.out.below hbo (fun o ho i e => by simp at ho; subst ho; exact (HTi.out.lt i e).1))⟩
            have e5 : (t ++ [z.2]).length + 1 = n5 + 1 := by rw [List.length_append, Hn5.out]; rfl
            rw [e5]
            exact h4
end Go.Proofs.Ytekhofnfikcpnaa
/-
  The walks of Same, Index (the program's and the reference's).
-/
namespace Go.Proofs.Ytekhofnfikcpnaa
open Go.RowKit

set_option maxHeartbeats 1000000 in
set_option maxRecDepth 100000 in
theorem Same_calls (A B : Option Addr) (n c d : Nat) (T : List ByteArray) (w : World) (hA : RdS w A n T) (hB : RdS w B n T) (hn : n ≤ 1000000) :
    Calls Try.prog 12 #[.slice A n c, .slice B n d] w fun e w' => e = .returned (.bool true) ∧ Below w.heap.size w w' := by
  have HA := Lib.hid hA.2
  have HB := Lib.hid hB.2
  clear hA hB
  go_enter Try.func12, Try.ntmps12
  go_wp2_with fail
  go_loopw [5] (fun i wr => ∃ k : Nat, k ≤ n ∧ i = .int .i64 k ∧ Hid (Below w.heap.size w wr)) (fun i _ => n - (intOf i).toNat)
  case atStart => exact ⟨0, by omega, rfl, Below.refl _ _⟩
  case round =>
    obtain ⟨k, hk, rfl, HBr⟩ := hrel
    obtain ⟨W, hW⟩ : ∃ W, W = wr := ⟨_, rfl⟩
    subst hW
    by_cases hlt : k < n
    · obtain ⟨b, o, e1, hc⟩ := HA.out (by omega)
      obtain ⟨b', o', e2, hc'⟩ := HB.out (by omega)
      have c1 := kept_cell HBr.out (hc k hlt)
      have c2 := kept_cell HBr.out (hc' k hlt)
      obtain ⟨s, hs⟩ : ∃ s, s = str T k := ⟨_, rfl⟩
      rw [← hs] at c1 c2
      subst e1
      subst e2
      clear hc hc' hs
      go_wp2_with fail
      go_region
      go_wp2_with fail
      go_roundw
      case rel => exact ⟨k + 1, by omega, by go_num, HBr.out.drew⟩
      case measure => simp [intOf]; omega
    · obtain rfl : k = n := by omega
      go_wp2_with fail
      go_ret
      exact ⟨rfl, HBr.out⟩
/-- Where a text stands first; -1: nowhere. -/
def IsIdx (T : List ByteArray) (s : ByteArray) (r : Int) : Prop := (r = -1 ∧ ∀ i, i < T.length → str T i ≠ s) ∨ (∃ j : Nat, r = j ∧ j < T.length ∧ str T j = s ∧ ∀ i, i < j → str T i ≠ s)
theorem IsIdx.same {T : List ByteArray} {s : ByteArray} {r q : Int} (h : IsIdx T s r) (k : IsIdx T s q) : r = q := by
  rcases h with ⟨rfl, h⟩ | ⟨j, rfl, h1, h2, h3⟩
  · rcases k with ⟨rfl, _⟩ | ⟨i, rfl, k1, k2, _⟩
    · rfl
    · exact absurd k2 (h i k1)
  · rcases k with ⟨rfl, k⟩ | ⟨i, rfl, k1, k2, k3⟩
    · exact absurd h2 (k j h1)
    · rcases Nat.lt_trichotomy i j with e | e | e
      · exact absurd k2 (h3 i e)
      · rw [e]
      · exact absurd h2 (k3 j e)
set_option maxHeartbeats 1000000 in
set_option maxRecDepth 100000 in
theorem sIndex_calls (A : Option Addr) (n c : Nat) (T : List ByteArray) (s : ByteArray) (w : World) (hA : RdS w A n T) (hn : n ≤ 1000000) :
    Calls Try.prog 31 #[.slice A n c, .string s] w fun e w' => ∃ r, e = .returned (.int .i64 r) ∧ Hid (IsIdx T s r) ∧ w' = w := by
  have HA := Lib.hid hA.2
  have Hl := Lib.hid hA.1
  clear hA
  go_enter Try.func31, Try.ntmps31
  go_wp2_with fail
  go_loopw [8] (fun i wr => ∃ k : Nat, k ≤ n ∧ i = .int .i64 k ∧ Hid (∀ j, j < k → str T j ≠ s) ∧ wr = w) (fun i _ => n - (intOf i).toNat)
  case atStart => exact ⟨0, by omega, rfl, Lib.hid (fun j hj => by omega), rfl⟩
  case round =>
    obtain ⟨k, hk, rfl, HN, hw⟩ := hrel
    obtain ⟨W, hW⟩ : ∃ W, W = wr := ⟨_, rfl⟩
    rw [← hW] at hw ⊢
    subst hw
    clear hW
    by_cases hlt : k < n
    · obtain ⟨b, o, e1, hc⟩ := HA.out (by omega)
      have c1 := hc k hlt
      obtain ⟨t, ht⟩ : ∃ t, t = str T k := ⟨_, rfl⟩
      rw [← ht] at c1
      have Ht := Lib.hid ht
      subst e1
      clear hc ht
      by_cases he : t = s
      · have hq : (s.toList == t.toList) = true := by rw [tl_beq]; exact decide_eq_true he.symm
        have hq2 : s.toList = t.toList := by rw [he]
        have He := Lib.hid he
        clear he
        go_wp2_with fail
        go_ret
        exact ⟨_, rfl, .inr ⟨k, rfl, by rw [Hl.out]; exact hlt, by rw [← Ht.out]; exact He.out, HN.out⟩, rfl⟩
      · have hq : (s.toList == t.toList) = false := by rw [tl_beq]; exact decide_eq_false (fun e => he e.symm)
        have hq2 : ¬ s.toList = t.toList := fun e => he ((tl_iff _ _).1 e).symm
        go_wp2_with fail
        go_roundw
        case rel =>
          refine ⟨k + 1, by omega, by go_num, Lib.hid (fun j hj => ?_), trivial⟩
          rcases Nat.lt_or_ge j k with g | g
          · exact HN.out j g
          · obtain rfl : j = k := by omega
            rw [← Ht.out]; exact he
        case measure => simp [intOf]; omega
    · obtain rfl : k = n := by omega
      go_wp2_with fail
      go_ret
      exact ⟨_, rfl, .inl ⟨rfl, by rw [Hl.out]; exact HN.out⟩, rfl⟩
theorem Index_calls (A : Option Addr) (n c : Nat) (T : List ByteArray) (s : ByteArray) (w : World) (hA : RdS w A n T) (hn : n ≤ 1000000) :
    Calls Try.prog 15 #[.slice A n c, .string s] w fun e w' => ∃ r, e = .returned (.int .i64 r) ∧ Hid (IsIdx T s r) ∧ w' = w := by
  go_enter Try.func15, Try.ntmps15
  go_wp2_with fail
  refine (sIndex_calls A n c T s w hA hn).mono ?_
  rintro e w' ⟨r, rfl, hr, rfl⟩
  go_wp2_with fail
  go_ret
  exact ⟨r, rfl, hr, rfl⟩
set_option maxHeartbeats 1000000 in
set_option maxRecDepth 100000 in
theorem rIndex_calls (A : Option Addr) (n c : Nat) (T : List ByteArray) (s : ByteArray) (w : World) (hA : RdS w A n T) (hn : n ≤ 1000000) :
    Calls Try.prog 16 #[.slice A n c, .string s] w fun e w' => ∃ r, e = .returned (.int .i64 r) ∧ Hid (IsIdx T s r) ∧ w' = w := by
  have HA := Lib.hid hA.2
  have Hl := Lib.hid hA.1
  clear hA
  go_enter Try.func16, Try.ntmps16
  go_wp2_with fail
  go_loopw [5] (fun i wr => ∃ k : Nat, k ≤ n ∧ i = .int .i64 k ∧ Hid (∀ j, j < k → str T j ≠ s) ∧ wr = w) (fun i _ => n - (intOf i).toNat)
  case atStart => exact ⟨0, by omega, rfl, Lib.hid (fun j hj => by omega), rfl⟩
  case round =>
    obtain ⟨k, hk, rfl, HN, hw⟩ := hrel
    obtain ⟨W, hW⟩ : ∃ W, W = wr := ⟨_, rfl⟩
    rw [← hW] at hw ⊢
    subst hw
    clear hW
    by_cases hlt : k < n
    · obtain ⟨b, o, e1, hc⟩ := HA.out (by omega)
      have c1 := hc k hlt
      obtain ⟨t, ht⟩ : ∃ t, t = str T k := ⟨_, rfl⟩
      rw [← ht] at c1
      have Ht := Lib.hid ht
      subst e1
      clear hc ht
      by_cases he : t = s
      · have hq : (t.toList == s.toList) = true := by rw [tl_beq]; exact decide_eq_true he
        have hq2 : t.toList = s.toList := by rw [he]
        have He := Lib.hid he
        clear he
        go_wp2_with fail
        go_ret
        exact ⟨_, rfl, .inr ⟨k, rfl, by rw [Hl.out]; exact hlt, by rw [← Ht.out]; exact He.out, HN.out⟩, rfl⟩
      · have hq : (t.toList == s.toList) = false := by rw [tl_beq]; exact decide_eq_false he
        have hq2 : ¬ t.toList = s.toList := fun e => he ((tl_iff _ _).1 e)
        go_wp2_with fail
        go_roundw
        case rel =>
          refine ⟨k + 1, by omega, by go_num, Lib.hid (fun j hj => ?_), trivial⟩
          rcases Nat.lt_or_ge j k with g | g
          · exact HN.out j g
          · obtain rfl : j = k := by omega
            rw [← Ht.out]; exact he
        case measure => simp [intOf]; omega
    · obtain rfl : k = n := by omega
      go_wp2_with fail
      go_ret
      exact ⟨_, rfl, .inl ⟨rfl, by rw [Hl.out]; exact HN.out⟩, rfl⟩
end Go.Proofs.Ytekhofnfikcpnaa
/-
  Strings of bytes that are read, none too.
-/
namespace Go.Proofs.Ytekhofnfikcpnaa
open Go.RowKit

theorem conv_all {W : World} {A : Option Addr} {n c : Nat} {ns : List Int} (h : Rd W .u8 A n ns) : (convert 39 9 (.slice A n c)).run Try.prog W = .ok (.string (strOfNums ns)) W := by
  rcases Nat.eq_zero_or_pos n with h0 | h0
  · subst h0
    have : ns = [] := List.length_eq_zero_iff.1 h.1
    subst this
    rw [run_convert_bytes_string W 39 9 A 0 c (e := 5) Try.underlying39 Try.underlying5 Try.underlying9]
    cases A <;> simp [Conv.bytesToString, loadCells]
    all_goals rfl
  · obtain ⟨b, o, rfl, hc⟩ := h.2 h0
    exact run_convert_bytes_arg W _ 5 Try.underlying39 Try.underlying5 b o n c ns h.1 hc _ Try.underlying9
theorem conv_allL {w0 : World} {A : Option Addr} {n c : Nat} {ns : List Int} (h : Rd w0 .u8 A n ns) : ∀ W, Later w0 W → (convert 39 9 (.slice A n c)).run Try.prog W = .ok (.string (strOfNums ns)) W :=
  fun _ hL => conv_all (h.below hL.bel)
end Go.Proofs.Ytekhofnfikcpnaa
