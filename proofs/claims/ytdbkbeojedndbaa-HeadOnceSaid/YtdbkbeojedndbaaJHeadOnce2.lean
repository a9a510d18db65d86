/-
  Texts joined into one file: HeadOnce.
-/
import Derived.Test.YtdbkbeojedndbaaJHeadOnce1
import Derived.Test.YtdbkbeojedndbaaJHeadG9
import Derived.Deep.AppendLies
/-
  The walk of the law HeadOnce. Printed by gen_once.py.
-/
namespace Go.Proofs.Ytdbkbeojedndbaa
open Go.RowKit

theorem isRow_nil9 {k : IntKind} {w : World} {a : Option Addr} {len cap : Nat} {zs : List Int} (h : IsRow k w a len cap zs) : a = none → len = 0 ∧ cap = 0 := by
  rcases h with ⟨_, h1, h2, _⟩ | ⟨x, rfl, _⟩
  · exact fun _ => ⟨h1, h2⟩
  · intro e; cases e
theorem isRow_le9 {k : IntKind} {w : World} {a : Option Addr} {len cap : Nat} {zs : List Int} (h : IsRow k w a len cap zs) : len ≤ cap := by
  rcases h with ⟨_, h1, h2, _⟩ | ⟨x, _, h, _⟩
  · omega
  · exact h
theorem isRow_bsl9 {w : World} {a : Option Addr} {len cap : Nat} {zs : List Int} (h : IsRow .u8 w a len cap zs) : BSl w a len cap (zs.take len) ∧ ∀ x ∈ zs.take len, 0 ≤ x ∧ x ≤ 255 := by
  refine ⟨⟨h.rd, isRow_nil9 h, isRow_le9 h⟩, fun x hx => ?_⟩
  obtain ⟨j, hj, rfl⟩ := List.getElem_of_mem hx
  have := h.u8 j (by have := h.rd.1; omega)
  rwa [rd_getElem hj] at this
theorem NmsAt_nil9 (W : World) : NmsAt W none 0 [] := ⟨rfl, fun h => absurd h (Nat.lt_irrefl 0)⟩
theorem rd_take9 {w : World} {k : IntKind} {A : Option Addr} {n : Nat} {xs : List Int} (h : Rd w k A n xs) (m : Nat) (hm : m ≤ n) : Rd w k A m (xs.take m) := by
  refine ⟨by rw [List.length_take, h.1]; omega, fun h0 => ?_⟩
  obtain ⟨b, o, e, hc⟩ := h.2 (by omega)
  refine ⟨b, o, e, fun j hj => ?_⟩
  rw [take_rdl hj]
  exact hc j (by omega)
theorem bsl_lt {w : World} {A : Option Addr} {n c : Nat} {b : List Int} (h : BSl w A n c b) (h0 : 0 < n) : ∀ b1 o1, A = some ⟨b1, o1, none⟩ → b1 < w.heap.size := by
  intro b1 o1 e
  obtain ⟨b2, o2, e2, hc⟩ := h.rd.2 h0
  rw [e] at e2
  cases e2
  exact World.block_lt_of_cell? w _ (hc 0 h0)
theorem opRow_snoc (t : List ByteArray) {k : Nat} (h : k < t.length) : opRow ((t.take (k + 1)).map opOf) = opRow ((t.take k).map opOf) ++ opCells (opOf (str t k)) := by
  rw [List.take_succ_eq_append_getElem h, List.map_append]
  unfold opRow str
  rw [List.flatMap_append, List.getD_eq_getElem?_getD, List.getElem?_eq_getElem h]
  simp
theorem str_cons (a : ByteArray) (t : List ByteArray) (i : Nat) (h : 1 ≤ i) : str (a :: t) i = str t (i - 1) := by
  obtain ⟨k, rfl⟩ : ∃ k, i = k + 1 := ⟨i - 1, by omega⟩
  rw [Nat.add_sub_cancel]
  unfold str
  rw [List.getD_cons_succ]
/-- What the loop keeps: the change, and its ops so far. -/
structure OSt (w4 wr : World) (cs : Value → Array Value) (v : Value) (k : Nat) (t : List ByteArray) : Prop where
  own : wr.ownsRow (w4.heap.size + 1) 50 13 v k (opRow ((t.take k).map opOf))
  row : wr.heap[w4.heap.size]? = some (.cells (cs v) 27 (0, 0))
  bel : Below w4.heap.size w4 wr
theorem OSt.lt {w4 wr : World} {cs : Value → Array Value} {v : Value} {k : Nat} {t : List ByteArray} (H : OSt w4 wr cs v k t) : w4.heap.size < wr.heap.size := (Array.getElem?_eq_some_iff.1 H.row).1
theorem OSt.cell {w4 wr : World} {cs : Value → Array Value} {v : Value} {k : Nat} {t : List ByteArray} (H : OSt w4 wr cs v k t) (j : Nat) : wr.cell? ⟨w4.heap.size, j, none⟩ = (cs v)[j]? := cell_of_row wr _ j _ _ (0, 0) H.row
theorem OSt.below {w4 wr W : World} {cs : Value → Array Value} {v : Value} {k : Nat} {t : List ByteArray} (H : OSt w4 wr cs v k t) (hb : Below wr.heap.size wr W) : OSt w4 W cs v k t :=
  ⟨own_below H.own hb, (hb.block _ H.lt).trans H.row, below_seq H.bel (Nat.le_refl _) hb⟩
/-- Behind 'append' and the store. -/
theorem OSt.next {w4 wr W1 : World} {a ms : ByteArray} {sq st tm : Int} {dv v v' : Value} {k : Nat} {t : List ByteArray} (H : OSt w4 wr (chgC2 a sq st tm ms dv) v k t) (hk : k < t.length)
    (ho : W1.ownsRow (w4.heap.size + 1) 50 13 v' (k + 1) (opRow ((t.take k).map opOf) ++ opCells (opOf (str t k)))) (hg : wr.grownBy W1 v.ownBlock) (hv : v'.ownBlock ≠ some w4.heap.size) :
    W1.heap[w4.heap.size]? = some (.cells (chgC2 a sq st tm ms dv v) 27 (0, 0)) ∧ OSt w4 (W1.setCell ⟨w4.heap.size, 6, none⟩ v') (chgC2 a sq st tm ms dv) v' (k + 1) t := by
  have hf := Fr.ofGrown hg
  have hr : W1.heap[w4.heap.size]? = some (.cells (chgC2 a sq st tm ms dv v) 27 (0, 0)) := (hf.block _ H.lt (fun o ho e => by
    simp at ho
    subst ho
    have := (H.own.lt _ e).1
    omega)).trans H.row
  have hf2 : Fr wr (W1.setCell ⟨w4.heap.size, 6, none⟩ v') [some w4.heap.size, v.ownBlock] := (hf.mono (fun o ho => by simp at ho; simp [ho])).set _ _ (.inl (by simp))
  refine ⟨hr, ?_, ?_, ?_⟩
  · rw [opRow_snoc t hk]
    refine own_fr ho ((Fr.refl W1 [some w4.heap.size]).set _ _ (.inl (by simp))) (fun o hx => ?_)
    simp at hx
    subst hx
    intro j hj e
    cases e
    exact hv hj
  · exact heap_setCell_same W1 _ 6 _ _ _ hr
  · refine H.bel.trans (hf2.below H.bel.size (fun o hx j e => ?_))
    simp at hx
    rcases hx with rfl | rfl
    · cases e; exact Nat.le_refl _
    · have := (H.own.lt j e).1
      omega
set_option maxHeartbeats 4000000 in
set_option maxRecDepth 100000 in
theorem HeadOnce_calls (A : Option Addr) (n c : Nat) (b : List Int) (w : World) (hR : BSl w A n c b) (hb : ∀ x ∈ b, 0 ≤ x ∧ x ≤ 255) (_hn : n ≤ 140737488351232) :
    Calls Try.prog 5 #[.slice A n c] w fun e w' => e = .returned (.bool true) ∧ Below w.heap.size w w' := by
  have HR := Lib.hid hR
  have Hb := Lib.hid hb
  clear hR hb
  go_enter Try.func5, Try.ntmps5
  go_wp2_with fail
  refine (awake20_calls w).mono ?_
  rintro e w1 ⟨rfl, hb1⟩
  have HB1 := Lib.hid hb1
  have hs1 := hb1.size
  clear hb1
  by_cases hn3 : n ≤ 3000
  · go_wp2_with fail
    refine (hGet_calls A n c b w1 (HR.out.below HB1.out) Hb.out (by omega) (fun h0 => bsl_lt (HR.out.below HB1.out) h0)).mono ?_
    rintro e w4 ⟨hb4, ⟨f, hE, hf0, rfl⟩ | ⟨x, T, q, dv, tv, hE, rfl, hod, hHs, hot, _⟩⟩
    · have HB4 := Lib.hid (below_seq HB1.out (Nat.le_refl _) hb4)
      have hc0 : (w4.alloc (.cells #[.string ⟨#[]⟩, .int .i64 0, .int .i64 0, .int .i64 0, .string ⟨#[]⟩, .slice none 0 0, .slice none 0 0] 27)).heap[w4.heap.size]? = some (.cells #[.string ⟨#[]⟩, .int .i64 0, .int .i64 0, .int .i64 0, .string ⟨#[]⟩, .slice none 0 0, .slice none 0 0] 27 (0, 0)) := heap_alloc_new w4 _
      clear hb4 hE
      go_wp2_with fail
      refine (rSame20_calls ⟨#[]⟩ 0 0 0 ⟨#[]⟩ none none 0 0 0 [] _ (deps_nil _) (deps_nil _) (by decide) (by decide) (by decide)).mono ?_
      rintro e w5 ⟨rfl, hb5⟩
      have H5 : Below w.heap.size w w5 := below_seq (below_new HB4.out (Nat.le_refl _) _) (Nat.le_refl _) hb5
      go_wp2_with fail
      go_ret
      exact ⟨rfl, H5⟩
    · have HB4 := Lib.hid (below_seq HB1.out (Nat.le_refl _) hb4)
      obtain ⟨_, hq, hr, htm, hby, t, hTt, hch, _, hPe⟩ := headE_just b 0 (x, T) q Hb.out (Nat.zero_le _) hE
      simp only at hTt hPe
      subst hTt
      simp only [List.drop_zero, Nat.sub_zero] at hPe
      have hup := chain_up t [] hch
      have hlen : 2 * t.length ≤ n := by
        have h1 := putT_two (au := x.actor) (t := t) (fun s hs => (hup.1 s hs).2.1)
        have h2 := headB_put x (x.actor :: t)
        rw [← hPe, List.length_take] at h2
        have h3 := HR.out.rd.1
        omega
      obtain ⟨a, sq, st, tm, ms, D⟩ := x
      simp only at *
      obtain ⟨Ad, cd, rfl⟩ := own_slice hod
      have HD := Lib.hid (deps_own hod hHs rfl)
      obtain ⟨At, ct, rfl, hct, hrt, _⟩ := own_rdS hot
      obtain ⟨bt, ot, rfl, hcell⟩ := hrt.2 (by simp)
      have Hcell := Lib.hid hcell
      obtain ⟨nd, hnd⟩ : ∃ d, d = D.length := ⟨_, rfl⟩
      rw [← hnd] at HD ⊢
      have Hnd : nd ≤ 16 := by rw [hnd]; exact hr.few
      obtain ⟨m, hm⟩ : ∃ m, m = t.length + 1 := ⟨_, rfl⟩
      rw [show (a :: t).length = m by rw [hm]; rfl] at Hcell hct ⊢
      have Hr := Lib.hid hr
      have Htm := Lib.hid htm
      have Hch := Lib.hid hch
      have Hup := Lib.hid hup
      have HP := Lib.hid hPe
      have Hq := Lib.hid hq
      have hsq := hr.sq
      have hst := hr.st
      unfold mostN at hsq hst
      have Hm := Lib.hid hm
      have hm1 : 1 ≤ m := by omega
      have hm2 : m ≤ 1501 := by omega
      clear hm
      clear hb4 hE hod hHs hot hrt hcell hnd hr htm hby hch hup hPe hq
      go_upto_region 6 with fail
      obtain ⟨W0, hW0⟩ : ∃ X, X = w4.alloc (.cells #[.string a, .int .i64 sq, .int .i64 st, .int .i64 tm, .string ms, .slice Ad nd cd, .slice none 0 0] 27) := ⟨_, rfl⟩
      have HO0 : Hid (OSt w4 W0 (chgC2 a sq st tm ms (.slice Ad nd cd)) (.slice none 0 0) 0 t) := Lib.hid ⟨World.ownsRow_nil _ _ _ _, by rw [hW0]; exact heap_alloc_new w4 _, by rw [hW0]; exact (Below.refl _ _).alloc (Nat.le_refl _) _⟩
      rw [← hW0]
      clear hW0
      go_wp2_with fail
      go_loopw [7] (fun iv wr => ∃ (i : Nat) (v : Value), 1 ≤ i ∧ i ≤ m ∧ iv = .int .i64 i ∧ Hid (OSt w4 wr (chgC2 a sq st tm ms (.slice Ad nd cd)) v (i - 1) t)) (fun iv _ => m - (intOf iv).toNat)
      case atStart => exact ⟨1, _, by omega, by omega, rfl, HO0⟩
      case round =>
        obtain ⟨i, v, hi1, him, rfl, HO⟩ := hrel
        obtain ⟨W, hW⟩ : ∃ W, W = wr := ⟨_, rfl⟩
        subst hW
        by_cases hlt : i < m
        · obtain ⟨k, hk⟩ : ∃ k, k = i - 1 := ⟨_, rfl⟩
          rw [← hk] at HO
          have hkt : k < t.length := by have := Hm.out; omega
          have z0 := kept_cell HO.out.bel (Hcell.out i hlt)
          rw [str_cons a t i hi1, ← hk] at z0
          obtain ⟨s, hs⟩ : ∃ s, s = str t k := ⟨_, rfl⟩
          rw [← hs] at z0
          obtain ⟨O, oc, rfl⟩ := own_slice HO.out.own
          have q6 : W.cell? ⟨w4.heap.size, 6, none⟩ = some (.slice O k oc) := HO.out.cell 6
          have Hs := Lib.hid hs
          have Hk := Lib.hid hk
          have hlw := HO.out.lt
          have hwr : IntKind.i64.wrap (i : Int) = (i : Int) := i64_id ⟨by omega, by omega⟩
          have hz0 : (0 : Int) ≤ (i : Int) := by omega
          have hz1 : (i : Int) < (m : Int) := by omega
          obtain ⟨i0, hi0, hq0, hq1, hq2⟩ := info_parts elOp.info
          clear hs hk
          go_upto_region 9 with fail
          refine wp_region_last (n := 11) (on := ⟨_, _, _, _, _, _⟩) (S := fun W' => W'.cell? ⟨w4.heap.size, 6, none⟩ = some (.slice O k oc) ∧ W'.cell? ⟨bt, ot + i, none⟩ = some (.string s)) (by kernel_rfl) rfl (by kernel_rfl) (⟨q6, z0⟩) (fun hHeld => ?_)
          refine' wpAnyH_take (i := 0) (oi := ⟨_, _, _, _, _, _⟩) (v := _) rfl (by kernel_rfl) (by kernel_rfl) (by kernel_rfl) (fun _ _ _ h => h) (Or.inl ⟨by rfl, ?hya0⟩) (by assumption) ?resta0
          case hya0 => (intro w hSw; (try dsimp only at hSw); go_simp; try with_reducible rfl)
          try simp only [Act.put, List.setIfInBounds_toArray, List.set_cons_zero, List.set_cons_succ]
          refine' wpAnyH_take (i := 1) (oi := ⟨_, _, _, _, _, _⟩) (v := _) rfl (by kernel_rfl) (by kernel_rfl) (by kernel_rfl) (fun _ _ _ h => h) (Or.inl ⟨by rfl, ?hya1⟩) (by assumption) ?resta1
          case hya1 => (intro w hSw; (try dsimp only at hSw); go_simp; try with_reducible rfl)
          try simp only [Act.put, List.setIfInBounds_toArray, List.set_cons_zero, List.set_cons_succ]
          refine' wpAnyH_take (i := 2) (oi := ⟨_, _, _, _, _, _⟩) (v := _) rfl (by kernel_rfl) (by kernel_rfl) (by kernel_rfl) (fun _ _ _ h => h) (Or.inl ⟨by rfl, ?hya2⟩) (by assumption) ?resta2
          case hya2 => (intro w hSw; (try dsimp only at hSw); go_simp; try with_reducible rfl)
          try simp only [Act.put, List.setIfInBounds_toArray, List.set_cons_zero, List.set_cons_succ]
          refine' wpAnyH_take (i := 3) (oi := ⟨_, _, _, _, _, _⟩) (v := _) rfl (by kernel_rfl) (by kernel_rfl) (by kernel_rfl) (fun _ _ _ h => h) (Or.inl ⟨by rfl, ?hya3⟩) (by assumption) ?resta3
          case hya3 => (intro w hSw; (try dsimp only at hSw); go_simp; try with_reducible rfl)
          try simp only [Act.put, List.setIfInBounds_toArray, List.set_cons_zero, List.set_cons_succ]
          refine' wpAnyH_take (i := 4) (oi := ⟨_, _, _, _, _, _⟩) (v := _) rfl (by kernel_rfl) (by kernel_rfl) (by kernel_rfl) (fun _ _ _ h => h) (Or.inl ⟨by rfl, ?hya4⟩) (by assumption) ?resta4
          case hya4 => (intro w hSw; (try dsimp only at hSw); go_simp; try with_reducible rfl)
          try simp only [Act.put, List.setIfInBounds_toArray, List.set_cons_zero, List.set_cons_succ]
          refine' wpAnyH_take (i := 5) (oi := ⟨_, _, _, _, _, _⟩) (v := _) rfl (by kernel_rfl) (by kernel_rfl) (by kernel_rfl) (fun _ _ _ h => h) (Or.inl ⟨by rfl, ?hya5⟩) (by assumption) ?resta5
          case hya5 => (intro w hSw; (try dsimp only at hSw); go_simp; try with_reducible rfl)
          try simp only [Act.put, List.setIfInBounds_toArray, List.set_cons_zero, List.set_cons_succ]
          refine' wpAnyH_take (i := 6) (oi := ⟨_, _, _, _, _, _⟩) (v := _) rfl (by kernel_rfl) (by kernel_rfl) (by kernel_rfl) (fun _ _ _ h => h) (Or.inl ⟨by rfl, ?hya6⟩) (by assumption) ?resta6
          case hya6 => (intro w hSw; (try dsimp only at hSw); go_simp; try with_reducible rfl)
          try simp only [Act.put, List.setIfInBounds_toArray, List.set_cons_zero, List.set_cons_succ]
          refine' wpAnyH_take (i := 7) (oi := ⟨_, _, _, _, _, _⟩) (v := _) rfl (by kernel_rfl) (by kernel_rfl) (by kernel_rfl) (fun _ _ _ h => h) (Or.inl ⟨by rfl, ?hya7⟩) (by assumption) ?resta7
          case hya7 => (intro w hSw; (try dsimp only at hSw); go_simp; try with_reducible rfl)
          try simp only [Act.put, List.setIfInBounds_toArray, List.set_cons_zero, List.set_cons_succ]
          refine wpAnyH_ready (rs := [8]) (by kernel_rfl) (by simp) ?_
          refine AllReadyH.cons (o := ⟨_, _, _, _, _, _⟩) rfl (fun K hK => ?_) AllReadyH.nil
          go_simp
          refine hK.out _ _ (⟨kept_new (w := W.drew) q6 _, kept_new (w := W.drew) z0 _⟩) (fun hHeldN => ?_)
          clear hK K hHeld
          have hHeld := hHeldN
          clear hHeldN
          try simp only [Act.put, List.setIfInBounds_toArray, List.set_cons_zero, List.set_cons_succ]
          refine wpAnyH_ready (rs := [9]) (by kernel_rfl) (by simp) ?_
          refine AllReadyH.cons (o := ⟨_, _, _, _, _, _⟩) rfl (fun K hK => ?_) AllReadyH.nil
          refine step_append_lies _ (by rfl) _ _ _ (by rfl) (w4.heap.size + 1) 50 i0 _ 13 152 elOp.und hi0 hq0 hq1 hq2 rfl (by omega) (.slice O k oc) k _ (by rfl) (own_below HO.out.own ((Below.refl _ _).drew.alloc (Nat.le_refl _) _)) ⟨W.heap.size, 0, none⟩ 1 1 (opCells (opOf s)) (by rfl) rfl (news_at W.drew (opCells (opOf s)).toArray _) (by simp [Value.oneCell', opCells]) (by omega) (by unfold maxLen; omega) (by omega) (by simp; omega) (W.heap.size + 1) (by simp) ?_
          intro gq cg w5 hown5 hgrow5 hat5 hlt5
          rw [Hs.out] at hown5
          have HO1 : Hid (OSt w4 (W.drew.alloc _) _ _ k t) := Lib.hid (HO.out.below ((Below.refl _ _).drew.alloc (Nat.le_refl _) (.cells (opCells (opOf s)).toArray 50)))
          have hgne : gq ≠ w4.heap.size := by
            rcases hat5 with h | h
            · have := (HO.out.own.lt gq h).1; omega
            · omega
          have hnx := HO1.out.next hkt hown5 hgrow5 (fun e => hgne (Option.some.inj e))
          have z5 : w5.cell? ⟨bt, ot + i, none⟩ = some (.string s) := by rw [Hs.out, Hk.out, ← str_cons a t i hi1]; exact kept_cell (HO1.out.bel.grown hgrow5 HO1.out.bel.size (fun j e => by have := (HO.out.own.lt j e).1; omega)) (Hcell.out i hlt)
          have q5 : w5.cell? ⟨w4.heap.size, 6, none⟩ = some (.slice O k oc) := by exact cell_of_row w5 _ 6 _ _ (0, 0) hnx.1
          have f5 : w5.frozen? ⟨w4.heap.size, 6, none⟩ = false := frozen_of_row w5 w4.heap.size 6 _ _ hnx.1
          have Hnx := Lib.hid hnx
          clear hnx hown5 hgrow5 hat5
          refine hK.out _ _ (⟨q5, z5⟩) (fun hHeldN => ?_)
          clear hK K hHeld
          have hHeld := hHeldN
          clear hHeldN
          try simp only [Act.put, List.setIfInBounds_toArray, List.set_cons_zero, List.set_cons_succ]
          refine' wpAnyH_take (i := 10) (oi := ⟨_, _, _, _, _, _⟩) (v := _) rfl (by kernel_rfl) (by kernel_rfl) (by kernel_rfl) (fun _ _ _ h => h) (Or.inl ⟨by rfl, ?hyb10⟩) (by assumption) ?restb10
          case hyb10 => (intro w hSw; (try dsimp only at hSw); go_simp; try with_reducible rfl)
          try simp only [Act.put, List.setIfInBounds_toArray, List.set_cons_zero, List.set_cons_succ]
          refine wpAnyH_done (by kernel_rfl) ?_ _
          change wpList _ _ _ _ _ _
          go_wp2_with fail
          go_roundw
          case rel =>
            refine ⟨i + 1, .slice (some ⟨gq, 0, none⟩) (k + 1) cg, by omega, by omega, by go_num, ?_⟩
            have h := Hnx.out.2
            rw [show i + 1 - 1 = k + 1 by have := Hk.out; omega]
            exact Lib.hid h
          case measure => simp [intOf]; omega
        · obtain rfl : i = m := by omega
          obtain ⟨k, hk⟩ : ∃ k, k = t.length := ⟨_, rfl⟩
          rw [show i - 1 = k by have := Hm.out; omega] at HO
          have Hk := Lib.hid hk
          have hk9 : k ≤ 1500 := by omega
          obtain ⟨O, oc, ve, hOc, hrv, _⟩ := own_rdV HO.out.own
          subst ve
          have htk : t.take k = t := by rw [Hk.out]; exact List.take_length
          clear hk
          rw [htk] at hrv
          have HOps : Hid (OpsAt W O k (t.map opOf)) := Lib.hid (OpsAt.of hrv (fun x hx => by
            obtain ⟨s, hs, rfl⟩ := List.mem_map.1 hx
            exact ⟨opOf_wf (Hup.out.1 s hs).2.2, NmsAt_nil9 W⟩))
          have HF : Hid (∀ i, i < k → FewAt (opv (t.map opOf) i)) := Lib.hid (fun i hi => by
            have hm9 := opv_mem (L := t.map opOf) (j := i) (by rw [List.length_map]; have := Hk.out; omega)
            obtain ⟨s, hs, e⟩ := List.mem_map.1 hm9
            rw [← e]
            exact opOf_few (Hup.out.1 s hs).2.2)
          have HTab := Lib.hid (table_opOf Hch.out)
          have HDW := Lib.hid (HD.out.below HO.out.bel)
          have HRd := Lib.hid (rd_take9 (n := n) (HR.out.below (below_seq HB4.out (Nat.le_refl _) HO.out.bel)).rd q (by have := HR.out.rd.1; have := Hq.out; omega))
          obtain ⟨sB, hsB⟩ : ∃ s, s = strOfNums (b.take q) := ⟨_, rfl⟩
          have hcv := conv_all (c := c) HRd.out
          rw [← hsB] at hcv
          have HsB := Lib.hid hsB
          clear hsB
          have hqc : q ≤ c := by have := HR.out.rd.1; have := Hq.out; have := HR.out.cap; omega
          have hqn1 : (q : Int) ≤ (n : Int) := by have := HR.out.rd.1; have := Hq.out; omega
          have hqn : q ≤ n := by have := HR.out.rd.1; have := Hq.out; omega
          have z0 : W.cell? ⟨bt, ot + 0, none⟩ = some (.string a) := kept_cell HO.out.bel (Hcell.out 0 (by omega))
          have y0 : W.cell? ⟨bt, ot, none⟩ = some (.string a) := z0
          have q0 : W.cell? ⟨w4.heap.size, 0, none⟩ = some (.string a) := HO.out.cell 0
          have q1 : W.cell? ⟨w4.heap.size, 1, none⟩ = some (.int .i64 sq) := HO.out.cell 1
          have q2 : W.cell? ⟨w4.heap.size, 2, none⟩ = some (.int .i64 st) := HO.out.cell 2
          have q3 : W.cell? ⟨w4.heap.size, 3, none⟩ = some (.int .i64 tm) := HO.out.cell 3
          have q4 : W.cell? ⟨w4.heap.size, 4, none⟩ = some (.string ms) := HO.out.cell 4
          have q5 : W.cell? ⟨w4.heap.size, 5, none⟩ = some (.slice Ad nd cd) := HO.out.cell 5
          have q6 : W.cell? ⟨w4.heap.size, 6, none⟩ = some (.slice O k oc) := HO.out.cell 6
          have hz9 : (0 : Int) < (i : Int) := by omega
          have hz8 : 0 < i := by omega
          clear hrv
          go_upto_region 10 with fail
          refine wp_region_noPanic ?_
          refine wp_region_held_drew (S := fun W' => W'.cell? ⟨w4.heap.size, 0, none⟩ = some (.string a) ∧ W'.cell? ⟨w4.heap.size, 1, none⟩ = some (.int .i64 sq) ∧ W'.cell? ⟨w4.heap.size, 2, none⟩ = some (.int .i64 st) ∧ W'.cell? ⟨w4.heap.size, 3, none⟩ = some (.int .i64 tm) ∧ W'.cell? ⟨w4.heap.size, 4, none⟩ = some (.string ms) ∧ W'.cell? ⟨w4.heap.size, 5, none⟩ = some (.slice Ad nd cd) ∧ W'.cell? ⟨w4.heap.size, 6, none⟩ = some (.slice O k oc) ∧ W'.cell? ⟨bt, ot + 0, none⟩ = some (.string a) ∧ W'.cell? ⟨bt, ot, none⟩ = some (.string a) ∧ (convert 22 9 (.slice A q c)).run Try.prog W' = .ok (.string sB) W') (by kernel_rfl) (⟨q0, q1, q2, q3, q4, q5, q6, z0, y0, by rw [HsB.out]; exact conv_all (c := c) (HRd.out.below (Below.refl _ _).drew)⟩) (fun hHeld => ?_)
          refine' wpAnyH_take (i := 0) (oi := ⟨_, _, _, _, _, _⟩) (v := _) rfl (by kernel_rfl) (by kernel_rfl) (by kernel_rfl) (fun _ _ _ h => h) (Or.inl ⟨by rfl, ?hyc0⟩) (by assumption) ?restc0
          case hyc0 => (intro w hSw; (try dsimp only at hSw); go_simp; try with_reducible rfl)
          try simp only [Act.put, List.setIfInBounds_toArray, List.set_cons_zero, List.set_cons_succ]
          refine wpAnyH_ready (rs := [1]) (by kernel_rfl) (by simp) ?_
          refine AllReadyH.cons (o := ⟨_, _, _, _, _, _⟩) rfl (fun K hK => ?_) AllReadyH.nil
          go_simp
          go_at_call 19
          refine (hRight_calls ⟨a, sq, st, tm, ms, D⟩ Ad nd cd (.slice O k oc) _ ⟨_, _, _, rfl⟩ Hr.out (HDW.out.below (Below.refl _ _).drew) Htm.out).mono ?_
          rintro e6 w6 ⟨rfl, hb6⟩
          have hb6 : Below W.heap.size W w6 := Below.trans (Below.refl _ _).drew hb6
          have HB6 := Lib.hid hb6
          refine hK.out _ _ (⟨kept_cell HB6.out q0, kept_cell HB6.out q1, kept_cell HB6.out q2, kept_cell HB6.out q3, kept_cell HB6.out q4, kept_cell HB6.out q5, kept_cell HB6.out q6, kept_cell HB6.out z0, kept_cell HB6.out y0, by rw [HsB.out]; exact conv_all (c := c) (HRd.out.below HB6.out)⟩) (fun hHeldN => ?_)
          clear hK K hHeld
          have hHeld := hHeldN
          clear hHeldN
          try simp only [Act.put, List.setIfInBounds_toArray, List.set_cons_zero, List.set_cons_succ]
          refine' wpAnyH_take (i := 2) (oi := ⟨_, _, _, _, _, _⟩) (v := _) rfl (by kernel_rfl) (by kernel_rfl) (by kernel_rfl) (fun _ _ _ h => h) (Or.inl ⟨by rfl, ?hyd2⟩) (by assumption) ?restd2
          case hyd2 => (intro w hSw; (try dsimp only at hSw); go_simp; try with_reducible rfl)
          try simp only [Act.put, List.setIfInBounds_toArray, List.set_cons_zero, List.set_cons_succ]
          refine' wpAnyH_take (i := 3) (oi := ⟨_, _, _, _, _, _⟩) (v := _) rfl (by kernel_rfl) (by kernel_rfl) (by kernel_rfl) (fun _ _ _ h => h) (Or.inl ⟨by rfl, ?hyd3⟩) (by assumption) ?restd3
          case hyd3 => (intro w hSw; (try dsimp only at hSw); go_simp; try with_reducible rfl)
          try simp only [Act.put, List.setIfInBounds_toArray, List.set_cons_zero, List.set_cons_succ]
          refine' wpAnyH_take (i := 4) (oi := ⟨_, _, _, _, _, _⟩) (v := _) rfl (by kernel_rfl) (by kernel_rfl) (by kernel_rfl) (fun _ _ _ h => h) (Or.inl ⟨by rfl, ?hyd4⟩) (by assumption) ?restd4
          case hyd4 => (intro w hSw; (try dsimp only at hSw); go_simp; try with_reducible rfl)
          try simp only [Act.put, List.setIfInBounds_toArray, List.set_cons_zero, List.set_cons_succ]
          refine' wpAnyH_take (i := 5) (oi := ⟨_, _, _, _, _, _⟩) (v := _) rfl (by kernel_rfl) (by kernel_rfl) (by kernel_rfl) (fun _ _ _ h => h) (Or.inl ⟨by rfl, ?hyd5⟩) (by assumption) ?restd5
          case hyd5 => (intro w hSw; (try dsimp only at hSw); go_simp; try with_reducible rfl)
          try simp only [Act.put, List.setIfInBounds_toArray, List.set_cons_zero, List.set_cons_succ]
          refine' wpAnyH_take (i := 6) (oi := ⟨_, _, _, _, _, _⟩) (v := _) rfl (by kernel_rfl) (by kernel_rfl) (by kernel_rfl) (fun _ _ _ h => h) (Or.inl ⟨by rfl, ?hyd6⟩) (by assumption) ?restd6
          case hyd6 => (intro w hSw; (try dsimp only at hSw); go_simp; try with_reducible rfl)
          try simp only [Act.put, List.setIfInBounds_toArray, List.set_cons_zero, List.set_cons_succ]
          refine' wpAnyH_take (i := 7) (oi := ⟨_, _, _, _, _, _⟩) (v := _) rfl (by kernel_rfl) (by kernel_rfl) (by kernel_rfl) (fun _ _ _ h => h) (Or.inl ⟨by rfl, ?hyd7⟩) (by assumption) ?restd7
          case hyd7 => (intro w hSw; (try dsimp only at hSw); go_simp; try with_reducible rfl)
          try simp only [Act.put, List.setIfInBounds_toArray, List.set_cons_zero, List.set_cons_succ]
          refine' wpAnyH_take (i := 8) (oi := ⟨_, _, _, _, _, _⟩) (v := _) rfl (by kernel_rfl) (by kernel_rfl) (by kernel_rfl) (fun _ _ _ h => h) (Or.inl ⟨by rfl, ?hyd8⟩) (by assumption) ?restd8
          case hyd8 => (intro w hSw; (try dsimp only at hSw); go_simp; try with_reducible rfl)
          try simp only [Act.put, List.setIfInBounds_toArray, List.set_cons_zero, List.set_cons_succ]
          refine' wpAnyH_take (i := 9) (oi := ⟨_, _, _, _, _, _⟩) (v := _) rfl (by kernel_rfl) (by kernel_rfl) (by kernel_rfl) (fun _ _ _ h => h) (Or.inl ⟨by rfl, ?hyd9⟩) (by assumption) ?restd9
          case hyd9 => (intro w hSw; (try dsimp only at hSw); go_simp; try with_reducible rfl)
          try simp only [Act.put, List.setIfInBounds_toArray, List.set_cons_zero, List.set_cons_succ]
          refine' wpAnyH_take (i := 12) (oi := ⟨_, _, _, _, _, _⟩) (v := _) rfl (by kernel_rfl) (by kernel_rfl) (by kernel_rfl) (fun _ _ _ h => h) (Or.inl ⟨by rfl, ?hyd12⟩) (by assumption) ?restd12
          case hyd12 => (intro w hSw; (try dsimp only at hSw); go_simp; try with_reducible rfl)
          try simp only [Act.put, List.setIfInBounds_toArray, List.set_cons_zero, List.set_cons_succ]
          refine' wpAnyH_take (i := 13) (oi := ⟨_, _, _, _, _, _⟩) (v := _) rfl (by kernel_rfl) (by kernel_rfl) (by kernel_rfl) (fun _ _ _ h => h) (Or.inl ⟨by rfl, ?hyd13⟩) (by assumption) ?restd13
          case hyd13 => (intro w hSw; (try dsimp only at hSw); go_simp; try with_reducible rfl)
          try simp only [Act.put, List.setIfInBounds_toArray, List.set_cons_zero, List.set_cons_succ]
          refine' wpAnyH_take (i := 14) (oi := ⟨_, _, _, _, _, _⟩) (v := _) rfl (by kernel_rfl) (by kernel_rfl) (by kernel_rfl) (fun _ _ _ h => h) (Or.inl ⟨by rfl, ?hyd14⟩) (by assumption) ?restd14
          case hyd14 => (intro w hSw; (try dsimp only at hSw); go_simp; try with_reducible rfl)
          try simp only [Act.put, List.setIfInBounds_toArray, List.set_cons_zero, List.set_cons_succ]
          refine' wpAnyH_take (i := 15) (oi := ⟨_, _, _, _, _, _⟩) (v := _) rfl (by kernel_rfl) (by kernel_rfl) (by kernel_rfl) (fun _ _ _ h => h) (Or.inl ⟨by rfl, ?hyd15⟩) (by assumption) ?restd15
          case hyd15 => (intro w hSw; (try dsimp only at hSw); go_simp; try with_reducible rfl)
          try simp only [Act.put, List.setIfInBounds_toArray, List.set_cons_zero, List.set_cons_succ]
          refine wpAnyH_ready (rs := [10]) (by kernel_rfl) (by simp) ?_
          refine AllReadyH.cons (o := ⟨_, _, _, _, _, _⟩) rfl (fun K hK => ?_) AllReadyH.nil
          go_simp
          go_at_call 17
          refine (hPut_calls a sq st tm ms Ad nd cd D O k oc (t.map opOf) _ (by have := Hr.out.act.2; simp only at this; omega) (by have := Hr.out.ms; simp only at this; omega) (by omega) (by omega) Htm.out (HDW.out.below HB6.out) (by omega) (HOps.out.below HB6.out) (by omega) HF.out (fun T hT => by rw [hT.same HTab.out (fun _ => Iff.rfl), List.length_cons]; have := Hk.out; omega)).mono ?_
          rintro e7 w7 ⟨v7, T7, rfl, hT7, ho7, hb7⟩
          obtain rfl := hT7.same HTab.out (fun _ => Iff.rfl)
          rw [← HP.out] at ho7
          obtain ⟨A7, c7, rfl, _, hr7⟩ := own_rd ho7
          have hl7 : (b.take q).length = q := by rw [List.length_take]; have := Hq.out; omega
          rw [hl7] at hr7 ⊢
          have cv7 := conv_all (c := c7) hr7
          rw [← HsB.out] at cv7
          have HB7 : Hid (Below W.heap.size W w7) := Lib.hid (below_seq HB6.out (Nat.le_refl _) hb7)
          clear hT7 ho7 hr7 hb7 hl7
          refine hK.out _ _ (⟨kept_cell HB7.out q0, kept_cell HB7.out q1, kept_cell HB7.out q2, kept_cell HB7.out q3, kept_cell HB7.out q4, kept_cell HB7.out q5, kept_cell HB7.out q6, kept_cell HB7.out z0, kept_cell HB7.out y0, by rw [HsB.out]; exact conv_all (c := c) (HRd.out.below HB7.out)⟩) (fun hHeldN => ?_)
          clear hK K hHeld
          have hHeld := hHeldN
          clear hHeldN
          try simp only [Act.put, List.setIfInBounds_toArray, List.set_cons_zero, List.set_cons_succ]
          refine wpAnyH_ready (rs := [11]) (by kernel_rfl) (by simp) ?_
          refine AllReadyH.cons (o := ⟨_, _, _, _, _, _⟩) rfl (fun K hK => ?_) AllReadyH.nil
          go_simp
          refine hK.out _ _ (⟨kept_cell HB7.out q0, kept_cell HB7.out q1, kept_cell HB7.out q2, kept_cell HB7.out q3, kept_cell HB7.out q4, kept_cell HB7.out q5, kept_cell HB7.out q6, kept_cell HB7.out z0, kept_cell HB7.out y0, by rw [HsB.out]; exact conv_all (c := c) (HRd.out.below HB7.out)⟩) (fun hHeldN => ?_)
          clear hK K hHeld
          have hHeld := hHeldN
          clear hHeldN
          try simp only [Act.put, List.setIfInBounds_toArray, List.set_cons_zero, List.set_cons_succ]
          refine' wpAnyH_take (i := 16) (oi := ⟨_, _, _, _, _, _⟩) (v := _) rfl (by kernel_rfl) (by kernel_rfl) (by kernel_rfl) (fun _ _ _ h => h) (Or.inl ⟨by rfl, ?hyf16⟩) (by assumption) ?restf16
          case hyf16 => (intro w hSw; (try dsimp only at hSw); go_simp; try with_reducible rfl)
          try simp only [Act.put, List.setIfInBounds_toArray, List.set_cons_zero, List.set_cons_succ]
          refine' wpAnyH_take (i := 17) (oi := ⟨_, _, _, _, _, _⟩) (v := _) rfl (by kernel_rfl) (by kernel_rfl) (by kernel_rfl) (fun _ _ _ h => h) (Or.inl ⟨by rfl, ?hyf17⟩) (by assumption) ?restf17
          case hyf17 => (intro w hSw; (try dsimp only at hSw); go_simp; try with_reducible rfl)
          try simp only [Act.put, List.setIfInBounds_toArray, List.set_cons_zero, List.set_cons_succ]
          refine' wpAnyH_take (i := 18) (oi := ⟨_, _, _, _, _, _⟩) (v := _) rfl (by kernel_rfl) (by kernel_rfl) (by kernel_rfl) (fun _ _ _ h => h) (Or.inl ⟨by rfl, ?hyf18⟩) (by assumption) ?restf18
          case hyf18 => (intro w hSw; (try dsimp only at hSw); go_simp; try with_reducible rfl)
          try simp only [Act.put, List.setIfInBounds_toArray, List.set_cons_zero, List.set_cons_succ]
          refine' wpAnyH_take (i := 19) (oi := ⟨_, _, _, _, _, _⟩) (v := _) rfl (by kernel_rfl) (by kernel_rfl) (by kernel_rfl) (fun _ _ _ h => h) (Or.inl ⟨by rfl, ?hyf19⟩) (by assumption) ?restf19
          case hyf19 => (intro w hSw; (try dsimp only at hSw); go_simp; try with_reducible rfl)
          try simp only [Act.put, List.setIfInBounds_toArray, List.set_cons_zero, List.set_cons_succ]
          refine' wpAnyH_take (i := 20) (oi := ⟨_, _, _, _, _, _⟩) (v := _) rfl (by kernel_rfl) (by kernel_rfl) (by kernel_rfl) (fun _ _ _ h => h) (Or.inl ⟨by rfl, ?hyf20⟩) (by assumption) ?restf20
          case hyf20 => (intro w hSw; (try dsimp only at hSw); go_simp; try with_reducible rfl)
          try simp only [Act.put, List.setIfInBounds_toArray, List.set_cons_zero, List.set_cons_succ]
          refine' wpAnyH_take (i := 21) (oi := ⟨_, _, _, _, _, _⟩) (v := _) rfl (by kernel_rfl) (by kernel_rfl) (by kernel_rfl) (fun _ _ _ h => h) (Or.inl ⟨by rfl, ?hyf21⟩) (by assumption) ?restf21
          case hyf21 => (intro w hSw; (try dsimp only at hSw); go_simp; try with_reducible rfl)
          try simp only [Act.put, List.setIfInBounds_toArray, List.set_cons_zero, List.set_cons_succ]
          refine' wpAnyH_take (i := 22) (oi := ⟨_, _, _, _, _, _⟩) (v := _) rfl (by kernel_rfl) (by kernel_rfl) (by kernel_rfl) (fun _ _ _ h => h) (Or.inl ⟨by rfl, ?hyf22⟩) (by assumption) ?restf22
          case hyf22 => (intro w hSw; (try dsimp only at hSw); go_simp; try with_reducible rfl)
          try simp only [Act.put, List.setIfInBounds_toArray, List.set_cons_zero, List.set_cons_succ]
          refine' wpAnyH_take (i := 23) (oi := ⟨_, _, _, _, _, _⟩) (v := _) rfl (by kernel_rfl) (by kernel_rfl) (by kernel_rfl) (fun _ _ _ h => h) (Or.inl ⟨by rfl, ?hyf23⟩) (by assumption) ?restf23
          case hyf23 => (intro w hSw; (try dsimp only at hSw); go_simp; try with_reducible rfl)
          try simp only [Act.put, List.setIfInBounds_toArray, List.set_cons_zero, List.set_cons_succ]
          refine' wpAnyH_take (i := 24) (oi := ⟨_, _, _, _, _, _⟩) (v := _) rfl (by kernel_rfl) (by kernel_rfl) (by kernel_rfl) (fun _ _ _ h => h) (Or.inl ⟨by rfl, ?hyf24⟩) (by assumption) ?restf24
          case hyf24 => (intro w hSw; (try dsimp only at hSw); go_simp; try with_reducible rfl)
          try simp only [Act.put, List.setIfInBounds_toArray, List.set_cons_zero, List.set_cons_succ]
          refine' wpAnyH_take (i := 25) (oi := ⟨_, _, _, _, _, _⟩) (v := _) rfl (by kernel_rfl) (by kernel_rfl) (by kernel_rfl) (fun _ _ _ h => h) (Or.inl ⟨by rfl, ?hyf25⟩) (by assumption) ?restf25
          case hyf25 => (intro w hSw; (try dsimp only at hSw); go_simp; try with_reducible rfl)
          try simp only [Act.put, List.setIfInBounds_toArray, List.set_cons_zero, List.set_cons_succ]
          refine' wpAnyH_take (i := 26) (oi := ⟨_, _, _, _, _, _⟩) (v := _) rfl (by kernel_rfl) (by kernel_rfl) (by kernel_rfl) (fun _ _ _ h => h) (Or.inl ⟨by rfl, ?hyf26⟩) (by assumption) ?restf26
          case hyf26 => (intro w hSw; (try dsimp only at hSw); go_simp; try with_reducible rfl)
          try simp only [Act.put, List.setIfInBounds_toArray, List.set_cons_zero, List.set_cons_succ]
          refine' wpAnyH_take (i := 27) (oi := ⟨_, _, _, _, _, _⟩) (v := _) rfl (by kernel_rfl) (by kernel_rfl) (by kernel_rfl) (fun _ _ _ h => h) (Or.inl ⟨by rfl, ?hyf27⟩) (by assumption) ?restf27
          case hyf27 => (intro w hSw; (try dsimp only at hSw); go_simp; try with_reducible rfl)
          try simp only [Act.put, List.setIfInBounds_toArray, List.set_cons_zero, List.set_cons_succ]
          refine' wpAnyH_take (i := 28) (oi := ⟨_, _, _, _, _, _⟩) (v := _) rfl (by kernel_rfl) (by kernel_rfl) (by kernel_rfl) (fun _ _ _ h => h) (Or.inl ⟨by rfl, ?hyf28⟩) (by assumption) ?restf28
          case hyf28 => (intro w hSw; (try dsimp only at hSw); go_simp; try with_reducible rfl)
          try simp only [Act.put, List.setIfInBounds_toArray, List.set_cons_zero, List.set_cons_succ]
          refine' wpAnyH_take (i := 29) (oi := ⟨_, _, _, _, _, _⟩) (v := _) rfl (by kernel_rfl) (by kernel_rfl) (by kernel_rfl) (fun _ _ _ h => h) (Or.inl ⟨by rfl, ?hyf29⟩) (by assumption) ?restf29
          case hyf29 => (intro w hSw; (try dsimp only at hSw); go_simp; try with_reducible rfl)
          try simp only [Act.put, List.setIfInBounds_toArray, List.set_cons_zero, List.set_cons_succ]
          refine' wpAnyH_take (i := 30) (oi := ⟨_, _, _, _, _, _⟩) (v := _) rfl (by kernel_rfl) (by kernel_rfl) (by kernel_rfl) (fun _ _ _ h => h) (Or.inl ⟨by rfl, ?hyf30⟩) (by assumption) ?restf30
          case hyf30 => (intro w hSw; (try dsimp only at hSw); go_simp; try with_reducible rfl)
          try simp only [Act.put, List.setIfInBounds_toArray, List.set_cons_zero, List.set_cons_succ]
          refine' wpAnyH_take (i := 31) (oi := ⟨_, _, _, _, _, _⟩) (v := _) rfl (by kernel_rfl) (by kernel_rfl) (by kernel_rfl) (fun _ _ _ h => h) (Or.inl ⟨by rfl, ?hyf31⟩) (by assumption) ?restf31
          case hyf31 => (intro w hSw; (try dsimp only at hSw); go_simp; try with_reducible rfl)
          try simp only [Act.put, List.setIfInBounds_toArray, List.set_cons_zero, List.set_cons_succ]
          refine wpAnyH_done (by kernel_rfl) ?_ _
          refine NoPanic.normal ?_
          clear hHeld
          go_wp2_with fail
          go_ret
          exact ⟨rfl, below_seq HB4.out (Nat.le_refl _) (below_seq HO.out.bel (Nat.le_refl _) HB7.out)⟩
  · go_wp2_with fail
    refine (awake20_calls _).mono ?_
    rintro e w2 ⟨rfl, hb2⟩
    have H2 := Lib.hid (below_seq HB1.out (Nat.le_refl _) hb2)
    clear hb2
    go_wp2
    go_ret
    exact ⟨rfl, H2.out⟩
theorem HeadOnce_walk (A : Option Addr) (n c : Nat) (z : List Int) (w : World) (h : IsRow .u8 w A n c z) (y : n * 1 ≤ 140737488351232) :
    Calls Try.prog 5 #[.slice A n c] w fun e w' => e = .returned (.bool true) ∧ Below w.heap.size w w' := HeadOnce_calls A n c (z.take n) w (isRow_bsl9 h).1 (isRow_bsl9 h).2 (by omega)
end Go.Proofs.Ytdbkbeojedndbaa
