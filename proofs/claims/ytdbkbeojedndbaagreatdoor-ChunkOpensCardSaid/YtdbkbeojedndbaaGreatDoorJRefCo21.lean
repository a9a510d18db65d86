/-
  Texts joined into one file: RefCd.
-/
import Derived.Test.YtdbkbeojedndbaaGreatDoorJRefCo1
import Derived.Test.YtdbkbeojedndbaaGreatDoorJRefCo3
import Derived.Test.YtdbkbeojedndbaaGreatDoorJRefCo4
import Derived.Test.YtdbkbeojedndbaaGreatDoorJRefCo20
import Derived.Test.YtdbkbeojedndbaaGreatDoorJRefCo5
namespace Go.Proofs.YtdbkbeojedndbaaGreatDoor
open Go.RowKit

def CdEnd (w : World) (v : Value) (B : Nat) (A : Option Addr) (bs : List Int) (T : Nat) (R : Res) (e : Ending) (w' : World) : Prop :=
  ((∃ c, c ≠ 0 ∧ R = .error c ∧ e = .returned (.tuple #[.slice none 0 0, .slice none 0 0, .int .i64 c])) ∨
   ∃ (q : Nat) (o : List Int) (v' : Value) (A' : Option Addr) (c' : Nat), R = .ok (q, o) ∧ e = .returned (.tuple #[v', .slice A' (T - q) c', .int .i64 0]) ∧ q ≤ T ∧ T - q ≤ c' ∧ c' ≤ 9223372036854775807 ∧
     w'.ownsRow B 5 1 v' o.length (ints .u8 o) ∧ Rd w' .u8 A' (T - q) (bitsOf bs q (T - q)) ∧ SameB A A') ∧ Fr w w' [v.ownBlock]
def LiesB (B : Nat) (v v' : Value) : Prop := v'.ownBlock = v.ownBlock ∨ ∀ k, v'.ownBlock = some k → B ≤ k
theorem any_nz_take (ys : List Int) {i : Nat} (h : i < ys.length) : (ys.take (i + 1)).any (fun y => y != 0) = ((ys.take i).any (fun y => y != 0) || (rd ys i != 0)) := by
  rw [List.take_succ_eq_append_getElem h, List.any_append, rd_getElem h]
  simp
theorem right_lens {xs : List Int} (h : rightB xs = true) : lensOk xs = true := by
  unfold rightB at h
  exact (Bool.and_eq_true_iff.1 h).1
theorem addS_lit {most : Int} {s : Nat} {o : List Int} : addS most s 0 0 o = if most < o.length + 1 then .error 4 else .ok (o ++ [(s : Int)]) := by
  unfold addS rightT addT
  simp
  rfl
theorem bits_front {w : World} {A : Option Addr} {m p k : Nat} {bs : List Int} (h : Rd w .u8 A m (bitsOf bs p m)) (hk : k ≤ m) : Rd w .u8 A k (bitsOf bs p k) := by
  rcases Nat.eq_zero_or_pos k with rfl | h0
  · exact bits_none p
  · obtain ⟨b, o, rfl, _⟩ := h.2 (by omega)
    exact bits_part h 0 k (by omega)
theorem right_nz {ys : List Int} (h : ys.any (fun y => y != 0) = false) : rightB ys = false := by
  have h0 : ∀ x ∈ ys, x = 0 := fun x hx => by
    have := List.any_eq_false.1 h x hx
    simpa using this
  have hc : ∀ j, 1 ≤ j → j < 16 → rd (cntOf ys) j = 0 := fun j h1 h2 => by
    unfold cntOf
    rw [rd_set (by rw [cntTo_length]; omega), if_neg (by omega), rd_cntTo _ _ _ h2]
    have : (ys.take ys.length).filter (fun x => x == (j : Int)) = [] := List.filter_eq_nil_iff.2 (fun x hx => by
      have := h0 x (List.mem_of_mem_take hx)
      subst this
      simp
      omega)
    rw [this]
    rfl
  have hl : ∀ i, i ≤ 15 → leftAt (cntOf ys) i = 2 ^ i := by
    intro i
    induction i with
    | zero => intro _; rfl
    | succ i ih => intro hi; rw [leftAt, ih (by omega), hc (i + 1) (by omega) (by omega), Int.pow_succ]; omega
  have hs : ∀ i, i ≤ 15 → sumAt (cntOf ys) i = 0 := by
    intro i
    induction i with
    | zero => intro _; rfl
    | succ i ih => intro hi; rw [sumAt, ih (by omega), hc (i + 1) (by omega) (by omega)]; rfl
  unfold rightB rightOf
  rw [hl 15 (by omega), hs 15 (by omega)]
  simp
theorem LiesB.next {B H : Nat} {v v2 v3 : Value} (h : LiesB B v v2) (hH : B ≤ H) (h3 : LiesB H v2 v3) : LiesB B v v3 := by
  rcases h3 with h3 | h3
  · rcases h with h | h
    · exact .inl (h3.trans h)
    · exact .inr (fun k e => h k (h3 ▸ e))
  · exact .inr (fun k e => Nat.le_trans hH (h3 k e))
theorem Rd.far {w w' : World} {S : Option Nat} {k : IntKind} {A : Option Addr} {n : Nat} {xs : List Int} (h : Rd w k A n xs) (hf : Fr w w' [S]) (hS : ∀ b o, A = some ⟨b, o, none⟩ → S ≠ some b) : Rd w' k A n xs :=
  ⟨h.1, fun hn => by
    obtain ⟨b, o, e, hc⟩ := h.2 hn
    refine ⟨b, o, e, fun j hj => ?_⟩
    have hlt := World.block_lt_of_cell? w _ (hc j hj)
    rw [World.cell?_of_block (hf.block b hlt (fun s hs => by simp at hs; subst hs; exact hS b o e))]
    exact hc j hj⟩
set_option maxHeartbeats 4000000 in
set_option maxRecDepth 100000 in
theorem rCoded_calls (v : Value) (o : List Int) (B : Nat) (A : Option Addr) (c p T : Nat) (bs : List Int) (X : Option Addr) (nX cX : Nat) (xs : List Int) (Y : Option Addr) (nY cY : Nat) (ys : List Int) (most : Int) (w : World)
    (hO : w.ownsRow B 5 1 v o.length (ints .u8 o)) (hA : Rd w .u8 A (T - p) (bitsOf bs p (T - p))) (hpT : p ≤ T) (hT : T ≤ 8000000) (hc : T - p ≤ c) (hc2 : c ≤ 9223372036854775807) (hAB : ∀ b o, A = some ⟨b, o, none⟩ → b < B) (hBw : B ≤ w.heap.size)
    (hX : Rd w .i64 X nX xs) (hXl : nX ≤ 1000) (hXv : ∀ b o, X = some ⟨b, o, none⟩ → v.ownBlock ≠ some b) (hY : Rd w .i64 Y nY ys) (hYl : nY ≤ 1000) (hYv : ∀ b o, Y = some ⟨b, o, none⟩ → v.ownBlock ≠ some b) (hmost : 0 ≤ most ∧ most ≤ 100000000) (hol : o.length ≤ 100000000) :
    Calls Tryz.prog 14 #[v, .slice A (T - p) c, .slice X nX cX, .slice Y nY cY, .int .i64 most] w (CdEnd w v B A bs T (codedS bs T most xs ys p o)) := by
  have HO := Lib.hid hO
  have HA := Lib.hid hA
  have HAB := Lib.hid hAB
  have HX := Lib.hid hX
  have HXv := Lib.hid hXv
  have HY := Lib.hid hY
  have HYv := Lib.hid hYv
  have HYl := Lib.hid hY.1
  have Hmost := Lib.hid hmost
  clear hO hA hAB hX hXv hY hYv
  go_enter Tryz.func14, Tryz.ntmps14
  go_wp2_with fail
  go_loopw [13, 14] (fun b i wr => ∃ k : Nat, k ≤ nY ∧ i = .int .i64 k ∧ b = .bool (!(ys.take k).any (fun y => y != 0)) ∧ wr = w) (fun _ i _ => nY - (intOf i).toNat)
  case atStart => exact ⟨0, by omega, rfl, rfl, rfl⟩
  case round =>
    obtain ⟨k, hk, rfl, rfl, rfl⟩ := hrel
    obtain ⟨w, hw⟩ : ∃ X, X = wr := ⟨_, rfl⟩
    subst hw
    by_cases hlt : k < nY
    · obtain ⟨bY, oY, rfl, hxY⟩ := HY.out.2 (by omega)
      have zY := hxY k hlt
      have hnx := any_nz_take ys (by rw [HYl.out]; exact hlt)
      obtain ⟨y, hy⟩ : ∃ y, y = rd ys k := ⟨_, rfl⟩
      rw [← hy] at zY hnx
      obtain ⟨z, hz⟩ : ∃ z, z = (ys.take k).any (fun y => y != 0) := ⟨_, rfl⟩
      rw [← hz] at hnx ⊢
      have HNX := Lib.hid hnx
      clear hy hz hnx hxY
      cases z
      · go_wp2_with fail
        go_roundw
        case rel => exact ⟨k + 1, by omega, by go_num, by rw [HNX.out]; simp [bne], (by trivial)⟩
        case measure => simp [intOf]; omega
      · go_wp2_with fail
        go_roundw
        case rel => exact ⟨k + 1, by omega, by go_num, by rw [HNX.out]; simp, (by trivial)⟩
        case measure => simp [intOf]; omega
    · obtain rfl : k = nY := by omega
      rw [List.take_of_length_le (by rw [HYl.out]; exact Nat.le_refl _)]
      obtain ⟨nz, hnz⟩ : ∃ nz, nz = ys.any (fun y => y != 0) := ⟨_, rfl⟩
      rw [← hnz]
      have HNZ := Lib.hid hnz
      clear hnz
      go_upto_region 6 with fail
      go_cut [49] from 38 to 49 (fun t wx => ∃ q : Bool, t = .bool q ∧ Hid (q = (!rightB xs || (nz && !rightB ys))) ∧ Hid (Below w.heap.size w wx))
      case first =>
        go_wp2_with fail
        refine (refRight_calls X nX cX xs _ HX.out (by omega)).mono ?_
        rintro e w1 ⟨rfl, hb1⟩
        have HB1 := Lib.hid hb1
        clear hb1
        obtain ⟨r1, hr1⟩ : ∃ r1, r1 = rightB xs := ⟨_, rfl⟩
        rw [← hr1]
        have HR1 := Lib.hid hr1
        clear hr1
        cases r1
        · go_wp2_with fail
          go_meet
          exact ⟨_, rfl, Lib.hid (by rw [← HR1.out]; rfl), HB1⟩
        · cases nz
          · go_wp2_with fail
            go_meet
            exact ⟨_, rfl, Lib.hid (by rw [← HR1.out]; rfl), HB1⟩
          · go_wp2_with fail
            refine (refRight_calls Y k cY ys _ (HY.out.below HB1.out) (by omega)).mono ?_
            rintro e w2 ⟨rfl, hb2⟩
            have HB2 := Lib.hid (below_seq HB1.out (Nat.le_refl _) hb2)
            clear hb2
            go_wp2_with fail
            go_meet
            exact ⟨_, rfl, Lib.hid (by rw [← HR1.out]; simp), HB2⟩
      case rest =>
      obtain ⟨q6, rfl, HQ6, HB6⟩ := hcut
      obtain ⟨w6, hw6⟩ : ∃ W, W = wc := ⟨_, rfl⟩
      subst hw6
      cases q6
      · have hrx : rightB xs = true := by
          have := HQ6.out
          cases h : rightB xs
          · rw [h] at this; simp at this
          · rfl
        have hry : nz = true → rightB ys = true := fun hz => by
          have := HQ6.out
          rw [hrx, hz] at this
          simpa using this
        obtain ⟨R, hR⟩ := code_total (bs := bs) (T := T) (most := most) (xs := xs) (ys := ys) (p, o)
        have hcd : codedS bs T most xs ys p o = R := coded_of hrx (by cases h : nz; exact .inr (by rw [← HNZ.out, h]); exact .inl (hry h)) hR
        have HCD := Lib.hid hcd
        have HRX := Lib.hid hrx
        have HRY := Lib.hid hry
        have HIT := Lib.hid hR
        have Hok := Lib.hid (right_lens hrx)
        clear hrx hry hR hcd
        go_wp2_with fail
        go_loopg [0, 1] (T + 1) (fun g v0 v1 wr => ∃ (v2 : Value) (q : Nat) (o2 : List Int) (A2 : Option Addr) (c3 : Nat), v0 = v2 ∧ v1 = .slice A2 (T - q) c3 ∧ q ≤ T ∧ T - q ≤ c3 ∧ c3 ≤ 9223372036854775807 ∧ o2.length ≤ 100000000 ∧ Hid (SameB A A2) ∧ Hid (iter (codeStep bs T most xs ys) g (q, o2) = some R) ∧ Hid (wr.ownsRow B 5 1 v2 o2.length (ints .u8 o2)) ∧ Hid (Rd wr .u8 A2 (T - q) (bitsOf bs q (T - q))) ∧ Hid (LiesB w.heap.size v v2) ∧ Hid (Fr w wr [v.ownBlock]))
        case atStart => exact ⟨v, p, o, A, c, rfl, rfl, hpT, hc, hc2, hol, Lib.hid (fun b o e => ⟨o, e⟩), HIT, Lib.hid (own_below HO.out HB6.out), Lib.hid (HA.out.below HB6.out), Lib.hid (.inl rfl), Lib.hid (Fr.ofBelow HB6.out _)⟩
        case round =>
          obtain ⟨v2, q, o2, A2, c3, rfl, rfl, hqT, hc3, hc3b, ho2, HS2, HI, HOw, HA2, HL, HF⟩ := hrel
          obtain ⟨W, hW⟩ : ∃ X, X = wr := ⟨_, rfl⟩
          subst hW
          obtain ⟨f, hf⟩ : ∃ f, gk = f + 1 := ⟨gk - 1, by
            rcases gk with _ | f
            · have := HI.out; cases this
            · omega⟩
          subst hf
          obtain ⟨Av, cv, hv⟩ := own_slice HOw.out
          subst hv
          have HXr := Lib.hid (HX.out.far HF.out HXv.out)
          have HYr := Lib.hid (HY.out.far HF.out HYv.out)
          have hBW : B ≤ W.heap.size := Nat.le_trans hBw HF.out.size
          go_wp2_with fail
          refine (refNext_calls X nX cX xs A2 (T - q) c3 q (bitsOf bs q (T - q)) bs _ HXr.out (by omega) Hok.out HA2.out (fun i hi => rd_bitsOf hi) (by omega)).mono ?_
          rintro e w3 ⟨hres, hb3⟩
          have HB3 := Lib.hid hb3
          have HF3 := Lib.hid (HF.out.trans (Fr.ofBelow hb3 []) (fun o ho => by cases ho))
          clear hb3
          rcases hres with ⟨s, hs, rfl⟩ | ⟨hs, rfl⟩
          · have hsy := symN_ok hs
            have hs1 := hs.2.1
            have hs4 := hs.2.2.2.1
            have hsl : s < nX := by rw [← HX.out.1]; exact hs.1
            obtain ⟨L, hL⟩ : ∃ L : Nat, rd xs s = (L : Int) := ⟨(rd xs s).toNat, by omega⟩
            have hLn : (rd xs s).toNat = L := by rw [hL]; exact Int.toNat_natCast L
            rw [hLn] at hsy hs4
            rw [hL] at hs1 ⊢
            have Hsy := Lib.hid hsy
            obtain ⟨b2, p2, rfl, _⟩ := HA2.out.2 (by omega)
            clear hs hsy hL hLn
            go_upto_region 13 with fail
            go_cut [1] from 61 to 63 (fun t wx => ∃ A' c', t = .slice A' (T - (q + L)) c' ∧ T - (q + L) ≤ c' ∧ c' ≤ 9223372036854775807 ∧ Hid (Rd w3 .u8 A' (T - (q + L)) (bitsOf bs (q + L) (T - (q + L)))) ∧ Hid (SameB A A') ∧ w3 = wx)
            case first =>
              rcases Nat.lt_or_ge L c3 with hcap | hcap
              · go_wp2
                go_meet
                exact ⟨_, _, by rw [Nat.sub_sub], by omega, by omega, Lib.hid (bits_part (HA2.out.below HB3.out) L (T - (q + L)) (by omega)), Lib.hid (HS2.out.move _), rfl⟩
              · obtain rfl : c3 = L := by omega
                have e0 : T - (q + c3) = 0 := by omega
                go_wp2
                go_meet
                exact ⟨_, _, by rw [e0], by omega, by omega, Lib.hid (by rw [e0]; exact bits_none _), Lib.hid (by first | exact SameB.none _ | exact HS2.out.move _), rfl⟩
            case rest =>
            obtain ⟨A5, c5, rfl, hc5, hc5b, HA5, HS5, rfl⟩ := hcut
            have HOw5 := Lib.hid (own_below HOw.out HB3.out)
            by_cases h256 : s = 256
            · subst h256
              have hRe : R = .ok (q + L, o2) := by
                have h1 := HI.out
                rw [iter_inr (code_end Hsy.out) f] at h1
                cases h1
                rfl
              go_wp2_with fail
              refine bodyPost_ret (v := .tuple #[.slice Av o2.length cv, .slice A5 (T - (q + L)) c5, .int .i64 0]) (by simp [results, Tryz.results14, go_sem]) rfl ⟨.inr ⟨q + L, o2, _, A5, c5, HCD.out.trans hRe, rfl, by omega, hc5, hc5b, HOw5.out, HA5.out, HS5.out⟩, HF3.out⟩
            · have q256 : ((s : Int) == 256) = false := by simp; omega
              by_cases hlo : s < 256
              · by_cases hfull : most < (o2.length : Int) + 1
                · have hRe : R = .error 4 := by
                    have h1 := HI.out
                    rw [iter_inr (code_lit_err Hsy.out hlo (addR_err (by rw [addS_lit, if_pos hfull]))) f] at h1
                    cases h1
                    rfl
                  go_wp2_with fail
                  refine bodyPost_ret (v := .tuple #[.slice none 0 0, .slice none 0 0, .int .i64 4]) (by simp [results, Tryz.results14, go_sem]) rfl ⟨.inl ⟨4, by decide, HCD.out.trans hRe, rfl⟩, HF3.out⟩
                · have hI2 : iter (codeStep bs T most xs ys) f (q + L, o2 ++ [(s : Int)]) = some R := by
                    rw [← iter_inl (code_lit_ok Hsy.out hlo (addR_ok (by rw [addS_lit, if_neg hfull]))) f]
                    exact HI.out
                  have HI2 := Lib.hid hI2
                  have hwr : IntKind.u8.wrap (s : Int) = s := by rw [IntKind.wrap_u8]; omega
                  have hBw3 : B ≤ w3.heap.size := Nat.le_trans hBW HB3.out.size
                  have hms := Hmost.out
                  clear hI2
                  go_wp2_with (at_builtin; refine wpList_app3 rfl _ _ rfl elB HOw5.out rfl rfl rfl rfl rfl (by omega) hBw3 ?_; intro g5 cap5 w5 ho5 hf5 hl5 hlt5; have HO5 := Lib.hid ho5; have HF5 := Lib.hid hf5; have HL5 := Lib.hid hl5; clear ho5 hf5 hl5)
                  go_roundg f
                  case measure => omega
                  case rel =>
                    refine ⟨_, q + L, o2 ++ [(s : Int)], A5, c5, rfl, rfl, by omega, hc5, hc5b, by rw [List.length_append, List.length_singleton]; omega, HS5, HI2, ?_, ?_, ?_, ?_⟩
                    · have h5 := HO5.out
                      rw [show ints .u8 o2 ++ #[Value.int .u8 (s : Int)].toList = ints .u8 (o2 ++ [(s : Int)]) by simp [ints]] at h5
                      rw [List.length_append, List.length_singleton]
                      exact Lib.hid h5
                    · exact Lib.hid (HA5.out.far (HF5.out.trans (Fr.refl _ _) (fun o ho => .inl ho)) (fun b o e hb => by
                        have h1 := (HOw5.out.lt b hb).1
                        obtain ⟨o', e'⟩ := HS5.out b o e
                        have h2 := HAB.out b o' e'
                        omega))
                    · refine Lib.hid (HL.out.next (Nat.le_trans HF.out.size HB3.out.size) ?_)
                      rcases HL5.out with h | h
                      · exact .inl (by rw [h]; rfl)
                      · exact .inr (fun k e => by cases e; exact h)
                    · exact Lib.hid (HF3.out.trans HF5.out (fun o ho => by
                        simp at ho
                        subst ho
                        rcases HL.out with h | h
                        · exact .inl (by rw [h]; simp)
                        · exact .inr (fun k e => h k e)))
              · have hs257 : 256 < s := by omega
                by_cases hhi : 285 < s
                · have hRe : R = .error 3 := by
                    have hm : matchS bs T most ys s (q + L) o2 = .error 3 := by unfold matchS; rw [if_pos (.inr (by omega))]
                    have h1 := HI.out
                    rw [iter_inr (code_match_err Hsy.out hs257 hm) f] at h1
                    cases h1
                    rfl
                  go_wp2_with fail
                  refine bodyPost_ret (v := .tuple #[.slice none 0 0, .slice none 0 0, .int .i64 3]) (by simp [results, Tryz.results14, go_sem]) rfl ⟨.inl ⟨3, by decide, HCD.out.trans hRe, rfl⟩, HF3.out⟩
                · obtain ⟨kk, hkk⟩ : ∃ kk, kk = s - 257 := ⟨_, rfl⟩
                  have hkk29 : kk < 29 := by omega
                  have hkki : IntKind.i64.wrap ((s : Int) - 257) = (kk : Int) := by rw [IntWalk.i64_in _ (by omega)]; omega
                  have hlr := lens_rng kk hkk29
                  obtain ⟨rl, hrl⟩ : ∃ x : Nat, rowL lens kk = x := ⟨(rowL lens kk).toNat, by omega⟩
                  obtain ⟨nb, hnb⟩ : ∃ x : Nat, rowB lens kk = x := ⟨(rowB lens kk).toNat, by omega⟩
                  rw [hrl, hnb] at hlr
                  have hm0 : matchS bs T most ys s (q + L) o2 = matchL bs T most ys rl nb (q + L) o2 := by
                    unfold matchS
                    rw [if_neg (show ¬ (s ≤ 256 ∨ 286 ≤ s) by omega), ← hkk, hrl, hnb, Int.toNat_natCast]
                  have Hm0 := Lib.hid hm0
                  have HKk := Lib.hid hkk
                  clear hm0 hkk
                  go_wp2_with fail
                  refine (rLengths_calls _).mono ?_
                  rintro e w4 ⟨v4, rfl, ho4, hb4⟩
                  obtain ⟨g4, c4, rfl, hc4, Rl⟩ := rowsAt_own ho4 (by decide)
                  have z0 := (Rl kk hkk29).1
                  have z1 := (Rl kk hkk29).2
                  rw [hrl] at z0
                  rw [hnb] at z1
                  have HB4 := Lib.hid hb4
                  clear ho4 hb4 Rl hrl hnb
                  go_upto_region 23 with fail
                  obtain ⟨g17, hg17⟩ : ∃ g, g = w4.heap.size := ⟨_, rfl⟩
                  obtain ⟨w5, hw5⟩ : ∃ X, X = w4.alloc (.cells #[.int .i64 rl, .int .i64 nb] 55) := ⟨_, rfl⟩
                  rw [← hw5, ← hg17]
                  have hb5 : Below w4.heap.size w4 w5 := by rw [hw5]; exact (Below.refl _ _).alloc (Nat.le_refl _) _
                  have hrow5 : w5.heap[g17]? = some (.cells #[.int .i64 rl, .int .i64 nb] 55 (0, 0)) := by rw [hw5, hg17]; exact heap_alloc_new w4 _
                  have y0 : w5.cell? ⟨g17, 0, none⟩ = some (.int .i64 rl) := by rw [cell_of_row w5 g17 _ _ _ (0, 0) hrow5]; rfl
                  have y1 : w5.cell? ⟨g17, 1, none⟩ = some (.int .i64 nb) := by rw [cell_of_row w5 g17 _ _ _ (0, 0) hrow5]; rfl
                  have HB5 := Lib.hid (below_seq HB4.out (Nat.le_refl _) hb5)
                  have HF5 := Lib.hid (HF3.out.trans (Fr.ofBelow HB5.out []) (fun o ho => by cases ho))
                  have HOw6 := Lib.hid (own_below HOw5.out HB5.out)
                  have HA6 := Lib.hid (HA5.out.below HB5.out)
                  clear hw5 hg17 hb5 hrow5 z0 z1
                  by_cases hsh : T - (q + L) < nb
                  · have hRe : R = .error 2 := by
                      have h1 := HI.out
                      rw [iter_inr (code_match_err Hsy.out hs257 (by rw [Hm0.out, matchL_no (by omega)])) f] at h1
                      cases h1
                      rfl
                    go_wp2_with fail
                    refine bodyPost_ret (v := .tuple #[.slice none 0 0, .slice none 0 0, .int .i64 2]) (by simp [results, Tryz.results14, go_sem]) rfl ⟨.inl ⟨2, by decide, HCD.out.trans hRe, rfl⟩, HF5.out⟩
                  · have hnc : nb ≤ c5 := by omega
                    go_wp2_with fail
                    refine wp_region_still_lit (by kernel_rfl) (by kernel_rfl) ?_
                    repeat still_step
                    obtain ⟨x, hx⟩ : ∃ x, numAt bs (q + L) nb = x := ⟨_, rfl⟩
                    have hx32 := numAt_small bs (q + L) nb 5 (by omega)
                    rw [hx] at hx32
                    have hnum := Num_calls A5 nb c5 (q + L) bs w5.drew (bits_front HA6.out (by omega)).drew (by omega)
                    rw [hx] at hnum
                    have Hx := Lib.hid hx
                    clear hx
                    still_call (hnum.mono (fun e w' h => ⟨h.1, h.2.symm⟩))
                    repeat still_step
                    refine wpStill_nil ?_
                    obtain ⟨w7, hw7⟩ : ∃ X, X = w5.drew := ⟨_, rfl⟩
                    have y1 : w7.cell? ⟨g17, 1, none⟩ = some (.int .i64 nb) := by rw [hw7]; exact y1
                    have HF7 : Hid (Fr w w7 [v.ownBlock]) := by rw [hw7]; exact Lib.hid HF5.out.drew
                    have HOw7 : Hid (w7.ownsRow B 5 1 (.slice Av o2.length cv) o2.length (ints .u8 o2)) := by rw [hw7]; exact Lib.hid HOw6.out.drew
                    have HA7 : Hid (Rd w7 .u8 A5 (T - (q + L)) (bitsOf bs (q + L) (T - (q + L)))) := by rw [hw7]; exact Lib.hid HA6.out.drew
                    have HB7 : Hid (Below w3.heap.size w3 w7) := by rw [hw7]; exact Lib.hid HB5.out.drew
                    clear hnum y0
                    change Exit.then _ _ Exit.normal _ w5.drew
                    rw [← hw7]
                    clear hw7
                    obtain ⟨LL, hLL⟩ : ∃ l, l = rl + x := ⟨_, rfl⟩
                    have hwx : IntKind.i64.wrap ((rl : Int) + IntKind.i64.wrap (x : Int)) = (LL : Int) := by rw [IntWalk.i64_in (x : Int) (by omega), IntWalk.i64_in _ (by omega)]; omega
                    rw [hwx]
                    have HLL := Lib.hid hLL
                    have hLL3 : 3 ≤ LL ∧ LL ≤ 300 := by omega
                    clear hwx hLL
                    go_upto_region 26 with fail
                    go_cut [1] from 101 to 104 (fun t wx => ∃ A' c', t = .slice A' (T - (q + L + nb)) c' ∧ T - (q + L + nb) ≤ c' ∧ c' ≤ 9223372036854775807 ∧ Hid (Rd w7 .u8 A' (T - (q + L + nb)) (bitsOf bs (q + L + nb) (T - (q + L + nb)))) ∧ Hid (SameB A A') ∧ w7 = wx)
                    case first =>
                      rcases Nat.eq_zero_or_pos (T - (q + L)) with h0 | hpos
                      · obtain rfl : nb = 0 := by omega
                        go_wp2
                        go_meet
                        exact ⟨_, _, by rw [show T - (q + L + 0) = 0 by omega], by omega, by omega, Lib.hid (by rw [show T - (q + L + 0) = 0 by omega]; exact bits_none _), HS5, rfl⟩
                      · obtain ⟨b5, p5, rfl, _⟩ := HA7.out.2 hpos
                        rcases Nat.lt_or_ge nb c5 with hcap | hcap
                        · go_wp2
                          go_meet
                          exact ⟨_, _, by rw [Nat.sub_sub], by omega, by omega, Lib.hid (bits_part HA7.out nb (T - (q + L + nb)) (by omega)), Lib.hid (HS5.out.move _), rfl⟩
                        · obtain rfl : c5 = nb := by omega
                          have e0 : T - (q + L + c5) = 0 := by omega
                          go_wp2
                          go_meet
                          exact ⟨_, _, by rw [e0], by omega, by omega, Lib.hid (by rw [e0]; exact bits_none _), Lib.hid (by first | exact SameB.none _ | exact HS5.out.move _), rfl⟩
                    case rest =>
                    obtain ⟨A8, c8, rfl, hc8, hc8b, HA8, HS8, rfl⟩ := hcut
                    cases nz
                    · have hRe : R = .error 3 := by
                        have h1 := HI.out
                        rw [iter_inr (code_match_err Hsy.out hs257 (by rw [Hm0.out, matchL_ok (by omega), distS_nil (right_nz HNZ.out.symm)])) f] at h1
                        cases h1
                        rfl
                      go_wp2_with fail
                      refine bodyPost_ret (v := .tuple #[.slice none 0 0, .slice none 0 0, .int .i64 3]) (by simp [results, Tryz.results14, go_sem]) rfl ⟨.inl ⟨3, by decide, HCD.out.trans hRe, rfl⟩, HF7.out⟩
                    · have hry := HRY.out rfl
                      have HRy := Lib.hid hry
                      have HOky := Lib.hid (right_lens hry)
                      clear hry
                      obtain ⟨q2, hq2⟩ : ∃ q2, q2 = q + L + nb := ⟨_, rfl⟩
                      rw [← hq2] at hc8 HA8 ⊢
                      have hml : matchL bs T most ys rl nb (q + L) o2 = distS bs T most ys (LL : Int) q2 o2 := by rw [matchL_ok (by omega), Hx.out, HLL.out, ← hq2]; rfl
                      have Hml := Lib.hid hml
                      have hq2T : q2 ≤ T := by omega
                      have HYr7 := Lib.hid (HY.out.far HF7.out HYv.out)
                      have Hq2 := Lib.hid hq2
                      clear hml hq2
                      go_wp2_with fail
                      refine (refNext_calls Y k cY ys A8 (T - q2) c8 q2 (bitsOf bs q2 (T - q2)) bs _ HYr7.out (by omega) HOky.out HA8.out (fun i hi => rd_bitsOf hi) (by omega)).mono ?_
                      rintro e w8 ⟨hres, hb8⟩
                      have HB8 := Lib.hid hb8
                      have HF8 := Lib.hid (HF7.out.trans (Fr.ofBelow hb8 []) (fun o ho => by cases ho))
                      clear hb8
                      rcases hres with ⟨d, hd, rfl⟩ | ⟨hd, rfl⟩
                      · have hdy := symN_ok hd
                        have hd1 := hd.2.1
                        have hd4 := hd.2.2.2.1
                        have hdl : d < k := by rw [← HY.out.1]; exact hd.1
                        obtain ⟨L2, hL2⟩ : ∃ L : Nat, rd ys d = (L : Int) := ⟨(rd ys d).toNat, by omega⟩
                        have hLn : (rd ys d).toNat = L2 := by rw [hL2]; exact Int.toNat_natCast L2
                        rw [hLn] at hdy hd4
                        rw [hL2] at hd1 ⊢
                        have Hdy := Lib.hid hdy
                        obtain ⟨b8, p8, rfl, _⟩ := HA8.out.2 (by omega)
                        clear hd hdy hL2 hLn
                        go_upto_region 34 with fail
                        go_cut [1] from 117 to 119 (fun t wx => ∃ A' c', t = .slice A' (T - (q2 + L2)) c' ∧ T - (q2 + L2) ≤ c' ∧ c' ≤ 9223372036854775807 ∧ Hid (Rd w8 .u8 A' (T - (q2 + L2)) (bitsOf bs (q2 + L2) (T - (q2 + L2)))) ∧ Hid (SameB A A') ∧ w8 = wx)
                        case first =>
                          rcases Nat.lt_or_ge L2 c8 with hcap | hcap
                          · go_wp2
                            go_meet
                            exact ⟨_, _, by rw [Nat.sub_sub], by omega, by omega, Lib.hid (bits_part (HA8.out.below HB8.out) L2 (T - (q2 + L2)) (by omega)), Lib.hid (HS8.out.move _), rfl⟩
                          · obtain rfl : c8 = L2 := by omega
                            have e0 : T - (q2 + c8) = 0 := by omega
                            go_wp2
                            go_meet
                            exact ⟨_, _, by rw [e0], by omega, by omega, Lib.hid (by rw [e0]; exact bits_none _), Lib.hid (by first | exact SameB.none _ | exact HS8.out.move _), rfl⟩
                        case rest =>
                        obtain ⟨A9, c9, rfl, hc9, hc9b, HA9, HS9, rfl⟩ := hcut
                        have HOw9 := Lib.hid (own_below HOw7.out HB8.out)
                        by_cases h29 : 29 < d
                        · have hRe : R = .error 3 := by
                            have h1 := HI.out
                            rw [iter_inr (code_match_err Hsy.out hs257 (by rw [Hm0.out, Hml.out, distS_far HRy.out Hdy.out (by omega)])) f] at h1
                            cases h1
                            rfl
                          go_wp2_with fail
                          refine bodyPost_ret (v := .tuple #[.slice none 0 0, .slice none 0 0, .int .i64 3]) (by simp [results, Tryz.results14, go_sem]) rfl ⟨.inl ⟨3, by decide, HCD.out.trans hRe, rfl⟩, HF8.out⟩
                        · have hd30 : d < 30 := by omega
                          have hdr := dists_rng d hd30
                          obtain ⟨dl, hdl2⟩ : ∃ x : Nat, rowL dists d = x := ⟨(rowL dists d).toNat, by omega⟩
                          obtain ⟨db, hdb⟩ : ∃ x : Nat, rowB dists d = x := ⟨(rowB dists d).toNat, by omega⟩
                          rw [hdl2, hdb] at hdr
                          have hds : distS bs T most ys (LL : Int) q2 o2 = distL bs T most LL dl db (q2 + L2) o2 := by rw [distS_ok HRy.out Hdy.out hd30, hdl2, hdb, Int.toNat_natCast]
                          have Hds := Lib.hid hds
                          clear hds
                          go_wp2_with fail
                          refine (rDistances_calls _).mono ?_
                          rintro e w9 ⟨v9, rfl, ho9, hb9⟩
                          obtain ⟨g9, c9', rfl, hc9', Rl⟩ := rowsAt_own ho9 (by decide)
                          have z0 := (Rl d hd30).1
                          have z1 := (Rl d hd30).2
                          rw [hdl2] at z0
                          rw [hdb] at z1
                          have HB9 := Lib.hid hb9
                          clear ho9 hb9 Rl hdl2 hdb
                          go_upto_region 38 with fail
                          obtain ⟨g21, hg21⟩ : ∃ g, g = w9.heap.size := ⟨_, rfl⟩
                          obtain ⟨w10, hw10⟩ : ∃ X, X = w9.alloc (.cells #[.int .i64 dl, .int .i64 db] 55) := ⟨_, rfl⟩
                          rw [← hw10, ← hg21]
                          have hb10 : Below w9.heap.size w9 w10 := by rw [hw10]; exact (Below.refl _ _).alloc (Nat.le_refl _) _
                          have hrow10 : w10.heap[g21]? = some (.cells #[.int .i64 dl, .int .i64 db] 55 (0, 0)) := by rw [hw10, hg21]; exact heap_alloc_new w9 _
                          have y2 : w10.cell? ⟨g21, 0, none⟩ = some (.int .i64 dl) := by rw [cell_of_row w10 g21 _ _ _ (0, 0) hrow10]; rfl
                          have y3 : w10.cell? ⟨g21, 1, none⟩ = some (.int .i64 db) := by rw [cell_of_row w10 g21 _ _ _ (0, 0) hrow10]; rfl
                          have HB10 := Lib.hid (below_seq HB9.out (Nat.le_refl _) hb10)
                          have HF10 := Lib.hid (HF8.out.trans (Fr.ofBelow HB10.out []) (fun o ho => by cases ho))
                          have HOw10 := Lib.hid (own_below HOw9.out HB10.out)
                          have HA10 := Lib.hid (HA9.out.below HB10.out)
                          clear hw10 hg21 hb10 hrow10 z0 z1
                          by_cases hsh2 : T - (q2 + L2) < db
                          · have hRe : R = .error 2 := by
                              have h1 := HI.out
                              rw [iter_inr (code_match_err Hsy.out hs257 (by rw [Hm0.out, Hml.out, Hds.out, distL_no (by omega)])) f] at h1
                              cases h1
                              rfl
                            go_wp2_with fail
                            refine bodyPost_ret (v := .tuple #[.slice none 0 0, .slice none 0 0, .int .i64 2]) (by simp [results, Tryz.results14, go_sem]) rfl ⟨.inl ⟨2, by decide, HCD.out.trans hRe, rfl⟩, HF10.out⟩
                          · have hnc2 : db ≤ c9 := by omega
                            go_wp2_with fail
                            refine wp_region_still_lit (by kernel_rfl) (by kernel_rfl) ?_
                            repeat still_step
                            obtain ⟨x2, hx2⟩ : ∃ x, numAt bs (q2 + L2) db = x := ⟨_, rfl⟩
                            have hx213 := numAt_small bs (q2 + L2) db 13 (by omega)
                            rw [hx2] at hx213
                            have hnum := Num_calls A9 db c9 (q2 + L2) bs w10.drew (bits_front HA10.out (by omega)).drew (by omega)
                            rw [hx2] at hnum
                            have Hx2 := Lib.hid hx2
                            clear hx2
                            still_call (hnum.mono (fun e w' h => ⟨h.1, h.2.symm⟩))
                            repeat still_step
                            refine wpStill_nil ?_
                            obtain ⟨w11, hw11⟩ : ∃ X, X = w10.drew := ⟨_, rfl⟩
                            have y3 : w11.cell? ⟨g21, 1, none⟩ = some (.int .i64 db) := by rw [hw11]; exact y3
                            have HF11 : Hid (Fr w w11 [v.ownBlock]) := by rw [hw11]; exact Lib.hid HF10.out.drew
                            have HOw11 : Hid (w11.ownsRow B 5 1 (.slice Av o2.length cv) o2.length (ints .u8 o2)) := by rw [hw11]; exact Lib.hid HOw10.out.drew
                            have HA11 : Hid (Rd w11 .u8 A9 (T - (q2 + L2)) (bitsOf bs (q2 + L2) (T - (q2 + L2)))) := by rw [hw11]; exact Lib.hid HA10.out.drew
                            clear hnum y2
                            change Exit.then _ _ Exit.normal _ w10.drew
                            rw [← hw11]
                            clear hw11
                            obtain ⟨DD, hDD⟩ : ∃ l, l = dl + x2 := ⟨_, rfl⟩
                            have hwx2 : IntKind.i64.wrap ((dl : Int) + IntKind.i64.wrap (x2 : Int)) = (DD : Int) := by rw [IntWalk.i64_in (x2 : Int) (by omega), IntWalk.i64_in _ (by omega)]; omega
                            rw [hwx2]
                            have HDD := Lib.hid hDD
                            have hDD1 : 1 ≤ DD ∧ DD ≤ 32768 := by omega
                            clear hwx2 hDD
                            go_upto_region 41 with fail
                            go_cut [1] from 140 to 143 (fun t wx => ∃ A' c', t = .slice A' (T - (q2 + L2 + db)) c' ∧ T - (q2 + L2 + db) ≤ c' ∧ c' ≤ 9223372036854775807 ∧ Hid (Rd w11 .u8 A' (T - (q2 + L2 + db)) (bitsOf bs (q2 + L2 + db) (T - (q2 + L2 + db)))) ∧ Hid (SameB A A') ∧ w11 = wx)
                            case first =>
                              rcases Nat.eq_zero_or_pos (T - (q2 + L2)) with h0 | hpos
                              · obtain rfl : db = 0 := by omega
                                go_wp2
                                go_meet
                                exact ⟨_, _, by rw [show T - (q2 + L2 + 0) = 0 by omega], by omega, by omega, Lib.hid (by rw [show T - (q2 + L2 + 0) = 0 by omega]; exact bits_none _), HS9, rfl⟩
                              · obtain ⟨b5, p5, rfl, _⟩ := HA11.out.2 hpos
                                rcases Nat.lt_or_ge db c9 with hcap | hcap
                                · go_wp2
                                  go_meet
                                  exact ⟨_, _, by rw [Nat.sub_sub], by omega, by omega, Lib.hid (bits_part HA11.out db (T - (q2 + L2 + db)) (by omega)), Lib.hid (HS9.out.move _), rfl⟩
                                · obtain rfl : c9 = db := by omega
                                  have e0 : T - (q2 + L2 + c9) = 0 := by omega
                                  go_wp2
                                  go_meet
                                  exact ⟨_, _, by rw [e0], by omega, by omega, Lib.hid (by rw [e0]; exact bits_none _), Lib.hid (by first | exact SameB.none _ | exact HS9.out.move _), rfl⟩
                            case rest =>
                            obtain ⟨A12, c12, rfl, hc12, hc12b, HA12, HS12, rfl⟩ := hcut
                            obtain ⟨q4, hq4⟩ : ∃ q4, q4 = q2 + L2 + db := ⟨_, rfl⟩
                            rw [← hq4] at hc12 HA12 ⊢
                            have hdl : distL bs T most LL dl db (q2 + L2) o2 = addR most 0 LL DD q4 o2 := by rw [distL_ok (by omega), Hx2.out, HDD.out, ← hq4]; rfl
                            have hmat : matchS bs T most ys s (q + L) o2 = addR most 0 LL DD q4 o2 := by rw [Hm0.out, Hml.out, Hds.out, hdl]
                            have Hmat := Lib.hid hmat
                            have hq4T : q4 ≤ T := by omega
                            have hrt : rightT 0 LL DD o2.length = decide (LL ≤ 258 ∧ DD ≤ o2.length) := by
                              unfold rightT
                              rw [if_neg (by omega)]
                              apply decide_eq_decide.2
                              constructor
                              · intro h; omega
                              · intro h; omega
                            have Hrt := Lib.hid hrt
                            clear hdl hmat hrt hq4
                            by_cases hbad : LL ≤ 258 ∧ DD ≤ o2.length
                            · have hadd : addS most 0 LL DD o2 = if most < (o2.length : Int) + (LL : Int) then .error 4 else .ok (copyT DD LL o2) := by
                                unfold addS addT
                                rw [Hrt.out, decide_eq_true hbad, if_neg (by decide), if_neg (show ¬ (LL : Int) = 0 by omega), Int.toNat_natCast, Int.toNat_natCast, show max (LL : Int) 1 = (LL : Int) by omega]
                              have Hadd := Lib.hid hadd
                              clear hadd
                              by_cases hfull : most < (o2.length : Int) + (LL : Int)
                              · have hRe : R = .error 4 := by
                                  have h1 := HI.out
                                  rw [iter_inr (code_match_err Hsy.out hs257 (by rw [Hmat.out, addR_err (by rw [Hadd.out, if_pos hfull])])) f] at h1
                                  cases h1
                                  rfl
                                go_wp2_with fail
                                refine bodyPost_ret (v := .tuple #[.slice none 0 0, .slice none 0 0, .int .i64 4]) (by simp [results, Tryz.results14, go_sem]) rfl ⟨.inl ⟨4, by decide, HCD.out.trans hRe, rfl⟩, HF11.out⟩
                              · have hI2 : iter (codeStep bs T most xs ys) f (q4, copyT DD LL o2) = some R := by
                                  rw [← iter_inl (code_match_ok Hsy.out hs257 (by rw [Hmat.out, addR_ok (by rw [Hadd.out, if_neg hfull])])) f]
                                  exact HI.out
                                have HI2 := Lib.hid hI2
                                have hms := Hmost.out
                                have hsz11 : w.heap.size ≤ w11.heap.size := HF11.out.size
                                clear hI2
                                go_wp2_with fail
                                go_loopw [0, 23] (fun v0 i wy => ∃ (j : Nat) (v3 : Value), j ≤ LL ∧ i = .int .i64 j ∧ v0 = v3 ∧ Hid (wy.ownsRow B 5 1 v3 (o2.length + j) (ints .u8 (copyT DD j o2))) ∧ Hid (LiesB w.heap.size v v3) ∧ Hid (Fr w wy [v.ownBlock]) ∧ Hid (Rd wy .u8 A12 (T - q4) (bitsOf bs q4 (T - q4)))) (fun _ i _ => LL - (intOf i).toNat)
                                case atStart => exact ⟨0, _, by omega, rfl, rfl, HOw11, HL, HF11, HA12⟩
                                case round =>
                                  obtain ⟨j, v3, hj, rfl, rfl, HO3, HL3, HF12, HA13⟩ := hrel
                                  obtain ⟨W3, hW3⟩ : ∃ X, X = wr := ⟨_, rfl⟩
                                  subst hW3
                                  have hcl := copyT_length DD j o2
                                  obtain ⟨N, hN⟩ : ∃ N, N = o2.length + j := ⟨_, rfl⟩
                                  rw [← hN] at HO3 hcl
                                  obtain ⟨g3, cap3, e3, hg3B, _⟩ := HO3.out.form (show 0 < N by omega)
                                  subst e3
                                  by_cases hjl : j < LL
                                  · obtain ⟨ix, hix⟩ : ∃ ix, ix = N - DD := ⟨_, rfl⟩
                                    have hixi : IntKind.i64.wrap ((N : Int) - (DD : Int)) = (ix : Int) := by rw [IntWalk.i64_in _ (by omega)]; omega
                                    have hixN : ix < N := by omega
                                    have z := HO3.out.cellAt ix (by omega)
                                    rw [ints_get (by omega)] at z
                                    have hcs := copyT_succ DD j o2
                                    rw [hcl, ← hix] at hcs
                                    obtain ⟨y, hy⟩ : ∃ y, y = rd (copyT DD j o2) ix := ⟨_, rfl⟩
                                    rw [← hy] at z hcs
                                    have Hcs := Lib.hid hcs
                                    have hBW3 : B ≤ W3.heap.size := Nat.le_trans hBw HF12.out.size
                                    have hN9 : N ≤ 200000000 := by omega
                                    have HNn := Lib.hid hN
                                    clear hcs hy hix hcl hN
                                    go_wp2_with (at_builtin; refine wpList_app3 rfl _ _ rfl elB HO3.out rfl rfl rfl rfl rfl (by omega) hBW3 ?_; intro g5 cap5 w5 ho5 hf5 hl5 hlt5; have HO5 := Lib.hid ho5; have HF5 := Lib.hid hf5; have HL5 := Lib.hid hl5; clear ho5 hf5 hl5)
                                    go_roundw
                                    case rel =>
                                      refine ⟨j + 1, _, by omega, by go_num, rfl, ?_, ?_, ?_, ?_⟩
                                      · have h5 := HO5.out
                                        rw [show ints .u8 (copyT DD j o2) ++ #[Value.int .u8 y].toList = ints .u8 (copyT DD (j + 1) o2) by rw [Hcs.out]; simp [ints]] at h5
                                        rw [show o2.length + (j + 1) = N + 1 by have := HNn.out; omega]
                                        exact Lib.hid h5
                                      · refine Lib.hid (HL3.out.next HF12.out.size ?_)
                                        rcases HL5.out with h | h
                                        · exact .inl (by rw [h]; rfl)
                                        · exact .inr (fun k e => by cases e; exact h)
                                      · exact Lib.hid (HF12.out.trans HF5.out (fun o ho => by
                                          simp at ho
                                          subst ho
                                          rcases HL3.out with h | h
                                          · exact .inl (List.mem_singleton.2 h)
                                          · exact .inr (fun k e => h k e)))
                                      · exact Lib.hid (HA13.out.far HF5.out (fun b o e hb => by
                                          have h1 := (HO3.out.lt b hb).1
                                          obtain ⟨o', e'⟩ := HS12.out b o e
                                          have h2 := HAB.out b o' e'
                                          omega))
                                    case measure => simp [intOf]; omega
                                  · obtain rfl : j = LL := by omega
                                    go_wp2_with fail
                                    go_roundg f
                                    case measure => omega
                                    case rel => exact ⟨_, q4, copyT DD j o2, A12, c12, rfl, rfl, hq4T, hc12, hc12b, by omega, HS12, HI2, by rw [hcl]; exact HO3, HA13, HL3, HF12⟩
                            · have hRe : R = .error 3 := by
                                have h1 := HI.out
                                rw [iter_inr (code_match_err Hsy.out hs257 (by rw [Hmat.out, addR_err (by unfold addS; rw [Hrt.out, decide_eq_false hbad, if_pos rfl])])) f] at h1
                                cases h1
                                rfl
                              by_cases hfar : o2.length < DD
                              · go_wp2_with fail
                                refine bodyPost_ret (v := .tuple #[.slice none 0 0, .slice none 0 0, .int .i64 3]) (by simp [results, Tryz.results14, go_sem]) rfl ⟨.inl ⟨3, by decide, HCD.out.trans hRe, rfl⟩, HF11.out⟩
                              · have hlong : 258 < LL := by omega
                                go_wp2_with fail
                                refine bodyPost_ret (v := .tuple #[.slice none 0 0, .slice none 0 0, .int .i64 3]) (by simp [results, Tryz.results14, go_sem]) rfl ⟨.inl ⟨3, by decide, HCD.out.trans hRe, rfl⟩, HF11.out⟩
                      · have hdy := symN_no (T := T) hd
                        by_cases h15 : T - q2 < 15
                        · have hRe : R = .error 2 := by
                            have h1 := HI.out
                            rw [if_pos h15] at hdy
                            rw [iter_inr (code_match_err Hsy.out hs257 (by rw [Hm0.out, Hml.out, distS_err HRy.out hdy])) f] at h1
                            cases h1
                            rfl
                          clear hd hdy
                          go_wp2_with fail
                          refine bodyPost_ret (v := .tuple #[.slice none 0 0, .slice none 0 0, .int .i64 2]) (by simp [results, Tryz.results14, go_sem]) rfl ⟨.inl ⟨2, by decide, HCD.out.trans hRe, rfl⟩, HF8.out⟩
                        · have hRe : R = .error 3 := by
                            have h1 := HI.out
                            rw [if_neg h15] at hdy
                            rw [iter_inr (code_match_err Hsy.out hs257 (by rw [Hm0.out, Hml.out, distS_err HRy.out hdy])) f] at h1
                            cases h1
                            rfl
                          clear hd hdy
                          go_wp2_with fail
                          refine bodyPost_ret (v := .tuple #[.slice none 0 0, .slice none 0 0, .int .i64 3]) (by simp [results, Tryz.results14, go_sem]) rfl ⟨.inl ⟨3, by decide, HCD.out.trans hRe, rfl⟩, HF8.out⟩
          · have hsy := symN_no (T := T) hs
            by_cases h15 : T - q < 15
            · have hRe : R = .error 2 := by
                have h1 := HI.out
                rw [if_pos h15] at hsy
                rw [iter_inr (code_err hsy) f] at h1
                cases h1
                rfl
              clear hs hsy
              go_wp2_with fail
              refine bodyPost_ret (v := .tuple #[.slice none 0 0, .slice none 0 0, .int .i64 2]) (by simp [results, Tryz.results14, go_sem]) rfl ⟨.inl ⟨2, by decide, HCD.out.trans hRe, rfl⟩, HF3.out⟩
            · have hRe : R = .error 3 := by
                have h1 := HI.out
                rw [if_neg h15] at hsy
                rw [iter_inr (code_err hsy) f] at h1
                cases h1
                rfl
              clear hs hsy
              go_wp2_with fail
              refine bodyPost_ret (v := .tuple #[.slice none 0 0, .slice none 0 0, .int .i64 3]) (by simp [results, Tryz.results14, go_sem]) rfl ⟨.inl ⟨3, by decide, HCD.out.trans hRe, rfl⟩, HF3.out⟩
      · have hcd : codedS bs T most xs ys p o = .error 3 := by
          have := HQ6.out
          unfold codedS
          cases h : rightB xs
          · rfl
          · cases h2 : rightB ys
            · cases h3 : nz
              · rw [h, h2, h3] at this; simp at this
              · rw [if_neg (by simp), if_pos ⟨rfl, by rw [← HNZ.out, h3]⟩]
            · rw [h, h2] at this; simp at this
        have HCD := Lib.hid hcd
        clear hcd
        go_wp2_with fail
        refine bodyPost_ret (v := .tuple #[.slice none 0 0, .slice none 0 0, .int .i64 3]) (by simp [results, Tryz.results14, go_sem]) rfl ⟨.inl ⟨3, by decide, HCD.out, rfl⟩, Fr.ofBelow HB6.out _⟩
end Go.Proofs.YtdbkbeojedndbaaGreatDoor
