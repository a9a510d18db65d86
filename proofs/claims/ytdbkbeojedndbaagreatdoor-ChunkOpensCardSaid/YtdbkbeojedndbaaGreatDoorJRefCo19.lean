/-
  Texts joined into one file: Inf5, Inf6, Inf7, InfM.
-/
import Derived.Test.YtdbkbeojedndbaaGreatDoorJRefCo10
import Derived.Test.YtdbkbeojedndbaaGreatDoorJRefCo18
namespace Go.Proofs.YtdbkbeojedndbaaGreatDoor
open Go.RowKit

theorem xor_i64 {n m : Nat} (hn : n < 65536) (hm : m < 65536) : bits BinOp.xor IntKind.i64 (n : Int) (m : Int) = ((n ^^^ m : Nat) : Int) := by
 have h1 : (BitVec.ofInt 64 (n : Int)).toNat = n := by rw [BitVec.ofInt_natCast, BitVec.toNat_ofNat]; exact Nat.mod_eq_of_lt (by omega)
 have h2 : (BitVec.ofInt 64 (m : Int)).toNat = m := by rw [BitVec.ofInt_natCast, BitVec.toNat_ofNat]; exact Nat.mod_eq_of_lt (by omega)
 have hx : n ^^^ m < 2 ^ 16 := Nat.xor_lt_two_pow (by omega) (by omega)
 show IntKind.i64.wrap ((BitVec.ofInt 64 (n : Int) ^^^ BitVec.ofInt 64 (m : Int)).toNat : Int) = _
 rw [BitVec.toNat_xor, h1, h2]
 exact IntWalk.i64_in _ (by omega)
set_option maxHeartbeats 1000000 in set_option maxRecDepth 100000 in
theorem stored_calls (B h r : Nat) (A : Option Addr) (len cap : Nat) (bs : List Int) (most : Int) (q : Nat) (v : Value) (out : List Int) (w : World) (H : OSt w B h r A len cap bs most q v out 0) (hb : ∀ j, j < len → 0 ≤ rd bs j ∧ rd bs j ≤ 255) (hlen : len ≤ 1000000) (ho : out.length ≤ 100000000)
  (hA : (A = none ∧ len = 0 ∧ cap = 0) ∨ ∃ g, A = some ⟨g, 0, none⟩) (hcap : len ≤ cap) (hcap2 : cap ≤ 9223372036854775807) (hB : B ≤ w.heap.size) :
  Calls Tryz.prog 26 #[.pointer (some ⟨h, 0, none⟩)] w fun e w' => MEnd B h r A len cap bs most v w (storedS bs (8 * len) most q out) e w' := by
 have HH := Lib.hid H
 have Hb := Lib.hid hb
 have HA := Lib.hid hA
 have hq8 := H.q8
 have c0 := H.c0
 clear H hb hA
 go_enter Tryz.func26, Tryz.ntmps26
 go_wp2_with fail
 refine (RAlign_calls r A len cap q bs _ HH.out.rdr HH.out.bytes Hb.out (fun b o e => (HH.out.apart b o e).1) hlen hq8).mono ?_
 rintro e w1 ⟨al, rfl, hR1, hg1⟩
 have hul := upTo8_le hq8
 have hum := (upTo8_ge q).2.2
 have HH1 := Lib.hid (HH.out.read hg1 hR1 hul)
 have S1 : Hid (OStep w w1 h r v v) := OStep.ofRead hg1
 obtain ⟨u, hu⟩ : ∃ u, u = upTo8 q := ⟨_, rfl⟩
 rw [← hu] at HH1 hul hum
 have Hu := Lib.hid hu
 clear hR1 hg1 hu c0
 go_wp2_with fail
 refine (num_calls B h r A len cap bs most u 16 v out 0 _ HH1.out Hb.out hlen (by omega)).mono ?_
 rintro e w2 ⟨Hx, hs2⟩
 have S2 := Lib.hid (S1.out.trans hs2)
 clear hs2
 rcases Hx.out with ⟨hok, rfl, hO2⟩ | ⟨hno, rfl, hO2⟩
 ·have HO2 := Lib.hid hO2
  have hn := numAt_small bs u 16 16 (Nat.le_refl _)
  obtain ⟨n, hne⟩ : ∃ n, n = numAt bs u 16 := ⟨_, rfl⟩
  rw [← hne] at hn ⊢
  have Hne := Lib.hid hne
  have hn16 : n < 65536 := hn
  clear hO2 Hx hne hn
  go_wp2_with fail
  refine (num_calls B h r A len cap bs most (u + 16) 16 v out 0 _ HO2.out Hb.out hlen (by omega)).mono ?_
  rintro e w3 ⟨Hx, hs3⟩
  have S3 := Lib.hid (S2.out.trans hs3)
  clear hs3
  rcases Hx.out with ⟨hok3, rfl, hO3⟩ | ⟨hno3, rfl, hO3⟩
  ·have HO3 := Lib.hid hO3
   have hm := numAt_small bs (u + 16) 16 16 (Nat.le_refl _)
   obtain ⟨m, hme⟩ : ∃ m, m = numAt bs (u + 16) 16 := ⟨_, rfl⟩
   rw [← hme] at hm ⊢
   have Hme := Lib.hid hme
   have hm16 : m < 65536 := hm
   have y3 := hO3.c3
   have hxo := xor_i64 hn16 hm16
   obtain ⟨x, hx⟩ : ∃ x, x = n ^^^ m := ⟨_, rfl⟩
   rw [← hx] at hxo
   have HX := Lib.hid hx
   clear hO3 Hx hme hm hx
   by_cases hx5 : x = 65535
   ·subst hx5
    obtain ⟨Av, cv, hv⟩ := own_slice HO3.out.own
    have hp : upTo8 (u + 16 + 16) = u + 32 := upTo8_at (by omega)
    obtain ⟨ol, hol⟩ : ∃ ol, ol = out.length := ⟨_, rfl⟩
    have y2 := HO3.out.c2
    have y1 := HO3.out.c1
    rw [hv, ← hol] at y2
    rw [← hol] at ho
    have Hol := Lib.hid hol
    have Hv := Lib.hid hv
    have Hp := Lib.hid hp
    obtain ⟨p2, hp2⟩ : ∃ p2, p2 = u + 16 + 16 := ⟨_, rfl⟩
    rw [← hp2] at HO3 hok3 Hp
    have Hp2 := Lib.hid hp2
    clear hp hv hol hp2
    go_upto_region 7 with fail
    go_region
    by_cases hg : most < (ol : Int) + (n : Int)
    ·have hE : storedS bs (8 * len) most q out = .error 4 := by
      unfold storedS
      rw [← Hu.out, ← Hne.out, ← Hme.out, ← HX.out, ← Hol.out, if_neg (by have := Hp2.out; omega), if_neg (by decide), if_pos hg]
     have HE := Lib.hid hE
     have HO4 := Lib.hid (HO3.out.below ((Below.refl _ _).drew (w := w3)))
     have S4 := Lib.hid (S3.out.drew)
     clear hE y1 y2 y3
     go_wp2_with fail
     refine (Ofail_calls B h r A len cap bs most _ v out 0 4 _ HO4.out).mono ?_
     rintro e w4 ⟨rfl, hO5, hs5⟩
     have HO5 := Lib.hid hO5
     have S5 := Lib.hid (S4.out.trans hs5)
     clear hO5 hs5
     go_wp2_with fail
     go_ret
     exact MEnd.err (c := 4) HE.out (by decide) HO5.out S5.out
    ·have HO4 := Lib.hid (HO3.out.below ((Below.refl _ _).drew (w := w3)))
     have S4 := Lib.hid (S3.out.drew)
     have z0 := HO4.out.c0
     clear y1 y2 y3
     go_wp2_with fail
     refine (RRaw_calls r A len cap p2 n bs _ HO4.out.rdr HO4.out.bytes Hb.out (fun b o e => (HO4.out.apart b o e).1) hlen HO4.out.q8 hcap hcap2 HA.out (by omega)).mono ?_
     rintro e w5 ⟨Hx, hg5⟩
     have Hg5 := Lib.hid hg5
     clear hg5 z0
     rw [Hp.out] at Hx
     rcases Hx.out with ⟨hle, ⟨vr, rfl, hor⟩, hR5⟩ | ⟨hno, rfl, hR5⟩
     ·have HO5 := Lib.hid (HO4.out.read Hg5.out hR5 hle)
      have S5 := Lib.hid (S4.out.trans (OStep.ofRead Hg5.out))
      obtain ⟨Ar, cr, rfl⟩ := own_slice hor
      obtain ⟨_, _, er, _, hrr⟩ := own_rd hor
      cases er
      have Hrr := Lib.hid hrr
      have Hrn := Lib.hid (own_none hor)
      have hE : storedS bs (8 * len) most q out = .ok (u + 32 + 8 * n, out ++ (bs.drop ((u + 32) / 8)).take n) := by
       unfold storedS
       rw [← Hu.out, ← Hne.out, ← Hme.out, ← HX.out, ← Hol.out, if_neg (by have := Hp2.out; omega), if_neg (by decide), if_neg (show ¬ most < (ol : Int) + (n : Int) by omega), if_neg (by have := Hp2.out; omega)]
      have HE := Lib.hid hE
      have z2 := HO5.out.c2
      rw [Hv.out, ← Hol.out] at z2
      have hown := HO5.out.own
      rw [Hv.out, ← Hol.out] at hown
      have Hown := Lib.hid hown
      have hsz5 := S5.out.fr.size
      have hB5 := Nat.le_trans hB hsz5
      clear hE Hx hor hrr hown hR5 hsz5
      go_wp2_with (first | (at_builtin; refine wpList_appRdL rfl _ _ rfl elB Hown.out rfl rfl Hrr.out Hrn.out (by omega) hB5 ?_; intro v6 w6 hown6 hfr6 hat6; obtain ⟨A6, c6, rfl⟩ := own_slice hown6; have hrow6 := (hfr6.block h HO5.out.lt (fun o ho e => by simp at ho; subst ho; exact own_apart HO5.out.at' (by decide) Hown.out h e rfl)).trans HO5.out.at'; have k2 := cell_of_row w6 h 2 _ _ (0, 0) hrow6; have kf := frozen_of_row w6 h 2 _ _ hrow6; simp only [List.getElem?_toArray, List.getElem?_cons_succ, List.getElem?_cons_zero] at k2; have Hown6 := Lib.hid hown6; have Hst6 : Hid (RStep w5 w6 (.slice Av ol cv) (.slice A6 (ol + n) c6)) := ⟨hfr6, hat6⟩; clear hown6 hfr6 hat6 hrow6) | fail)
      go_ret
      have hlz : (out ++ (bs.drop ((u + 32) / 8)).take n).length = ol + n := by
       have h1 := Hrr.out.1
       have h2 := Hp2.out
       rw [h2, show u + 16 + 16 = u + 32 by omega] at h1
       rw [List.length_append, h1, ← Hol.out]
      have hpz : p2 = u + 32 := by have := Hp2.out; omega
      have hOS := HO5.out
      have hrs := Hst6.out
      have ho6 := Hown6.out
      rw [hpz] at ho6 hOS
      rw [← hlz] at ho6 hrs ⊢
      rw [Hol.out, ← Hv.out] at hrs
      have hG := hOS.grow hrs ho6
      exact MEnd.ok HE.out hG.1 (S5.out.trans hG.2)
     ·have HO5 := Lib.hid (HO4.out.read Hg5.out hR5 (by omega))
      have S5 := Lib.hid (S4.out.trans (OStep.ofRead Hg5.out))
      have hE : storedS bs (8 * len) most q out = .error 2 := by
       unfold storedS
       rw [← Hu.out, ← Hne.out, ← Hme.out, ← HX.out, ← Hol.out, if_neg (by have := Hp2.out; omega), if_neg (by decide), if_neg (show ¬ most < (ol : Int) + (n : Int) by omega), if_pos (by have := Hp2.out; omega)]
      have HE := Lib.hid hE
      clear hE Hx hR5
      go_wp2_with fail
      refine (Ofail_calls B h r A len cap bs most _ v out 0 2 _ HO5.out).mono ?_
      rintro e w6 ⟨rfl, hO6, hs6⟩
      have HO6 := Lib.hid hO6
      have S6 := Lib.hid (S5.out.trans hs6)
      clear hO6 hs6
      go_wp2_with fail
      go_ret
      exact MEnd.err (c := 2) HE.out (by decide) HO6.out S6.out
   ·have hE : storedS bs (8 * len) most q out = .error 3 := by
     unfold storedS
     rw [← Hu.out, ← Hne.out, ← Hme.out, ← HX.out, if_neg (by omega), if_pos hx5]
    have HE := Lib.hid hE
    clear hE
    go_wp2_with fail
    refine (Ofail_calls B h r A len cap bs most _ v out 0 3 _ HO3.out).mono ?_
    rintro e w4 ⟨rfl, hO4, hs4⟩
    have HO4 := Lib.hid hO4
    have S4 := Lib.hid (S3.out.trans hs4)
    clear hO4 hs4
    go_wp2_with fail
    go_ret
    exact MEnd.err (c := 3) HE.out (by decide) HO4.out S4.out
  ·have HO3 := Lib.hid hO3
   have y3 := hO3.c3
   rw [errOf_zero] at y3
   clear hO3 Hx
   have hE : storedS bs (8 * len) most q out = .error 2 := by
    unfold storedS
    rw [← Hu.out, if_pos (by omega)]
   have HE := Lib.hid hE
   clear hE
   go_wp2_with fail
   go_ret
   exact MEnd.err (c := 2) HE.out (by decide) HO3.out S3.out
 ·have HO2 := Lib.hid hO2
  clear hO2 Hx
  go_wp2_with fail
  refine (num_calls B h r A len cap bs most u 16 v out _ _ HO2.out Hb.out hlen (by omega)).mono ?_
  rintro e w3 ⟨Hx, hs3⟩
  have S3 := Lib.hid (S2.out.trans hs3)
  clear hs3
  rcases Hx.out with ⟨hok3, _, _⟩ | ⟨_, rfl, hO3⟩
  ·omega
  ·have HO3 : Hid (OSt w3 B h r A len cap bs most u v out 2) := hO3
   have y3 := HO3.out.c3
   clear hO3 Hx
   have hE : storedS bs (8 * len) most q out = .error 2 := by
    unfold storedS
    rw [← Hu.out, if_pos (by omega)]
   have HE := Lib.hid hE
   clear hE
   go_wp2_with fail
   go_ret
   exact MEnd.err (c := 2) HE.out (by decide) HO3.out S3.out
end Go.Proofs.YtdbkbeojedndbaaGreatDoor
namespace Go.Proofs.YtdbkbeojedndbaaGreatDoor
open Go.RowKit

def restOf (len r : Nat) (w : World) : Nat := match w.cell? ⟨r, 1, none⟩ with
 | some (.int _ x) => 8 * len - x.toNat
 | _ => 0
theorem OSt.rest {w : World} {B h r : Nat} {A : Option Addr} {len cap : Nat} {bs : List Int} {most : Int} {q : Nat} {v : Value} {out : List Int} {err : Int} (H : OSt w B h r A len cap bs most q v out err) : restOf len r w = 8 * len - q := by
 unfold restOf
 rw [H.rdr.c1]
 rfl
def CoderP (w : World) (base : Nat) (ys : List Int) (cv : Value) : Prop := (rightB ys = false ∧ cv = .pointer none) ∨ (rightB ys = true ∧ ∃ hc, cv = .pointer (some ⟨hc, 0, none⟩) ∧ Coder w base hc ys)
theorem CoderP.keep {w w1 : World} {B h r : Nat} {A : Option Addr} {len cap : Nat} {bs : List Int} {most : Int} {q : Nat} {v v' : Value} {out : List Int} {err : Int} {base : Nat} {ys : List Int} {cv : Value} (hC : CoderP w base ys cv) (a : OStep w w1 h r v v') (H : OSt w B h r A len cap bs most q v out err) : CoderP w1 base ys cv :=
 hC.imp id (fun ⟨h1, hc, h2, h3⟩ => ⟨h1, hc, h2, a.coder H h3⟩)
theorem addS_len {most b l d : Int} {o o' : List Int} (h : addS most b l d o = .ok o') : (o'.length : Int) ≤ most := by
 unfold addS at h
 cases hr : rightT b l d o.length with
 | false => rw [hr, if_pos rfl] at h; cases h
 | true =>
  rw [hr, if_neg (by decide)] at h
  split at h
  ·cases h
  ·cases h
   rw [addT_rng hr]
   omega
theorem addR_len {most b l d : Int} {q q' : Nat} {o o' : List Int} (h : addR most b l d q o = .ok (q', o')) : (o'.length : Int) ≤ most ∧ q' = q := by
 unfold addR at h
 cases ha : addS most b l d o with
 | error e => rw [ha] at h; cases h
 | ok o2 => rw [ha] at h; cases h; exact ⟨addS_len ha, rfl⟩
theorem numS_cases {bs : List Int} {T q n x q' : Nat} (h : numS bs T q n = .ok (x, q')) : q' = q + n ∧ q' ≤ T := by
 unfold numS at h
 split at h
 ·cases h; omega
 ·cases h
theorem distL_len {bs : List Int} {T : Nat} {most L least : Int} {nb q q' : Nat} {o o' : List Int} (h : distL bs T most L least nb q o = .ok (q', o')) : (o'.length : Int) ≤ most ∧ q ≤ q' ∧ q' ≤ T := by
 unfold distL at h
 cases hn : numS bs T q nb with
 | error e => rw [hn] at h; cases h
 | ok p =>
  rw [hn] at h
  have h1 := addR_len h
  have h2 := numS_cases (show numS bs T q nb = .ok (p.1, p.2) from hn)
  omega
theorem distS_len {bs : List Int} {T : Nat} {most L : Int} {ys : List Int} {q q' : Nat} {o o' : List Int} (h : distS bs T most ys L q o = .ok (q', o')) : (o'.length : Int) ≤ most ∧ q ≤ q' ∧ q' ≤ T := by
 unfold distS at h
 split at h
 ·cases h
 ·cases hn : symN ys bs T q with
  | error e => rw [hn] at h; cases h
  | ok p =>
   rw [hn] at h
   have h2 := (symN_hit (show symN ys bs T q = .ok (p.1, p.2) from hn)).2
   dsimp only at h
   split at h
   ·cases h
   ·have h3 := distL_len h
    omega
theorem matchS_len {bs : List Int} {T : Nat} {most : Int} {ys : List Int} {s q q' : Nat} {o o' : List Int} (h : matchS bs T most ys s q o = .ok (q', o')) : (o'.length : Int) ≤ most ∧ q ≤ q' ∧ q' ≤ T := by
 unfold matchS at h
 split at h
 ·cases h
 ·unfold matchL at h
  cases hn : numS bs T q (rowB lens (s - 257)).toNat with
  | error e => rw [hn] at h; cases h
  | ok p =>
   rw [hn] at h
   have h2 := numS_cases (show numS bs T q (rowB lens (s - 257)).toNat = .ok (p.1, p.2) from hn)
   have h3 := distS_len h
   omega
theorem code_err {bs : List Int} {T : Nat} {most : Int} {xs ys : List Int} {q : Nat} {o : List Int} {c : Int} (h : symN xs bs T q = .error c) : codeStep bs T most xs ys (q, o) = .inr (.error c) := by unfold codeStep; rw [h]
theorem code_end {bs : List Int} {T : Nat} {most : Int} {xs ys : List Int} {q q1 : Nat} {o : List Int} (h : symN xs bs T q = .ok (256, q1)) : codeStep bs T most xs ys (q, o) = .inr (.ok (q1, o)) := by unfold codeStep; rw [h]; rfl
theorem code_lit_ok {bs : List Int} {T : Nat} {most : Int} {xs ys : List Int} {q q1 q2 s : Nat} {o o2 : List Int} (h : symN xs bs T q = .ok (s, q1)) (hs : s < 256) (ha : addR most s 0 0 q1 o = .ok (q2, o2)) : codeStep bs T most xs ys (q, o) = .inl (q2, o2) := by
 unfold codeStep
 unfold addR at ha
 rw [h]
 simp only [if_neg (show s ≠ 256 by omega), if_pos hs]
 cases he : addS most s 0 0 o with
 | error e => rw [he] at ha; cases ha
 | ok o9 => rw [he] at ha; cases ha; rfl
theorem code_lit_err {bs : List Int} {T : Nat} {most : Int} {xs ys : List Int} {q q1 s : Nat} {o : List Int} {c : Int} (h : symN xs bs T q = .ok (s, q1)) (hs : s < 256) (ha : addR most s 0 0 q1 o = .error c) : codeStep bs T most xs ys (q, o) = .inr (.error c) := by
 unfold codeStep
 unfold addR at ha
 rw [h]
 simp only [if_neg (show s ≠ 256 by omega), if_pos hs]
 cases he : addS most s 0 0 o with
 | error e => rw [he] at ha; cases ha; rfl
 | ok o9 => rw [he] at ha; cases ha
theorem code_match_ok {bs : List Int} {T : Nat} {most : Int} {xs ys : List Int} {q q1 q2 s : Nat} {o o2 : List Int} (h : symN xs bs T q = .ok (s, q1)) (hs : 256 < s) (ha : matchS bs T most ys s q1 o = .ok (q2, o2)) : codeStep bs T most xs ys (q, o) = .inl (q2, o2) := by
 unfold codeStep
 rw [h]
 simp only [if_neg (show s ≠ 256 by omega), if_neg (show ¬ s < 256 by omega), ha]
theorem code_match_err {bs : List Int} {T : Nat} {most : Int} {xs ys : List Int} {q q1 s : Nat} {o : List Int} {c : Int} (h : symN xs bs T q = .ok (s, q1)) (hs : 256 < s) (ha : matchS bs T most ys s q1 o = .error c) : codeStep bs T most xs ys (q, o) = .inr (.error c) := by
 unfold codeStep
 rw [h]
 simp only [if_neg (show s ≠ 256 by omega), if_neg (show ¬ s < 256 by omega), ha]
set_option maxHeartbeats 1000000 in set_option maxRecDepth 100000 in
theorem coded_calls (B h r : Nat) (A : Option Addr) (len cap : Nat) (bs : List Int) (most : Int) (q : Nat) (v : Value) (out : List Int) (A1 A2 : Option Addr) (n1 c1 n2 c2 : Nat) (xs ys : List Int) (w : World) (H : OSt w B h r A len cap bs most q v out 0) (hX : Rd w .i64 A1 n1 xs) (hY : Rd w .i64 A2 n2 ys) (hn1 : n1 ≤ 1000) (hn2 : n2 ≤ 1000)
  (hb : ∀ j, j < len → 0 ≤ rd bs j ∧ rd bs j ≤ 255) (hlen : len ≤ 1000000) (hm : most ≤ 100000000) (ho : out.length ≤ 100000000) (hT : Tabs w) (hg : 1 < B ∧ 2 < B) (hBh : B ≤ h) (hBr : B ≤ r) (hB : B ≤ w.heap.size) :
  Calls Tryz.prog 40 #[.pointer (some ⟨h, 0, none⟩), .slice A1 n1 c1, .slice A2 n2 c2] w fun e w' => MEnd B h r A len cap bs most v w (codedS bs (8 * len) most xs ys q out) e w' := by
 have HH := Lib.hid H
 have HX := Lib.hid hX
 have HY := Lib.hid hY
 have Hb := Lib.hid hb
 have HT := Lib.hid hT
 have Hg := Lib.hid hg
 have Hq := Lib.hid H.q8
 have Hxl := Lib.hid hX.1
 have Hyl := Lib.hid hY.1
 clear H hX hY hb hT hg
 go_enter Tryz.func40, Tryz.ntmps40
 go_wp2_with fail
 refine (New_calls A1 n1 c1 xs _ HX.out (by omega)).mono ?_
 rintro e w1 ⟨hr1, hb1⟩
 have HH1 := Lib.hid (HH.out.below hb1)
 have HY1 := Lib.hid (HY.out.below hb1)
 have HB1 := Lib.hid hb1
 clear hb1
 rcases hr1 with ⟨hx, rfl⟩ | ⟨hx, ha, rfl, hca⟩
 ·have HE : Hid (codedS bs (8 * len) most xs ys q out = .error 3) := Lib.hid (show _ by unfold codedS; rw [if_pos hx])
  clear hx
  go_wp2_with fail
  refine (Ofail_calls B h r A len cap bs most _ v out 0 3 _ HH1.out).mono ?_
  rintro e w2 ⟨rfl, hO2, hs2⟩
  have HO2 := Lib.hid hO2
  have S2 := Lib.hid ((OStep.ofBelow (h := h) (r := r) (v := v) HB1.out).trans hs2)
  clear hO2 hs2
  go_wp2_with fail
  go_ret
  exact MEnd.err (c := 3) HE.out (by decide) HO2.out S2.out
 ·have Hx := Lib.hid hx
  have HCa := Lib.hid hca
  clear hx hca
  go_wp2_with fail
  refine (New_calls A2 n2 c2 ys _ HY1.out (by omega)).mono ?_
  rintro e w2 ⟨hr2, hb2⟩
  have HH2 := Lib.hid (HH1.out.below hb2)
  have HY2 := Lib.hid (HY1.out.below hb2)
  have HB2 := Lib.hid (below_seq HB1.out (Nat.le_refl _) hb2)
  have HC2 := Lib.hid (HCa.out.below hb2)
  clear hb2
  rcases hr2 with ⟨hy, rfl⟩ | ⟨hy, hd, rfl, hcb⟩
  ·have Hy := Lib.hid hy
   clear hy
   go_wp2
   go_loopw [32] (fun i wr => ∃ k : Nat, k ≤ n2 ∧ i = .int .i64 k ∧ wr = w2 ∧ Hid (∀ j, j < k → rd ys j = 0)) (fun i _ => n2 - (intOf i).toNat)
   case atStart => exact ⟨0, by omega, rfl, rfl, fun j hj => by omega⟩
   case round =>
    obtain ⟨k, hk, rfl, rfl, Hz⟩ := hrel
    by_cases hlt : k < n2
    ·obtain ⟨b2, o2, e2, hc2⟩ := HY2.out.2 (by omega)
     subst e2
     have z := hc2 k hlt
     by_cases hyk : rd ys k = 0
     ·have Hyk := Lib.hid hyk
      rw [hyk] at z
      clear hc2 hyk
      go_wp2
      go_roundw
      case rel => exact ⟨k + 1, by omega, by go_num, by first | rfl | trivial, fun j hj => by rcases Nat.lt_or_ge j k with g | g; exact Hz.out j g; rw [show j = k by omega]; exact Hyk.out⟩
      case measure => simp [intOf]; omega
     ·have HE : Hid (codedS bs (8 * len) most xs ys q out = .error 3) := Lib.hid (show _ by
       unfold codedS
       rw [if_neg (by rw [Hx.out]; decide), if_pos ⟨Hy.out, List.any_eq_true.2 ⟨rd ys k, by rw [rd_getElem (show k < ys.length by rw [Hyl.out]; exact hlt)]; exact List.getElem_mem _, by simpa using hyk⟩⟩])
      obtain ⟨yk, hyke⟩ : ∃ y, y = rd ys k := ⟨_, rfl⟩
      rw [← hyke] at z hyk
      clear hc2 hyke
      go_wp2_with fail
      refine (Ofail_calls B h r A len cap bs most _ v out 0 3 _ HH2.out).mono ?_
      rintro e w3 ⟨rfl, hO3, hs3⟩
      have HO3 := Lib.hid hO3
      have S3 := Lib.hid ((OStep.ofBelow (h := h) (r := r) (v := v) HB2.out).trans hs3)
      clear hO3 hs3
      go_wp2_with fail
      go_ret
      exact MEnd.err (c := 3) HE.out (by decide) HO3.out S3.out
    ·have HK : Hid (codedS bs (8 * len) most xs ys q out = (iter (codeStep bs (8 * len) most xs ys) (8 * len + 1) (q, out)).getD (.error 0)) := Lib.hid (show _ by
      unfold codedS
      rw [if_neg (by rw [Hx.out]; decide), if_neg (fun h9 => by
       obtain ⟨y, hy1, hy2⟩ := List.any_eq_true.1 h9.2
       obtain ⟨j, hj, rfl⟩ := List.mem_iff_getElem.1 hy1
       have := Hz.out j (by rw [Hyl.out] at hj; omega)
       rw [rd_getElem hj] at this
       simp [this] at hy2)])
     have HCP : Hid (CoderP wr w1.heap.size ys (.pointer none)) := Or.inl ⟨Hy.out, rfl⟩
     obtain rfl : k = n2 := by omega
     clear hlt
     go_wp2
     go_loopw [] (fun wq => ∃ (q' f : Nat) (v' : Value) (o' : List Int), q' ≤ 8 * len ∧ 8 * len - q' < f ∧ o'.length ≤ 100000000 ∧ Hid (OSt wq B h r A len cap bs most q' v' o' 0) ∧ Hid (OStep wr wq h r v v') ∧ Hid (iter (codeStep bs (8 * len) most xs ys) (8 * len + 1) (q, out) = iter (codeStep bs (8 * len) most xs ys) f (q', o'))) (fun wq => restOf len r wq)
     case atStart => exact ⟨q, 8 * len + 1, v, out, Hq.out, by omega, ho, HH2.out, OStep.refl _ _ _ _, rfl⟩
     case round =>
      obtain ⟨q', f, v', o', hq', hf, ho', HO, HS, HI⟩ := hrel
      obtain ⟨f, rfl⟩ : ∃ f1, f = f1 + 1 := ⟨f - 1, by omega⟩
      have HCw := Lib.hid (HS.out.coder HH2.out HC2.out)
      have hrest := HO.out.rest
      have Hrest := Lib.hid hrest
      clear hrest
      go_wp2_with fail
      refine (symbol_calls B h r A len cap bs most q' v' o' w.heap.size ha xs _ HO.out HCw.out (by rw [Hxl.out]; omega) Hb.out hlen).mono ?_
      rintro e w4 ⟨hx, hs4⟩
      have HS4 := Lib.hid (HS.out.trans hs4)
      clear hs4
      rcases hx with ⟨s, q4, hX4, rfl, hO4⟩ | ⟨c, q4, hX4, hc4, rfl, hO4⟩
      ·have hit := symN_hit hX4
       have hq4 : q' < q4 ∧ q4 ≤ 8 * len := by have := hit.1.2.1; have := hit.1.2.2.2.1; have := hit.2; omega
       have hs4 : s < n1 := by rw [← Hxl.out]; exact hit.1.1
       have HX4 := Lib.hid hX4
       have HO4 := Lib.hid hO4
       clear hit hX4 hO4
       by_cases h256 : s = 256
       ·subst h256
        go_wp2_with fail
        go_ret
        exact MEnd.ok (by rw [HK.out, HI.out, iter_inr (code_end HX4.out)]; rfl) HO4.out ((OStep.ofBelow HB2.out).trans HS4.out)
       ·by_cases hlo : s < 256
        ·have hw8 : IntKind.u8.wrap (s : Int) = s := IntWalk.u8_in _ (by omega)
         have hsz4 := HS4.out.fr.size
         have hB4 := Nat.le_trans (Nat.le_trans hB HB2.out.size) hsz4
         clear hsz4
         go_wp2_with fail
         refine (add_calls B h r A len cap bs most q4 v' s 0 0 o' _ HO4.out ho' (by omega) hB4).mono ?_
         rintro e w5 hE
         rcases hE with ⟨q5, o5, v5, hX5, rfl, hO5, hS5⟩ | ⟨c5, q5, o5, v5, hX5, hc5, rfl, hO5, hS5⟩
         ·have hl5 := addR_len hX5
          have HX5 := Lib.hid hX5
          have HO5 := Lib.hid hO5
          have HS5 := Lib.hid (HS4.out.trans hS5)
          obtain ⟨hl5, hq5⟩ := hl5
          have Hq5 := Lib.hid hq5
          clear hX5 hO5 hS5 hq5
          go_wp2
          go_roundw
          case rel => exact ⟨q5, f, v5, o5, by rw [Hq5.out]; exact hq4.2, by rw [Hq5.out]; omega, by omega, HO5.out, HS5.out, HI.out.trans (iter_inl (code_lit_ok HX4.out hlo HX5.out) f)⟩
          case measure => rw [HO5.out.rest, Hrest.out, Hq5.out]; omega
         ·have HX5 := Lib.hid hX5
          have HO5 := Lib.hid hO5
          have HS5 := Lib.hid (HS4.out.trans hS5)
          have Hc5 := Lib.hid hc5
          clear hX5 hO5 hS5 hc5
          go_wp2
          go_ret
          exact MEnd.err (by rw [HK.out, HI.out, iter_inr (code_lit_err HX4.out hlo HX5.out)]; rfl) Hc5.out HO5.out ((OStep.ofBelow HB2.out).trans HS5.out)
        ·have hhi : 256 < s := by omega
         have hsz4 := HS4.out.fr.size
         have hB2' := Nat.le_trans hB HB2.out.size
         have HBB := Lib.hid (HS4.out.keepB HH2.out.own hBh hBr hB2')
         have hB4 := Nat.le_trans hB2' hsz4
         have HCP4 := Lib.hid (HCP.out.keep HS4.out HH2.out)
         have HT4 := Lib.hid (tabs_lo (HT.out.below HB2.out) HBB.out Hg.out)
         clear hsz4 hB2'
         go_wp2_with fail
         refine (match_calls B h r A len cap bs most s q4 v' o' w1.heap.size (.pointer none) ys _ HO4.out HCP4.out (by rw [Hyl.out]; omega) Hb.out hlen (by omega) ho' HT4.out Hg.out hBh hBr hB4).mono ?_
         rintro e w5 hE
         rcases hE with ⟨q5, o5, v5, hX5, rfl, hO5, hS5⟩ | ⟨c5, q5, o5, v5, hX5, hc5, rfl, hO5, hS5⟩
         ·have hl5 := matchS_len hX5
          have HX5 := Lib.hid hX5
          have HO5 := Lib.hid hO5
          have HS5 := Lib.hid (HS4.out.trans hS5)
          clear hX5 hO5 hS5
          go_wp2
          go_roundw
          case rel => exact ⟨q5, f, v5, o5, by omega, by omega, by omega, HO5.out, HS5.out, HI.out.trans (iter_inl (code_match_ok HX4.out hhi HX5.out) f)⟩
          case measure => rw [HO5.out.rest, Hrest.out]; omega
         ·have HX5 := Lib.hid hX5
          have HO5 := Lib.hid hO5
          have HS5 := Lib.hid (HS4.out.trans hS5)
          have Hc5 := Lib.hid hc5
          clear hX5 hO5 hS5 hc5
          go_wp2
          go_ret
          exact MEnd.err (by rw [HK.out, HI.out, iter_inr (code_match_err HX4.out hhi HX5.out)]; rfl) Hc5.out HO5.out ((OStep.ofBelow HB2.out).trans HS5.out)
      ·have HX4 := Lib.hid hX4
       have HO4 := Lib.hid hO4
       have Hc4 := Lib.hid hc4
       clear hX4 hO4 hc4
       go_wp2_with fail
       go_ret
       exact MEnd.err (by rw [HK.out, HI.out, iter_inr (code_err HX4.out)]; rfl) Hc4.out HO4.out ((OStep.ofBelow HB2.out).trans HS4.out)
  ·have Hy := Lib.hid hy
   have HCP : Hid (CoderP w2 w1.heap.size ys (.pointer (some ⟨hd, 0, none⟩))) := Or.inr ⟨hy, hd, rfl, hcb⟩
   have HK : Hid (codedS bs (8 * len) most xs ys q out = (iter (codeStep bs (8 * len) most xs ys) (8 * len + 1) (q, out)).getD (.error 0)) := Lib.hid (show _ by
    unfold codedS
    rw [if_neg (by rw [Hx.out]; decide), if_neg (fun h9 => by rw [Hy.out] at h9; exact absurd h9.1 (by decide))])
   clear hy hcb
   go_wp2
   go_loopw [] (fun wq => ∃ (q' f : Nat) (v' : Value) (o' : List Int), q' ≤ 8 * len ∧ 8 * len - q' < f ∧ o'.length ≤ 100000000 ∧ Hid (OSt wq B h r A len cap bs most q' v' o' 0) ∧ Hid (OStep w2 wq h r v v') ∧ Hid (iter (codeStep bs (8 * len) most xs ys) (8 * len + 1) (q, out) = iter (codeStep bs (8 * len) most xs ys) f (q', o'))) (fun wq => restOf len r wq)
   case atStart => exact ⟨q, 8 * len + 1, v, out, Hq.out, by omega, ho, HH2.out, OStep.refl _ _ _ _, rfl⟩
   case round =>
    obtain ⟨q', f, v', o', hq', hf, ho', HO, HS, HI⟩ := hrel
    obtain ⟨f, rfl⟩ : ∃ f1, f = f1 + 1 := ⟨f - 1, by omega⟩
    have HCw := Lib.hid (HS.out.coder HH2.out HC2.out)
    have hrest := HO.out.rest
    have Hrest := Lib.hid hrest
    clear hrest
    go_wp2_with fail
    refine (symbol_calls B h r A len cap bs most q' v' o' w.heap.size ha xs _ HO.out HCw.out (by rw [Hxl.out]; omega) Hb.out hlen).mono ?_
    rintro e w4 ⟨hx, hs4⟩
    have HS4 := Lib.hid (HS.out.trans hs4)
    clear hs4
    rcases hx with ⟨s, q4, hX4, rfl, hO4⟩ | ⟨c, q4, hX4, hc4, rfl, hO4⟩
    ·have hit := symN_hit hX4
     have hq4 : q' < q4 ∧ q4 ≤ 8 * len := by have := hit.1.2.1; have := hit.1.2.2.2.1; have := hit.2; omega
     have hs4 : s < n1 := by rw [← Hxl.out]; exact hit.1.1
     have HX4 := Lib.hid hX4
     have HO4 := Lib.hid hO4
     clear hit hX4 hO4
     by_cases h256 : s = 256
     ·subst h256
      go_wp2_with fail
      go_ret
      exact MEnd.ok (by rw [HK.out, HI.out, iter_inr (code_end HX4.out)]; rfl) HO4.out ((OStep.ofBelow HB2.out).trans HS4.out)
     ·by_cases hlo : s < 256
      ·have hw8 : IntKind.u8.wrap (s : Int) = s := IntWalk.u8_in _ (by omega)
       have hsz4 := HS4.out.fr.size
       have hB4 := Nat.le_trans (Nat.le_trans hB HB2.out.size) hsz4
       clear hsz4
       go_wp2_with fail
       refine (add_calls B h r A len cap bs most q4 v' s 0 0 o' _ HO4.out ho' (by omega) hB4).mono ?_
       rintro e w5 hE
       rcases hE with ⟨q5, o5, v5, hX5, rfl, hO5, hS5⟩ | ⟨c5, q5, o5, v5, hX5, hc5, rfl, hO5, hS5⟩
       ·have hl5 := addR_len hX5
        have HX5 := Lib.hid hX5
        have HO5 := Lib.hid hO5
        have HS5 := Lib.hid (HS4.out.trans hS5)
        obtain ⟨hl5, hq5⟩ := hl5
        have Hq5 := Lib.hid hq5
        clear hX5 hO5 hS5 hq5
        go_wp2
        go_roundw
        case rel => exact ⟨q5, f, v5, o5, by rw [Hq5.out]; exact hq4.2, by rw [Hq5.out]; omega, by omega, HO5.out, HS5.out, HI.out.trans (iter_inl (code_lit_ok HX4.out hlo HX5.out) f)⟩
        case measure => rw [HO5.out.rest, Hrest.out, Hq5.out]; omega
       ·have HX5 := Lib.hid hX5
        have HO5 := Lib.hid hO5
        have HS5 := Lib.hid (HS4.out.trans hS5)
        have Hc5 := Lib.hid hc5
        clear hX5 hO5 hS5 hc5
        go_wp2
        go_ret
        exact MEnd.err (by rw [HK.out, HI.out, iter_inr (code_lit_err HX4.out hlo HX5.out)]; rfl) Hc5.out HO5.out ((OStep.ofBelow HB2.out).trans HS5.out)
      ·have hhi : 256 < s := by omega
       have hsz4 := HS4.out.fr.size
       have hB2' := Nat.le_trans hB HB2.out.size
       have HBB := Lib.hid (HS4.out.keepB HH2.out.own hBh hBr hB2')
       have hB4 := Nat.le_trans hB2' hsz4
       have HCP4 := Lib.hid (HCP.out.keep HS4.out HH2.out)
       have HT4 := Lib.hid (tabs_lo (HT.out.below HB2.out) HBB.out Hg.out)
       clear hsz4 hB2'
       go_wp2_with fail
       refine (match_calls B h r A len cap bs most s q4 v' o' w1.heap.size (.pointer (some ⟨hd, 0, none⟩)) ys _ HO4.out HCP4.out (by rw [Hyl.out]; omega) Hb.out hlen (by omega) ho' HT4.out Hg.out hBh hBr hB4).mono ?_
       rintro e w5 hE
       rcases hE with ⟨q5, o5, v5, hX5, rfl, hO5, hS5⟩ | ⟨c5, q5, o5, v5, hX5, hc5, rfl, hO5, hS5⟩
       ·have hl5 := matchS_len hX5
        have HX5 := Lib.hid hX5
        have HO5 := Lib.hid hO5
        have HS5 := Lib.hid (HS4.out.trans hS5)
        clear hX5 hO5 hS5
        go_wp2
        go_roundw
        case rel => exact ⟨q5, f, v5, o5, by omega, by omega, by omega, HO5.out, HS5.out, HI.out.trans (iter_inl (code_match_ok HX4.out hhi HX5.out) f)⟩
        case measure => rw [HO5.out.rest, Hrest.out]; omega
       ·have HX5 := Lib.hid hX5
        have HO5 := Lib.hid hO5
        have HS5 := Lib.hid (HS4.out.trans hS5)
        have Hc5 := Lib.hid hc5
        clear hX5 hO5 hS5 hc5
        go_wp2
        go_ret
        exact MEnd.err (by rw [HK.out, HI.out, iter_inr (code_match_err HX4.out hhi HX5.out)]; rfl) Hc5.out HO5.out ((OStep.ofBelow HB2.out).trans HS5.out)
    ·have HX4 := Lib.hid hX4
     have HO4 := Lib.hid hO4
     have Hc4 := Lib.hid hc4
     clear hX4 hO4 hc4
     go_wp2_with fail
     go_ret
     exact MEnd.err (by rw [HK.out, HI.out, iter_inr (code_err HX4.out)]; rfl) Hc4.out HO4.out ((OStep.ofBelow HB2.out).trans HS4.out)
end Go.Proofs.YtdbkbeojedndbaaGreatDoor
namespace Go.Proofs.YtdbkbeojedndbaaGreatDoor
open Go.RowKit

def dynamicS (bs : List Int) (T : Nat) (most : Int) (q : Nat) (o : List Int) : Res := match getS bs T q with
 | none => .error 3
 | some (xs, ys, q1) => codedS bs T most xs ys q1 o
theorem dynamic_none {bs : List Int} {T : Nat} {most : Int} {q : Nat} {o : List Int} (h : getS bs T q = none) : dynamicS bs T most q o = .error 3 := by unfold dynamicS; rw [h]
theorem dynamic_some {bs : List Int} {T : Nat} {most : Int} {q q1 : Nat} {o xs ys : List Int} (h : getS bs T q = some (xs, ys, q1)) : dynamicS bs T most q o = codedS bs T most xs ys q1 o := by unfold dynamicS; rw [h]
theorem getS_rng {bs : List Int} {T q q1 : Nat} {xs ys : List Int} (h : getS bs T q = some (xs, ys, q1)) : xs.length ≤ 1000 ∧ ys.length ≤ 1000 ∧ q1 ≤ T := by
 unfold getS at h
 split at h
 ·cases h
 ·split at h
  ·cases h
  ·split at h
   ·cases h
   ·split at h
    ·cases h
    ·split at h
     ·cases h
     ·rename_i l p hl
      split at h
      ·cases h
      ·cases h
       have h1 := listS_len (show ([] : List Int).length ≤ _ from Nat.zero_le _) (by omega) hl
       rw [List.length_take, List.length_drop]
       omega
set_option maxHeartbeats 1000000 in set_option maxRecDepth 100000 in
theorem dynamic_calls (B h r : Nat) (A : Option Addr) (len cap : Nat) (bs : List Int) (most : Int) (q : Nat) (v : Value) (out : List Int) (w : World) (H : OSt w B h r A len cap bs most q v out 0)
  (hb : ∀ j, j < len → 0 ≤ rd bs j ∧ rd bs j ≤ 255) (hlen : len ≤ 1000000) (hm : most ≤ 100000000) (ho : out.length ≤ 100000000) (hT : Tabs w) (hO : OrdAt w) (hg : 1 < B ∧ 2 < B) (hg2 : 0 < B) (hBh : B ≤ h) (hBr : B ≤ r) (hB : B ≤ w.heap.size) :
  Calls Tryz.prog 28 #[.pointer (some ⟨h, 0, none⟩)] w fun e w' => MEnd B h r A len cap bs most v w (dynamicS bs (8 * len) most q out) e w' := by
 have HH := Lib.hid H
 have Hb := Lib.hid hb
 have HT := Lib.hid hT
 have HO := Lib.hid hO
 have Hg := Lib.hid hg
 have hq8 := H.q8
 have c0 := H.c0
 have hne : 0 ≠ r := by have := hg2; omega
 clear H hb hT hO hg
 go_enter Tryz.func28, Tryz.ntmps28
 go_wp2_with fail
 refine (Get_calls r A len cap q bs _ HO.out hne HH.out.rdr HH.out.bytes Hb.out (fun b o e => (HH.out.apart b o e).1) hlen hq8).mono ?_
 rintro e w1 ⟨hx, hg1⟩
 have S1 : Hid (OStep w w1 h r v v) := OStep.ofRead hg1
 have Hg1 := Lib.hid hg1
 clear hg1 c0
 rcases hx with ⟨l1, l2, q1, A1, c1, A2, c2, hG, rfl, hR1, hR2, hR⟩ | ⟨hG, rfl, q1, hq1, hR⟩
 ·have hrg := getS_rng hG
  have HO1 := Lib.hid (HH.out.read Hg1.out hR hrg.2.2)
  have HR1 := Lib.hid hR1
  have HR2 := Lib.hid hR2
  have HG := Lib.hid hG
  have hB1 := Nat.le_trans hB S1.out.fr.size
  have HT1 := Lib.hid (tabs_lo HT.out (S1.out.keepB HH.out.own hBh hBr hB) Hg.out)
  obtain ⟨n1, hn1⟩ : ∃ n, n = l1.length := ⟨_, rfl⟩
  obtain ⟨n2, hn2⟩ : ∃ n, n = l2.length := ⟨_, rfl⟩
  rw [← hn1, ← hn2] at hrg
  rw [← hn1] at HR1 ⊢
  rw [← hn2] at HR2 ⊢
  clear hG hR1 hR2 hR hn1 hn2
  go_wp2_with fail
  refine (coded_calls B h r A len cap bs most q1 v out A1 A2 n1 c1 n2 c2 l1 l2 _ HO1.out HR1.out HR2.out hrg.1 hrg.2.1 Hb.out hlen hm ho HT1.out Hg.out hBh hBr hB1).mono ?_
  rintro e w2 hE
  rcases hE with ⟨q5, o5, v5, hX5, rfl, hO5, hS5⟩ | ⟨c5, q5, o5, v5, hX5, hc5, rfl, hO5, hS5⟩
  ·have HX5 := Lib.hid hX5
   have HO5 := Lib.hid hO5
   have HS5 := Lib.hid (S1.out.trans hS5)
   clear hX5 hO5 hS5
   go_wp2_with fail
   go_ret
   exact MEnd.ok ((dynamic_some HG.out).trans HX5.out) HO5.out HS5.out
  ·have HX5 := Lib.hid hX5
   have HO5 := Lib.hid hO5
   have Hc5 := Lib.hid hc5
   have HS5 := Lib.hid (S1.out.trans hS5)
   clear hX5 hO5 hS5 hc5
   go_wp2_with fail
   go_ret
   exact MEnd.err ((dynamic_some HG.out).trans HX5.out) Hc5.out HO5.out HS5.out
 ·have HO1 := Lib.hid (HH.out.read Hg1.out hR hq1)
  have HG := Lib.hid hG
  clear hG hR
  go_wp2_with fail
  refine (Ofail_calls B h r A len cap bs most _ v out 0 3 _ HO1.out).mono ?_
  rintro e w2 ⟨rfl, hO2, hs2⟩
  have HO2 := Lib.hid hO2
  have S2 := Lib.hid (S1.out.trans hs2)
  clear hO2 hs2
  go_wp2_with fail
  go_ret
  exact MEnd.err (c := 3) (dynamic_none HG.out) (by decide) HO2.out S2.out
set_option maxHeartbeats 1000000 in set_option maxRecDepth 100000 in
theorem fixed_calls (B h r : Nat) (A : Option Addr) (len cap : Nat) (bs : List Int) (most : Int) (q : Nat) (v : Value) (out : List Int) (w : World) (H : OSt w B h r A len cap bs most q v out 0)
  (hb : ∀ j, j < len → 0 ≤ rd bs j ∧ rd bs j ≤ 255) (hlen : len ≤ 1000000) (hm : most ≤ 100000000) (ho : out.length ≤ 100000000) (hT : Tabs w) (hg : 1 < B ∧ 2 < B) (hBh : B ≤ h) (hBr : B ≤ r) (hB : B ≤ w.heap.size) :
  Calls Tryz.prog 27 #[.pointer (some ⟨h, 0, none⟩)] w fun e w' => MEnd B h r A len cap bs most v w (codedS bs (8 * len) most fixA fixB q out) e w' := by
 have HH := Lib.hid H
 have Hb := Lib.hid hb
 have HT := Lib.hid hT
 have Hg := Lib.hid hg
 clear H hb hT hg
 go_enter Tryz.func27, Tryz.ntmps27
 go_wp2_with fail
 refine (Fixed_calls _).mono ?_
 rintro e w1 ⟨ga, gb, rfl, hoa, hob, hb1⟩
 obtain ⟨_, _, e1, _, hra⟩ := own_rd hoa
 cases e1
 obtain ⟨_, _, e2, _, hrb⟩ := own_rd hob
 cases e2
 have Hra := Lib.hid hra
 have Hrb := Lib.hid hrb
 have HO1 := Lib.hid (HH.out.below hb1)
 have HT1 := Lib.hid (HT.out.below hb1)
 have S1 : Hid (OStep w w1 h r v v) := OStep.ofBelow hb1
 have hB1 := Nat.le_trans hB hb1.size
 clear hoa hob hra hrb hb1
 go_wp2_with fail
 refine (coded_calls B h r A len cap bs most q v out _ _ 288 288 32 32 fixA fixB _ HO1.out Hra.out Hrb.out (by decide) (by decide) Hb.out hlen hm ho HT1.out Hg.out hBh hBr hB1).mono ?_
 rintro e w2 hE
 rcases hE with ⟨q5, o5, v5, hX5, rfl, hO5, hS5⟩ | ⟨c5, q5, o5, v5, hX5, hc5, rfl, hO5, hS5⟩
 ·have HX5 := Lib.hid hX5
  have HO5 := Lib.hid hO5
  have HS5 := Lib.hid (S1.out.trans hS5)
  clear hX5 hO5 hS5
  go_wp2_with fail
  go_ret
  exact MEnd.ok HX5.out HO5.out HS5.out
 ·have HX5 := Lib.hid hX5
  have HO5 := Lib.hid hO5
  have Hc5 := Lib.hid hc5
  have HS5 := Lib.hid (S1.out.trans hS5)
  clear hX5 hO5 hS5 hc5
  go_wp2_with fail
  go_ret
  exact MEnd.err HX5.out Hc5.out HO5.out HS5.out
set_option maxHeartbeats 1000000 in
theorem none_calls (B h r : Nat) (A : Option Addr) (len cap : Nat) (bs : List Int) (most : Int) (q : Nat) (v : Value) (out : List Int) (w : World) (H : OSt w B h r A len cap bs most q v out 0) :
  Calls Tryz.prog 29 #[.pointer (some ⟨h, 0, none⟩)] w fun e w' => MEnd B h r A len cap bs most v w (.error 3) e w' := by
 have HH := Lib.hid H
 clear H
 go_enter Tryz.func29, Tryz.ntmps29
 go_wp2_with fail
 refine (Ofail_calls B h r A len cap bs most _ v out 0 3 _ HH.out).mono ?_
 rintro e w2 ⟨rfl, hO2, hs2⟩
 have HO2 := Lib.hid hO2
 have S2 := Lib.hid hs2
 clear hO2 hs2
 go_wp2_with fail
 go_ret
 exact MEnd.err (c := 3) rfl (by decide) HO2.out S2.out
end Go.Proofs.YtdbkbeojedndbaaGreatDoor
namespace Go.Proofs.YtdbkbeojedndbaaGreatDoor
open Go.RowKit

theorem listS_mono {xs bs : List Int} {T n : Nat} : ∀ {f p : Nat} {out l : List Int} {q : Nat}, listS xs bs T n f p out = some (l, q) → p ≤ q := by
 intro f
 induction f with
 | zero => intro p out l q h; cases h
 | succ f ih =>
  intro p out l q h
  by_cases hn : n ≤ out.length
  ·rw [listS_done (by omega) hn] at h
   cases h
   exact Nat.le_refl _
  ·by_cases hx : ∃ s, Hit xs bs p (T - p) s
   ·obtain ⟨s, hs⟩ := hx
    by_cases h16 : s < 16
    ·rw [listS_low hn hs h16] at h
     have := ih h
     omega
    ·by_cases h0 : s = 16 ∧ out.length = 0
     ·rw [listS_first hn hs h0.1 h0.2] at h; cases h
     ·by_cases hT : T < p + (rd xs s).toNat + sizeS s
      ·rw [listS_short hn hs h16 hT] at h; cases h
      ·by_cases hlong : n < out.length + manyS bs (p + (rd xs s).toNat) s
       ·rw [listS_long hn hs h16 hlong] at h; cases h
       ·rw [listS_more hn hs h16 h0 hT hlong] at h
        have := ih h
        omega
   ·rw [listS_no hn (fun s hs => hx ⟨s, hs⟩)] at h
    cases h
theorem getS_mono {bs : List Int} {T q q1 : Nat} {xs ys : List Int} (h : getS bs T q = some (xs, ys, q1)) : q ≤ q1 := by
 unfold getS at h
 split at h
 ·cases h
 ·split at h
  ·cases h
  ·split at h
   ·cases h
   ·split at h
    ·cases h
    ·split at h
     ·cases h
     ·rename_i l p hl
      split at h
      ·cases h
      ·cases h
       have := listS_mono hl
       omega
theorem codeStep_inl {bs : List Int} {T : Nat} {most : Int} {xs ys : List Int} {q q2 : Nat} {o o2 : List Int} (h : codeStep bs T most xs ys (q, o) = .inl (q2, o2)) : q < q2 ∧ (o2.length : Int) ≤ most := by
 cases hs : symN xs bs T q with
 | error e => rw [code_err hs] at h; cases h
 | ok p =>
  obtain ⟨s, q1⟩ := p
  have hit := symN_hit hs
  have h1 := hit.1.2.1
  by_cases h256 : s = 256
  ·subst h256; rw [code_end hs] at h; cases h
  ·by_cases hlo : s < 256
   ·cases ha : addR most s 0 0 q1 o with
    | error e => rw [code_lit_err hs hlo ha] at h; cases h
    | ok p =>
     obtain ⟨q3, o3⟩ := p
     rw [code_lit_ok hs hlo ha] at h
     cases h
     have h2 := addR_len ha
     omega
   ·cases ha : matchS bs T most ys s q1 o with
    | error e => rw [code_match_err hs (by omega) ha] at h; cases h
    | ok p =>
     obtain ⟨q3, o3⟩ := p
     rw [code_match_ok hs (by omega) ha] at h
     cases h
     have h2 := matchS_len ha
     omega
theorem codeStep_inr {bs : List Int} {T : Nat} {most : Int} {xs ys : List Int} {q q2 : Nat} {o o2 : List Int} (h : codeStep bs T most xs ys (q, o) = .inr (.ok (q2, o2))) : q < q2 ∧ o2 = o := by
 cases hs : symN xs bs T q with
 | error e => rw [code_err hs] at h; cases h
 | ok p =>
  obtain ⟨s, q1⟩ := p
  have hit := symN_hit hs
  have h1 := hit.1.2.1
  by_cases h256 : s = 256
  ·subst h256
   rw [code_end hs] at h
   cases h
   exact ⟨by omega, rfl⟩
  ·by_cases hlo : s < 256
   ·cases ha : addR most s 0 0 q1 o with
    | error e => rw [code_lit_err hs hlo ha] at h; cases h
    | ok p => rw [code_lit_ok hs hlo (show addR most s 0 0 q1 o = .ok (p.1, p.2) from ha)] at h; cases h
   ·cases ha : matchS bs T most ys s q1 o with
    | error e => rw [code_match_err hs (by omega) ha] at h; cases h
    | ok p => rw [code_match_ok hs (by omega) (show matchS bs T most ys s q1 o = .ok (p.1, p.2) from ha)] at h; cases h
theorem code_iter {bs : List Int} {T : Nat} {most : Int} {xs ys : List Int} : ∀ {f q q2 : Nat} {o o2 : List Int}, iter (codeStep bs T most xs ys) f (q, o) = some (.ok (q2, o2)) → q < q2 ∧ ((o2.length : Int) ≤ most ∨ o2 = o) := by
 intro f
 induction f with
 | zero => intro q q2 o o2 h; cases h
 | succ f ih =>
  intro q q2 o o2 h
  cases hs : codeStep bs T most xs ys (q, o) with
  | inr r =>
   rw [iter_inr hs] at h
   cases h
   have h1 := codeStep_inr hs
   exact ⟨h1.1, .inr h1.2⟩
  | inl s' =>
   obtain ⟨q1, o1⟩ := s'
   rw [iter_inl hs] at h
   have h1 := codeStep_inl hs
   have h2 := ih h
   refine ⟨by omega, .inl ?_⟩
   rcases h2.2 with h3 | h3
   ·exact h3
   ·rw [h3]; exact h1.2
theorem coded_len {bs : List Int} {T : Nat} {most : Int} {xs ys : List Int} {q q2 : Nat} {o o2 : List Int} (h : codedS bs T most xs ys q o = .ok (q2, o2)) : q < q2 ∧ ((o2.length : Int) ≤ most ∨ o2 = o) := by
 unfold codedS at h
 split at h
 ·cases h
 ·split at h
  ·cases h
  ·cases hi : iter (codeStep bs T most xs ys) (T + 1) (q, o) with
   | none => rw [hi] at h; cases h
   | some r =>
    rw [hi] at h
    have e : r = .ok (q2, o2) := h
    subst e
    exact code_iter hi
theorem block_len {bs : List Int} {T : Nat} {most : Int} {k q q2 : Nat} {o o2 : List Int} (h : blockS bs T most k q o = .ok (q2, o2)) : q ≤ q2 ∧ ((o2.length : Int) ≤ most ∨ o2 = o) := by
 unfold blockS at h
 split at h
 ·unfold storedS at h
  split at h
  ·cases h
  ·split at h
   ·cases h
   ·split at h
    ·cases h
    ·split at h
     ·cases h
     ·cases h
      refine ⟨by unfold upTo8; omega, .inl ?_⟩
      rw [List.length_append]
      have := List.length_take_le (numAt bs (upTo8 q) 16) (bs.drop ((upTo8 q + 32) / 8))
      omega
 ·split at h
  ·have := coded_len h
   exact ⟨by omega, this.2⟩
  ·split at h
   ·split at h
    ·cases h
    ·rename_i xs ys q1 hg
     have h1 := coded_len h
     have h2 := getS_mono hg
     exact ⟨by omega, h1.2⟩
   ·cases h
end Go.Proofs.YtdbkbeojedndbaaGreatDoor
