/-
  Texts joined into one file: Inf1, LzM, Toks.
-/
import Derived.Test.YtdbkbeojedndbaaGreatDoorJRefCo5
import Derived.Test.YtdbkbeojedndbaaGreatDoorJRefCo6
import Derived.Test.YtdbkbeojedndbaaGreatDoorJRefCo7
import Derived.Test.YtdbkbeojedndbaaGreatDoorJRefCo4
import Derived.Laws.Cover3
import Derived.Maps.OwnSet
import Derived.DeepKeys4
import Derived.Test.YtdbkbeojedndbaaGreatDoorJRefCo1
import Derived.ProofKit
import Derived.OpenShut
import Derived.ChangeSame
namespace Go.Proofs.YtdbkbeojedndbaaGreatDoor
open Go.RowKit

def errOf (err c : Int) : Int := if err = 0 then c else err
theorem errOf_zero (c : Int) : errOf 0 c = c := rfl
structure OSt (w : World) (B h r : Nat) (A : Option Addr) (len cap : Nat) (bs : List Int) (most : Int) (q : Nat) (v : Value) (out : List Int) (err : Int) : Prop where
 at' : w.heap[h]? = some (.cells #[.pointer (some ⟨r, 0, none⟩), .int .i64 most, v, .int .i64 err] 62 (0, 0))
 rdr : RdrAt w r A len cap q
 bytes : Rd w .u8 A len bs
 own : w.ownsRow B 5 1 v out.length (ints .u8 out)
 apart : ∀ b o, A = some ⟨b, o, none⟩ → b ≠ r ∧ b ≠ h ∧ v.ownBlock ≠ some b ∧ b < w.heap.size
 q8 : q ≤ 8 * len
theorem OSt.hr {w : World} {B h r : Nat} {A : Option Addr} {len cap : Nat} {bs : List Int} {most : Int} {q : Nat} {v : Value} {out : List Int} {err : Int} (H : OSt w B h r A len cap bs most q v out err) : h ≠ r := fun e => by
 have h1 := H.at'
 have h2 := H.rdr
 unfold RdrAt at h2
 rw [e] at h1
 rw [h1] at h2
 simp at h2
theorem OSt.lt {w : World} {B h r : Nat} {A : Option Addr} {len cap : Nat} {bs : List Int} {most : Int} {q : Nat} {v : Value} {out : List Int} {err : Int} (H : OSt w B h r A len cap bs most q v out err) : h < w.heap.size := (Array.getElem?_eq_some_iff.1 H.at').1
theorem OSt.c0 {w : World} {B h r : Nat} {A : Option Addr} {len cap : Nat} {bs : List Int} {most : Int} {q : Nat} {v : Value} {out : List Int} {err : Int} (H : OSt w B h r A len cap bs most q v out err) : w.cell? ⟨h, 0, none⟩ = some (.pointer (some ⟨r, 0, none⟩)) := by rw [cell_of_row w h 0 _ _ (0, 0) H.at']; rfl
theorem OSt.c1 {w : World} {B h r : Nat} {A : Option Addr} {len cap : Nat} {bs : List Int} {most : Int} {q : Nat} {v : Value} {out : List Int} {err : Int} (H : OSt w B h r A len cap bs most q v out err) : w.cell? ⟨h, 1, none⟩ = some (.int .i64 most) := by rw [cell_of_row w h 1 _ _ (0, 0) H.at']; rfl
theorem OSt.c2 {w : World} {B h r : Nat} {A : Option Addr} {len cap : Nat} {bs : List Int} {most : Int} {q : Nat} {v : Value} {out : List Int} {err : Int} (H : OSt w B h r A len cap bs most q v out err) : w.cell? ⟨h, 2, none⟩ = some v := by rw [cell_of_row w h 2 _ _ (0, 0) H.at']; rfl
theorem OSt.c3 {w : World} {B h r : Nat} {A : Option Addr} {len cap : Nat} {bs : List Int} {most : Int} {q : Nat} {v : Value} {out : List Int} {err : Int} (H : OSt w B h r A len cap bs most q v out err) : w.cell? ⟨h, 3, none⟩ = some (.int .i64 err) := by rw [cell_of_row w h 3 _ _ (0, 0) H.at']; rfl
theorem OSt.frozen {w : World} {B h r : Nat} {A : Option Addr} {len cap : Nat} {bs : List Int} {most : Int} {q : Nat} {v : Value} {out : List Int} {err : Int} (H : OSt w B h r A len cap bs most q v out err) (j : Nat) : w.frozen? ⟨h, j, none⟩ = false := frozen_of_row w h j _ _ H.at'
theorem OSt.ah {w : World} {B h r : Nat} {A : Option Addr} {len cap : Nat} {bs : List Int} {most : Int} {q : Nat} {v : Value} {out : List Int} {err : Int} (H : OSt w B h r A len cap bs most q v out err) : Apart v.ownBlock (some h) := own_apart H.at' (by decide) H.own
theorem OSt.ar {w : World} {B h r : Nat} {A : Option Addr} {len cap : Nat} {bs : List Int} {most : Int} {q : Nat} {v : Value} {out : List Int} {err : Int} (H : OSt w B h r A len cap bs most q v out err) : Apart v.ownBlock (some r) := own_apart H.rdr (by decide) H.own
theorem OSt.below {w w1 : World} {B h r : Nat} {A : Option Addr} {len cap : Nat} {bs : List Int} {most : Int} {q : Nat} {v : Value} {out : List Int} {err : Int} (H : OSt w B h r A len cap bs most q v out err) (hb : Below w.heap.size w w1) : OSt w1 B h r A len cap bs most q v out err :=
 ⟨(hb.block h H.lt).trans H.at', H.rdr.keep hb, H.bytes.below hb, own_below H.own hb, fun b o e => ⟨(H.apart b o e).1, (H.apart b o e).2.1, (H.apart b o e).2.2.1, Nat.lt_of_lt_of_le (H.apart b o e).2.2.2 hb.size⟩, H.q8⟩
theorem OSt.read {w w1 : World} {B h r : Nat} {A : Option Addr} {len cap : Nat} {bs : List Int} {most : Int} {q q' : Nat} {v : Value} {out : List Int} {err : Int} (H : OSt w B h r A len cap bs most q v out err) (hg : w.grownBy w1 (some r)) (hR : RdrAt w1 r A len cap q') (hq : q' ≤ 8 * len) : OSt w1 B h r A len cap bs most q' v out err :=
 ⟨(hg.block h H.lt (by simpa using H.hr)).trans H.at', hR, H.bytes.grown hg (fun b o e => (H.apart b o e).1), own_fr H.own (Fr.ofGrown hg) (fun o ho => by simp at ho; subst ho; exact H.ar), fun b o e => ⟨(H.apart b o e).1, (H.apart b o e).2.1, (H.apart b o e).2.2.1, Nat.lt_of_lt_of_le (H.apart b o e).2.2.2 hg.size⟩, hq⟩
theorem OSt.setErr {w : World} {B h r : Nat} {A : Option Addr} {len cap : Nat} {bs : List Int} {most : Int} {q : Nat} {v : Value} {out : List Int} {err : Int} (H : OSt w B h r A len cap bs most q v out err) (c : Int) : OSt (w.setCell ⟨h, 3, none⟩ (.int .i64 c)) B h r A len cap bs most q v out c :=
 have hf : Fr w (w.setCell ⟨h, 3, none⟩ (.int .i64 c)) [some h] := (Fr.refl w [some h]).set _ _ (.inl (by simp))
 ⟨heap_setCell_same w h 3 _ _ _ H.at', H.rdr.fr hf (fun o ho => by simp at ho; subst ho; simpa using H.hr), H.bytes.frW hf (fun b o e s hs => by simp at hs; subst hs; simpa using Ne.symm (H.apart b o e).2.1), own_fr H.own hf (fun o ho => by simp at ho; subst ho; exact H.ah), fun b o e => ⟨(H.apart b o e).1, (H.apart b o e).2.1, (H.apart b o e).2.2.1, by simpa using (H.apart b o e).2.2.2⟩, H.q8⟩
structure OStep (w w' : World) (h r : Nat) (v v' : Value) : Prop where
 fr : Fr w w' [some h, some r, v.ownBlock]
 at' : v'.ownBlock = v.ownBlock ∨ ∀ k, v'.ownBlock = some k → w.heap.size ≤ k
theorem OStep.refl (w : World) (h r : Nat) (v : Value) : OStep w w h r v v := ⟨Fr.refl _ _, .inl rfl⟩
theorem OStep.trans {w w1 w2 : World} {h r : Nat} {v v1 v2 : Value} (a : OStep w w1 h r v v1) (b : OStep w1 w2 h r v1 v2) : OStep w w2 h r v v2 := by
 refine ⟨a.fr.trans b.fr (fun o ho => ?_), ?_⟩
 ·simp at ho
  rcases ho with rfl | rfl | rfl
  ·exact .inl (by simp)
  ·exact .inl (by simp)
  ·rcases a.at' with e | e
   ·exact .inl (by simp [e])
   ·exact .inr e
 ·rcases b.at' with e | e
  ·rw [e]; exact a.at'
  ·exact .inr (fun k hk => Nat.le_trans a.fr.size (e k hk))
theorem OStep.below {w w1 w2 : World} {h r : Nat} {v v1 : Value} (a : OStep w w1 h r v v1) (b : Below w1.heap.size w1 w2) : OStep w w2 h r v v1 := ⟨a.fr.trans (Fr.ofBelow b []) (fun _ ho => by simp at ho), a.at'⟩
theorem OStep.ofRead {w w1 : World} {h r : Nat} {v : Value} (hg : w.grownBy w1 (some r)) : OStep w w1 h r v v := ⟨(Fr.ofGrown hg).mono (fun o ho => by simp at ho; simp [ho]), .inl rfl⟩
theorem OStep.ofBelow {w w1 : World} {h r : Nat} {v : Value} (b : Below w.heap.size w w1) : OStep w w1 h r v v := ⟨Fr.ofBelow b _, .inl rfl⟩
theorem OStep.drew {w w1 : World} {h r : Nat} {v v1 : Value} (a : OStep w w1 h r v v1) : OStep w w1.drew h r v v1 := ⟨a.fr.drew, a.at'⟩
theorem OStep.coder {w w1 : World} {B h r : Nat} {A : Option Addr} {len cap : Nat} {bs : List Int} {most : Int} {q : Nat} {v v' : Value} {out : List Int} {err : Int} (a : OStep w w1 h r v v') (H : OSt w B h r A len cap bs most q v out err) {base hc : Nat} {xs : List Int} (hC : Coder w base hc xs) : Coder w1 base hc xs := by
 obtain ⟨m, u, h1, h2, h3, h4, h5⟩ := hC
 refine ⟨m, u, h1, h2, (a.fr.block hc h3.lt (fun o ho e => ?_)).trans h3, h4, own_fr h5 a.fr (fun o ho => ?_)⟩
 ·simp at ho
  rcases ho with rfl | rfl | rfl
  ·have e2 : h = hc := by simpa using e
   have h9 := H.at'
   rw [e2, h3] at h9
   simp at h9
  ·have e2 : r = hc := by simpa using e
   have h9 := H.rdr
   unfold RdrAt at h9
   rw [e2, h3] at h9
   simp at h9
  ·exact own_apart h3 (by decide) H.own hc e rfl
 ·simp at ho
  rcases ho with rfl | rfl | rfl
  ·exact own_apart H.at' (by decide) h5
  ·exact own_apart H.rdr (by decide) h5
  ·exact own_apart2 (by decide) h5 H.own
set_option maxHeartbeats 400000 in
theorem fail_calls (h : Nat) (r : Nat) (c err most : Int) (v : Value) (w : World) (H : w.heap[h]? = some (.cells #[.pointer (some ⟨r, 0, none⟩), .int .i64 most, v, .int .i64 err] 62 (0, 0))) :
  Calls Tryz.prog 38 #[.pointer (some ⟨h, 0, none⟩), .int .i64 c] w fun e w' => e = .returned (.bool false) ∧ (err = 0 ∧ w' = w.setCell ⟨h, 3, none⟩ (.int .i64 c) ∨ err ≠ 0 ∧ w' = w) := by
 have c3 : w.cell? ⟨h, 3, none⟩ = some (.int .i64 err) := by rw [cell_of_row w h 3 _ _ (0, 0) H]; rfl
 have f3 := frozen_of_row w h 3 _ _ H
 clear H
 go_enter Tryz.func38, Tryz.ntmps38
 by_cases he : err = 0
 ·subst he
  go_wp2
  go_ret
  exact ⟨rfl, rfl⟩
 ·go_wp2
  go_ret
  exact ⟨rfl, .inr ⟨he, rfl⟩⟩
theorem OSt.fail {w w1 : World} {B h r : Nat} {A : Option Addr} {len cap : Nat} {bs : List Int} {most : Int} {q : Nat} {v : Value} {out : List Int} {err c : Int} (H : OSt w B h r A len cap bs most q v out err) (hw : err = 0 ∧ w1 = w.setCell ⟨h, 3, none⟩ (.int .i64 c) ∨ err ≠ 0 ∧ w1 = w) : OSt w1 B h r A len cap bs most q v out (errOf err c) ∧ OStep w w1 h r v v := by
 rcases hw with ⟨rfl, rfl⟩ | ⟨he, rfl⟩
 ·exact ⟨H.setErr c, (Fr.refl w _).set _ _ (.inl (by simp)), .inl rfl⟩
 ·exact ⟨by unfold errOf; rw [if_neg he]; exact H, OStep.refl _ _ _ _⟩
theorem Ofail_calls (B h r : Nat) (A : Option Addr) (len cap : Nat) (bs : List Int) (most : Int) (q : Nat) (v : Value) (out : List Int) (err c : Int) (w : World) (H : OSt w B h r A len cap bs most q v out err) :
  Calls Tryz.prog 38 #[.pointer (some ⟨h, 0, none⟩), .int .i64 c] w fun e w' => e = .returned (.bool false) ∧ OSt w' B h r A len cap bs most q v out (errOf err c) ∧ OStep w w' h r v v := by
 refine (fail_calls h r c err most v w H.at').mono ?_
 rintro e w1 ⟨rfl, hw⟩
 exact ⟨rfl, H.fail hw⟩
set_option maxHeartbeats 1000000 in
theorem num_calls (B h r : Nat) (A : Option Addr) (len cap : Nat) (bs : List Int) (most : Int) (q n : Nat) (v : Value) (out : List Int) (err : Int) (w : World) (H : OSt w B h r A len cap bs most q v out err) (hb : ∀ j, j < len → 0 ≤ rd bs j ∧ rd bs j ≤ 255) (hlen : len ≤ 1000000) (hn : n ≤ 60) :
  Calls Tryz.prog 30 #[.pointer (some ⟨h, 0, none⟩), .int .i64 n] w fun e w' =>
   Hid (q + n ≤ 8 * len ∧ e = .returned (.int .i64 (numAt bs q n : Nat)) ∧ OSt w' B h r A len cap bs most (q + n) v out err ∨ 8 * len < q + n ∧ e = .returned (.int .i64 0) ∧ OSt w' B h r A len cap bs most q v out (errOf err 2)) ∧ OStep w w' h r v v := by
 have HH := Lib.hid H
 have Hb := Lib.hid hb
 have c0 := H.c0
 have hq8 := H.q8
 clear H hb
 go_enter Tryz.func30, Tryz.ntmps30
 go_wp2_with fail
 refine (Bits_any r A len cap q n bs _ HH.out.rdr HH.out.bytes Hb.out (fun b o e => (HH.out.apart b o e).1) hlen hq8 hn).mono ?_
 rintro e w1 ⟨hx, hg⟩
 have Hg := Lib.hid hg
 have hlt := numAt_lt bs q n
 have hp : (2 : Nat) ^ n ≤ 2 ^ 60 := Nat.pow_le_pow_right (by omega) hn
 have hp2 : (2 : Nat) ^ 60 = 1152921504606846976 := by decide
 rw [hp2] at hp
 obtain ⟨x, hxe⟩ : ∃ x, x = numAt bs q n := ⟨_, rfl⟩
 rw [← hxe] at hx hlt
 have hx60 : x < 1152921504606846976 := by omega
 have Hxe := Lib.hid hxe
 clear hg hxe hlt hp hp2
 rcases hx with ⟨hok, rfl, hR1⟩ | ⟨hno, rfl, hR1⟩
 ·have HR1 := Lib.hid hR1
  clear hR1
  go_wp2_with fail
  go_ret
  exact ⟨Lib.hid (.inl ⟨hok, by rw [← Hxe.out]; rfl, HH.out.read Hg.out HR1.out hok⟩), OStep.ofRead Hg.out⟩
 ·have HO1 := Lib.hid (HH.out.read Hg.out hR1 hq8)
  clear hR1
  go_wp2_with fail
  refine (Ofail_calls B h r A len cap bs most q v out err 2 _ HO1.out).mono ?_
  rintro e w2 ⟨rfl, hO2, hs2⟩
  have HO2 := Lib.hid hO2
  have Hs2 := Lib.hid hs2
  clear hO2 hs2
  go_wp2_with fail
  go_ret
  exact ⟨Lib.hid (.inr ⟨hno, rfl, HO2.out⟩), (OStep.ofRead Hg.out).trans Hs2.out⟩
end Go.Proofs.YtdbkbeojedndbaaGreatDoor
namespace Go.Proofs.YtdbkbeojedndbaaGreatDoor
open Go.RowKit Go.Maps

theorem laidOutLz : laidOutB Tryz.prog = true := by kernel_rfl
theorem rowLz : (156 : TypeId) < Tryz.prog.types.size := of_decide_eq_true (by kernel_rfl)
theorem wideLz : (match Tryz.prog.underlying 156 with | some (.array _ _) | some (.struct _) => true | _ => false) = true := by kernel_rfl
theorem deepLz : Tryz.prog.keyTypeAt 2 156 = true := by kernel_rfl
set_option maxRecDepth 100000 in
theorem lawLz0 : WideMaps.KeyLaw Tryz.prog 156 := deep_law_laid laidOutLz (m := 2) (by omega) rowLz deepLz wideLz
theorem lawLz : Keyed Tryz.prog 156 := Keyed.of_law lawLz0
theorem zeroLz (w : World) : (zeroValue 3).run Tryz.prog w = .ok (.int .i64 0) w := by kernel_rfl
def key3 (x y z : Int) : Value := .agg #[.int .u8 x, .int .u8 y, .int .u8 z]
theorem lit_u8 {x : Int} (h : 0 ≤ x ∧ x ≤ 255) : (Lit.int .u8 x).wf = true := by
 simp [Lit.wf, IntKind.min, IntKind.max, IntKind.signed, IntKind.bits]
 omega
theorem keyLits3 (m : Nat) {x y z : Int} (hx : 0 ≤ x ∧ x ≤ 255) (hy : 0 ≤ y ∧ y ≤ 255) (hz : 0 ≤ z ∧ z ≤ 255) : ∃ l, Tryz.prog.keyLits (m + 2) 156 [.int .u8 x, .int .u8 y, .int .u8 z] = some l := by
 have c3 : Tryz.prog.cellsOf 156 = 3 := by kernel_rfl
 have c1 : Tryz.prog.cellsOf 5 = 1 := by kernel_rfl
 have e : ∀ v : Int, 0 ≤ v ∧ v ≤ 255 → Tryz.prog.keyLits (m + 1) 5 [.int .u8 v] = some [.int .u8 v] := fun v hv => by
  unfold Program.keyLits
  rw [Tryz.underlying5]
  simp [lit_u8 hv]
 unfold Program.keyLits
 rw [Tryz.underlying156]
 simp [c3, c1, List.range_succ, e x hx, e y hy, e z hz]
theorem key3_ex {x y z : Int} (hx : 0 ≤ x ∧ x ≤ 255) (hy : 0 ≤ y ∧ y ≤ 255) (hz : 0 ≤ z ∧ z ≤ 255) : ∃ kl, keyOf Tryz.prog 156 (key3 x y z) = some kl := by
 have hk : Tryz.prog.keyType 156 = true := by kernel_rfl
 have c3 : Tryz.prog.cellsOf 156 = 3 := by kernel_rfl
 have hf : (key3 x y z).formed Tryz.prog 156 = true := by
  simp [key3, Value.formed, Tryz.underlying156, c3]
 obtain ⟨m, hm⟩ : ∃ m, Tryz.prog.types.size = m + 1 := ⟨Tryz.prog.types.size - 1, by have := rowLz; have h : (156 : Nat) < Tryz.prog.types.size := this; omega⟩
 obtain ⟨l, hl⟩ := keyLits3 m hx hy hz
 refine ⟨.string (keyBytes l), ?_⟩
 unfold keyOf
 rw [Tryz.underlying156]
 simp only [hk, hf, Bool.and_self, if_true]
 rw [hm]
 show Option.map _ (Tryz.prog.keyLits (m + 2) 156 [.int .u8 x, .int .u8 y, .int .u8 z]) = _
 rw [hl]
 rfl
theorem key3_inj {x y z x' y' z' : Int} {kl : Lit} (h : keyOf Tryz.prog 156 (key3 x y z) = some kl) (h' : keyOf Tryz.prog 156 (key3 x' y' z') = some kl) : x = x' ∧ y = y' ∧ z = z' := by
 have := lawLz.inj h h'
 simpa [key3] using this
def LastD (D : DataW Unit) (bs : List Int) (i : Nat) : Prop :=
 ∀ x y z kl, keyOf Tryz.prog 156 (key3 x y z) = some kl → Maps.has D kl = decide (0 ≤ lastAt bs x y z i) ∧ (0 ≤ lastAt bs x y z i → D.atKey kl (.lit (.int .i64 0)) = .lit (.int .i64 (lastAt bs x y z i)))
theorem LastD.start (bs : List Int) : LastD (.map []) bs 0 := fun x y z kl _ => ⟨rfl, fun h => absurd h (by show ¬ (0 : Int) ≤ -1; omega)⟩
theorem LastD.short {D : DataW Unit} {bs : List Int} {i : Nat} (h : LastD D bs i) (hi : ¬ i + 3 ≤ bs.length) : LastD D bs (i + 1) := fun x y z kl hk => by
 have e : lastAt bs x y z (i + 1) = lastAt bs x y z i := by
  show (if i + 3 ≤ bs.length ∧ _ then _ else _) = _
  rw [if_neg (fun hh => hi hh.1)]
 rw [e]
 exact h x y z kl hk
theorem LastD.put {D : DataW Unit} {bs : List Int} {i : Nat} (h : LastD D bs i) (hD : IsMap D) (hi : i + 3 ≤ bs.length) {kl : Lit} (hk : keyOf Tryz.prog 156 (key3 (rd bs i) (rd bs (i + 1)) (rd bs (i + 2))) = some kl) : LastD (D.put kl (.lit (.int .i64 (i : Int)))) bs (i + 1) := fun x y z kl' hk' => by
 by_cases e : kl' = kl
 ·subst e
  obtain ⟨rfl, rfl, rfl⟩ := key3_inj hk hk'
  have e2 : lastAt bs (rd bs i) (rd bs (i + 1)) (rd bs (i + 2)) (i + 1) = i := if_pos ⟨hi, rfl, rfl, rfl⟩
  rw [e2, has_put_same hD (lawLz.key hk')]
  refine ⟨by simp, fun _ => atKey_put_same hD (lawLz.key hk') _ _⟩
 ·have e2 : lastAt bs x y z (i + 1) = lastAt bs x y z i := by
   show (if i + 3 ≤ bs.length ∧ _ then _ else _) = _
   rw [if_neg]
   rintro ⟨_, rfl, rfl, rfl⟩
   rw [hk] at hk'
   exact e (Option.some.inj hk').symm
  rw [e2, has_put_other e, atKey_put_other e]
  exact h x y z kl' hk'
def prevs (bs : List Int) (i : Nat) : List Int := (List.range i).map (prevAt bs)
theorem prevs_length (bs : List Int) (i : Nat) : (prevs bs i).length = i := by simp [prevs]
theorem rd_prevs {bs : List Int} {i j : Nat} (h : j < i) : rd (prevs bs i) j = prevAt bs j := by
 rw [rd_getElem (by rw [prevs_length]; exact h)]
 simp [prevs]
theorem prevs_succ (bs : List Int) (i : Nat) : prevs bs (i + 1) = prevs bs i ++ [prevAt bs i] := by simp [prevs, List.range_succ]
theorem lastAt_rng (bs : List Int) (x y z : Int) (i : Nat) : -1 ≤ lastAt bs x y z i ∧ lastAt bs x y z i < i := by
 rcases lastAt_cases bs x y z i with ⟨e, _⟩ | ⟨p, hp, e, _⟩ <;> rw [e] <;> omega
theorem prevAt_rng (bs : List Int) (i : Nat) : -1 ≤ prevAt bs i ∧ prevAt bs i < i := by
 unfold prevAt
 split
 ·exact lastAt_rng _ _ _ _ _
 ·omega
structure FinAt (w : World) (B f bm : Nat) (A : Option Addr) (len cap : Nat) (bs : List Int) (i : Nat) (pv : Value) : Prop where
 at' : w.heap[f]? = some (.cells #[.slice A len cap, .map (some bm), pv] 124 (0, 0))
 own : w.ownsRow B 3 1 pv i (ints .i64 (prevs bs i))
 map : ∃ D : DataW Unit, w.ownsMap Tryz.prog 156 (plainElem Tryz.prog 3) bm i D ∧ LastD D bs i
 rd : Rd w .u8 A len bs
 old : 0 < len → ∀ b o, A = some ⟨b, o, none⟩ → b < B
 bf : B ≤ f
 bm : B ≤ bm
theorem FinAt.lt {w : World} {B f bm : Nat} {A : Option Addr} {len cap : Nat} {bs : List Int} {i : Nat} {pv : Value} (H : FinAt w B f bm A len cap bs i pv) : f < w.heap.size := (Array.getElem?_eq_some_iff.1 H.at').1
theorem FinAt.c0 {w : World} {B f bm : Nat} {A : Option Addr} {len cap : Nat} {bs : List Int} {i : Nat} {pv : Value} (H : FinAt w B f bm A len cap bs i pv) : w.cell? ⟨f, 0, none⟩ = some (.slice A len cap) := by rw [cell_of_row w f 0 _ _ (0, 0) H.at']; rfl
theorem FinAt.c1 {w : World} {B f bm : Nat} {A : Option Addr} {len cap : Nat} {bs : List Int} {i : Nat} {pv : Value} (H : FinAt w B f bm A len cap bs i pv) : w.cell? ⟨f, 1, none⟩ = some (.map (some bm)) := by rw [cell_of_row w f 1 _ _ (0, 0) H.at']; rfl
theorem FinAt.c2 {w : World} {B f bm : Nat} {A : Option Addr} {len cap : Nat} {bs : List Int} {i : Nat} {pv : Value} (H : FinAt w B f bm A len cap bs i pv) : w.cell? ⟨f, 2, none⟩ = some pv := by rw [cell_of_row w f 2 _ _ (0, 0) H.at']; rfl
theorem map_below {w w1 : World} {P : Program} {k : TypeId} {R : Value → Option (DataW Unit × List MemPlace)} {b n : Nat} {D : DataW Unit} (h : w.ownsMap P k R b n D) (hb : Below w.heap.size w w1) : w1.ownsMap P k R b n D := by
 obtain ⟨es, clock, hes, r⟩ := h
 exact ⟨es, clock, (hb.block b (Array.getElem?_eq_some_iff.1 hes).1).trans hes, r⟩
theorem FinAt.below {w w1 : World} {B f bm : Nat} {A : Option Addr} {len cap : Nat} {bs : List Int} {i : Nat} {pv : Value} (H : FinAt w B f bm A len cap bs i pv) (hb : Below w.heap.size w w1) : FinAt w1 B f bm A len cap bs i pv :=
 ⟨(hb.block f H.lt).trans H.at', own_below H.own hb, by obtain ⟨D, h1, h2⟩ := H.map; exact ⟨D, map_below h1 hb, h2⟩, H.rd.below hb, H.old, H.bf, H.bm⟩
theorem Rd.belowB {w w1 : World} {k : IntKind} {A : Option Addr} {n B : Nat} {xs : List Int} (h : Rd w k A n xs) (hb : Below B w w1) (hA : 0 < n → ∀ b o, A = some ⟨b, o, none⟩ → b < B) : Rd w1 k A n xs :=
 ⟨h.1, fun hn => by obtain ⟨b, o, e, hc⟩ := h.2 hn; exact ⟨b, o, e, fun j hj => (hb.cell (p := ⟨b, o + j, none⟩) (hA hn b o e)).trans (hc j hj)⟩⟩
theorem map_fr {w w1 : World} {P : Program} {k : TypeId} {R : Value → Option (DataW Unit × List MemPlace)} {b n : Nat} {D : DataW Unit} {S : List (Option Nat)} (h : w.ownsMap P k R b n D) (hf : Fr w w1 S) (hS : ∀ o ∈ S, o ≠ some b) : w1.ownsMap P k R b n D := by
 obtain ⟨es, clock, hes, r⟩ := h
 exact ⟨es, clock, (hf.block b (Array.getElem?_eq_some_iff.1 hes).1 hS).trans hes, r⟩
theorem Fr.cellK {w w' : World} {S : List (Option Nat)} (h : Fr w w' S) {a : Addr} {v : Value} (hc : w.cell? a = some v) (ha : ∀ o ∈ S, o ≠ some a.block) : w'.cell? a = some v := by
 simp only [World.cell?] at hc ⊢
 rw [h.block a.block (World.block_lt_of_cell? w a hc) ha]
 exact hc
theorem map_isMap {w : World} {P : Program} {k : TypeId} {R : Value → Option (DataW Unit × List MemPlace)} {b n : Nat} {D : DataW Unit} (h : w.ownsMap P k R b n D) : IsMap D := by
 obtain ⟨_, _, _, _, _, e⟩ := h
 exact ⟨_, e⟩
theorem Fr.thenB {w w1 w2 : World} {S : List (Option Nat)} (h : Fr w w1 S) (b : Below w1.heap.size w1 w2) : Fr w w2 S := h.trans (Fr.ofBelow b []) (fun _ ho => by simp at ho)
theorem FinAt.bel {w w1 : World} {B f bm : Nat} {A : Option Addr} {len cap : Nat} {bs : List Int} {i : Nat} {pv : Value} (H : FinAt w B f bm A len cap bs i pv) (hf : Fr w w1 [some f, some bm, pv.ownBlock]) (hB : B ≤ w.heap.size) : Below B w w1 :=
 hf.below hB (fun o ho j e => by
  simp at ho
  rcases ho with rfl | rfl | rfl
  ·cases e; exact H.bf
  ·cases e; exact H.bm
  ·exact (H.own.lt j e).1)
theorem map_apart {w : World} {P : Program} {k : TypeId} {R : Value → Option (DataW Unit × List MemPlace)} {b n : Nat} {D : DataW Unit} (h : w.ownsMap P k R b n D) {base m size : Nat} {e : TypeId} {v : Value} {xs : List Value} (ho : w.ownsRow base e size v m xs) : v.ownBlock ≠ some b := by
 obtain ⟨es, clock, hes, _⟩ := h
 intro hk
 rcases ho.2 with ⟨rfl, _⟩ | ⟨g, cap, cur, rfl, _, hg, _⟩
 ·simp [Value.ownBlock] at hk
 ·simp [Value.ownBlock] at hk
  subst hk
  rw [hes] at hg
  cases hg
theorem map_ne {w : World} {P : Program} {k : TypeId} {R : Value → Option (DataW Unit × List MemPlace)} {b n : Nat} {D : DataW Unit} (h : w.ownsMap P k R b n D) {a : Addr} {v : Value} (hc : w.cell? a = some v) : a.block ≠ b := by
 obtain ⟨es, clock, hes, _⟩ := h
 intro e
 subst e
 simp [World.cell?, hes] at hc
end Go.Proofs.YtdbkbeojedndbaaGreatDoor
namespace Go.Proofs.YtdbkbeojedndbaaGreatDoor
open Go.RowKit

abbrev Tok := Int × Int × Int
def tokB (ts : List Tok) (j : Nat) : Int := (ts.getD j (0, 0, 0)).1
def tokL (ts : List Tok) (j : Nat) : Int := (ts.getD j (0, 0, 0)).2.1
def tokD (ts : List Tok) (j : Nat) : Int := (ts.getD j (0, 0, 0)).2.2
def Toks (w : World) (A : Option Addr) (n : Nat) (ts : List Tok) : Prop :=
 ts.length = n ∧ (0 < n → ∃ b o, A = some ⟨b, o, none⟩ ∧ ∀ j, j < n → w.cell? ⟨b, o + j * 3, none⟩ = some (.int .u8 (tokB ts j)) ∧ w.cell? ⟨b, o + j * 3 + 1, none⟩ = some (.int .i64 (tokL ts j)) ∧ w.cell? ⟨b, o + j * 3 + 2, none⟩ = some (.int .i64 (tokD ts j)))
theorem Toks.below {w w1 : World} {A : Option Addr} {n : Nat} {ts : List Tok} (h : Toks w A n ts) (hb : Below w.heap.size w w1) : Toks w1 A n ts :=
 ⟨h.1, fun hn => by obtain ⟨b, o, e, hc⟩ := h.2 hn; exact ⟨b, o, e, fun j hj => ⟨kept_cell hb (hc j hj).1, kept_cell hb (hc j hj).2.1, kept_cell hb (hc j hj).2.2⟩⟩⟩
def TokWf (ts : List Tok) (n : Nat) : Prop := ∀ j, j < n → (0 ≤ tokB ts j ∧ tokB ts j ≤ 255) ∧ (-9223372036854775808 ≤ tokL ts j ∧ tokL ts j ≤ 9223372036854775807) ∧ (-9223372036854775808 ≤ tokD ts j ∧ tokD ts j ≤ 9223372036854775807)

theorem list_choice {P : Nat → Tok → Prop} (n : Nat) (h : ∀ j, j < n → ∃ x, P j x) : ∃ l : List Tok, l.length = n ∧ ∀ j, j < n → P j (l.getD j (0, 0, 0)) := by
 have h' : ∀ j, ∃ x, j < n → P j x := fun j => by
  by_cases hj : j < n
  ·obtain ⟨x, hx⟩ := h j hj; exact ⟨x, fun _ => hx⟩
  ·exact ⟨(0, 0, 0), fun hh => absurd hh hj⟩
 have ⟨f, hf⟩ := Classical.axiomOfChoice h'
 refine ⟨(List.range n).map f, by simp, fun j hj => ?_⟩
 have : ((List.range n).map f).getD j (0, 0, 0) = f j := by simp [List.getD_eq_getElem?_getD, List.getElem?_range hj]
 rw [this]
 exact hf j hj
theorem i64_of_wf {n : Int} (h : (Lit.int .i64 n).wf = true) : -9223372036854775808 ≤ n ∧ n ≤ 9223372036854775807 := by
 simp [Lit.wf, IntKind.min, IntKind.max, IntKind.signed, IntKind.bits] at h
 omega
theorem toks_of_trod {H : Type} {enc : TypeId × Value → H} {P : Program} {w : World} {base : Nat} {sp : Nat → Bool} {held : Bool} {t e : TypeId} {f0 f1 f2 : Field} {v : Value} {d : DataW H} {p : List MemPlace}
  (ht : P.underlying t = some (.slice e)) (he : P.underlying e = some (.struct #[f0, f1, f2])) (o0 : f0.offset = 0) (o1 : f1.offset = 1) (o2 : f2.offset = 2) (k0 : P.underlying f0.type = some (.int .u8)) (k1 : P.underlying f1.type = some (.int .i64)) (k2 : P.underlying f2.type = some (.int .i64))
  (c0 : P.cellsOf f0.type = 1) (c1 : P.cellsOf f1.type = 1) (c2 : P.cellsOf f2.type = 1) (ce : P.cellsOf e = 3) (hv : ∃ A n c, v = .slice A n c)
  (h : DataW.Trod enc P w base sp held t v d p) :
  ∃ A n c ts, v = .slice A n c ∧ n ≤ maxLen ∧ Toks w A n ts ∧ TokWf ts n := by
 obtain ⟨fuel, hf⟩ := h
 obtain ⟨A, n, c, rfl⟩ := hv
 rcases DataW.trod_slice ht hf with ⟨hcs, _⟩ | ⟨a, len, cap, elems, rest, m, _, hcs, _, hb, hl, hm, hlen, hel, _, _⟩
 ·simp [Value.cells] at hcs
  obtain ⟨rfl, rfl, rfl⟩ := hcs
  exact ⟨none, 0, 0, [], rfl, by simp [maxLen], ⟨rfl, fun hh => by omega⟩, fun j hj => by omega⟩
 ·simp [Value.cells] at hcs
  obtain ⟨rfl, rfl, rfl⟩ := hcs
  obtain ⟨b, o, s⟩ := a
  have each : ∀ j, j < n → ∃ x : Tok, (w.cell? ((⟨b, o, s⟩ : Addr).add (j * 3)) = some (.int .u8 x.1) ∧ w.cell? (((⟨b, o, s⟩ : Addr).add (j * 3)).add 1) = some (.int .i64 x.2.1) ∧ w.cell? (((⟨b, o, s⟩ : Addr).add (j * 3)).add 2) = some (.int .i64 x.2.2)) ∧ (Lit.int .u8 x.1).wf = true ∧ (Lit.int .i64 x.2.1).wf = true ∧ (Lit.int .i64 x.2.2).wf = true := by
   intro j hj
   have hz := hel j hj
   rw [ce, List.getElem?_eq_getElem (show j < elems.length by omega)] at hz
   obtain ⟨cs, hcs, hz⟩ := Option.bind_eq_some_iff.1 hz
   obtain ⟨_, hcl, hcc⟩ := World.cells?_some hcs
   obtain ⟨xs, m', _, _, _, hxl, hx⟩ := DataW.trod_struct he hz
   have hxl3 : xs.length = 3 := by simpa using hxl
   match cs, hcl with
   | [y0, y1, y2], _ =>
    have g0 := hx 0 f0 rfl
    have g1 := hx 1 f1 rfl
    have g2 := hx 2 f2 rfl
    rw [List.getElem?_eq_getElem (by omega), o0, c0] at g0
    rw [List.getElem?_eq_getElem (by omega), o1, c1] at g1
    rw [List.getElem?_eq_getElem (by omega), o2, c2] at g2
    obtain ⟨n0, e0, _, q0⟩ := DataW.trod_int k0 g0
    obtain ⟨n1, e1, _, q1⟩ := DataW.trod_int k1 g1
    obtain ⟨n2, e2, _, q2⟩ := DataW.trod_int k2 g2
    simp at e0 e1 e2
    subst e0 e1 e2
    have a0 := hcc 0 (by omega)
    have a1 := hcc 1 (by omega)
    have a2 := hcc 2 (by omega)
    exact ⟨(n0, n1, n2), ⟨by simpa [Addr.add] using a0, by simpa using a1, by simpa using a2⟩, q0, q1, q2⟩
  obtain ⟨ts, htl, hts⟩ := list_choice n each
  refine ⟨_, n, c, ts, rfl, by omega, ⟨htl, fun hn => ?_⟩, fun j hj => ?_⟩
  ·have hs : s = none := by simpa [Addr.add] using World.cell?_spot (hts 0 hn).1.1
   subst hs
   refine ⟨b, o, rfl, fun j hj => ?_⟩
   have ad : ∀ (x k : Nat), (⟨b, x, none⟩ : Addr).add k = ⟨b, x + k, none⟩ := fun x k => by unfold Addr.add; split <;> simp_all
   have := (hts j hj).1
   rw [ad, ad, ad] at this
   exact this
  ·obtain ⟨_, q0, q1, q2⟩ := hts j hj
   exact ⟨u8_of_wf q0, i64_of_wf q1, i64_of_wf q2⟩
end Go.Proofs.YtdbkbeojedndbaaGreatDoor
