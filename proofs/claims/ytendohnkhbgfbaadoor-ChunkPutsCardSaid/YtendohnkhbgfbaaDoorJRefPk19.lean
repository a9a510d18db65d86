/-
  Texts joined into one file: LzM, LzW.
-/
import Derived.Test.YtendohnkhbgfbaaDoorJRefPk7
import Derived.Test.YtendohnkhbgfbaaDoorJRefPk1
import Derived.Laws.Cover3
import Derived.Maps.OwnSet
import Derived.DeepKeys4
import Derived.Test.YtendohnkhbgfbaaDoorJRefPk4
import Derived.Test.YtendohnkhbgfbaaDoorJRefPk2
import Derived.Test.YtendohnkhbgfbaaDoorJRefPk9
import Derived.IntWalk
import Derived.RegionTactic
import Derived.Deep.Cut
import Derived.Deep.CutRange
import Derived.Deep.CutBlock
import Derived.Deep.DeepCutAuto
namespace Go.Proofs.YtendohnkhbgfbaaDoor
open Go.RowKit Go.Maps

theorem laidOutLz : laidOutB Tryd.prog = true := by kernel_rfl
theorem rowLz : (187 : TypeId) < Tryd.prog.types.size := of_decide_eq_true (by kernel_rfl)
theorem wideLz : (match Tryd.prog.underlying 187 with | some (.array _ _) | some (.struct _) => true | _ => false) = true := by kernel_rfl
theorem deepLz : Tryd.prog.keyTypeAt 2 187 = true := by kernel_rfl
set_option maxRecDepth 100000 in
theorem lawLz0 : WideMaps.KeyLaw Tryd.prog 187 := deep_law_laid laidOutLz (m := 2) (by omega) rowLz deepLz wideLz
theorem lawLz : Keyed Tryd.prog 187 := Keyed.of_law lawLz0
theorem zeroLz (w : World) : (zeroValue 3).run Tryd.prog w = .ok (.int .i64 0) w := by kernel_rfl
def key3 (x y z : Int) : Value := .agg #[.int .u8 x, .int .u8 y, .int .u8 z]
theorem lit_u8 {x : Int} (h : 0 ≤ x ∧ x ≤ 255) : (Lit.int .u8 x).wf = true := by
 simp [Lit.wf, IntKind.min, IntKind.max, IntKind.signed, IntKind.bits]
 omega
theorem keyLits3 (m : Nat) {x y z : Int} (hx : 0 ≤ x ∧ x ≤ 255) (hy : 0 ≤ y ∧ y ≤ 255) (hz : 0 ≤ z ∧ z ≤ 255) : ∃ l, Tryd.prog.keyLits (m + 2) 187 [.int .u8 x, .int .u8 y, .int .u8 z] = some l := by
 have c3 : Tryd.prog.cellsOf 187 = 3 := by kernel_rfl
 have c1 : Tryd.prog.cellsOf 5 = 1 := by kernel_rfl
 have e : ∀ v : Int, 0 ≤ v ∧ v ≤ 255 → Tryd.prog.keyLits (m + 1) 5 [.int .u8 v] = some [.int .u8 v] := fun v hv => by
  unfold Program.keyLits
  rw [Tryd.underlying5]
  simp [lit_u8 hv]
 unfold Program.keyLits
 rw [Tryd.underlying187]
 simp [c3, c1, List.range_succ, e x hx, e y hy, e z hz]
theorem key3_ex {x y z : Int} (hx : 0 ≤ x ∧ x ≤ 255) (hy : 0 ≤ y ∧ y ≤ 255) (hz : 0 ≤ z ∧ z ≤ 255) : ∃ kl, keyOf Tryd.prog 187 (key3 x y z) = some kl := by
 have hk : Tryd.prog.keyType 187 = true := by kernel_rfl
 have c3 : Tryd.prog.cellsOf 187 = 3 := by kernel_rfl
 have hf : (key3 x y z).formed Tryd.prog 187 = true := by
  simp [key3, Value.formed, Tryd.underlying187, c3]
 obtain ⟨m, hm⟩ : ∃ m, Tryd.prog.types.size = m + 1 := ⟨Tryd.prog.types.size - 1, by have := rowLz; have h : (187 : Nat) < Tryd.prog.types.size := this; omega⟩
 obtain ⟨l, hl⟩ := keyLits3 m hx hy hz
 refine ⟨.string (keyBytes l), ?_⟩
 unfold keyOf
 rw [Tryd.underlying187]
 simp only [hk, hf, Bool.and_self, if_true]
 rw [hm]
 show Option.map _ (Tryd.prog.keyLits (m + 2) 187 [.int .u8 x, .int .u8 y, .int .u8 z]) = _
 rw [hl]
 rfl
theorem key3_inj {x y z x' y' z' : Int} {kl : Lit} (h : keyOf Tryd.prog 187 (key3 x y z) = some kl) (h' : keyOf Tryd.prog 187 (key3 x' y' z') = some kl) : x = x' ∧ y = y' ∧ z = z' := by
 have := lawLz.inj h h'
 simpa [key3] using this
def LastD (D : DataW Unit) (bs : List Int) (i : Nat) : Prop :=
 ∀ x y z kl, keyOf Tryd.prog 187 (key3 x y z) = some kl → Maps.has D kl = decide (0 ≤ lastAt bs x y z i) ∧ (0 ≤ lastAt bs x y z i → D.atKey kl (.lit (.int .i64 0)) = .lit (.int .i64 (lastAt bs x y z i)))
theorem LastD.start (bs : List Int) : LastD (.map []) bs 0 := fun x y z kl _ => ⟨rfl, fun h => absurd h (by show ¬ (0 : Int) ≤ -1; omega)⟩
theorem LastD.short {D : DataW Unit} {bs : List Int} {i : Nat} (h : LastD D bs i) (hi : ¬ i + 3 ≤ bs.length) : LastD D bs (i + 1) := fun x y z kl hk => by
 have e : lastAt bs x y z (i + 1) = lastAt bs x y z i := by
  show (if i + 3 ≤ bs.length ∧ _ then _ else _) = _
  rw [if_neg (fun hh => hi hh.1)]
 rw [e]
 exact h x y z kl hk
theorem LastD.put {D : DataW Unit} {bs : List Int} {i : Nat} (h : LastD D bs i) (hD : IsMap D) (hi : i + 3 ≤ bs.length) {kl : Lit} (hk : keyOf Tryd.prog 187 (key3 (rd bs i) (rd bs (i + 1)) (rd bs (i + 2))) = some kl) : LastD (D.put kl (.lit (.int .i64 (i : Int)))) bs (i + 1) := fun x y z kl' hk' => by
 by_cases e : kl' = kl
 ·subst e
  obtain ⟨rfl, rfl, rfl⟩ := key3_inj hk hk'
  have e2 : lastAt bs (rd bs i) (rd bs (i + 1)) (rd bs (i + 2)) (i + 1) = i := if_pos ⟨hi, rfl, rfl, rfl⟩
  rw [e2, has_put_same hD (lawLz.key hk')]
  refine ⟨by simp, fun _ => atKey_put_same hD (lawLz.key hk') _ _⟩
 ·have e2 : lastAt bs x y z (i + 1) = lastAt bs x y z i := by
   show (if i + 3 ≤ bs.length ∧ _ then _ else _) = _
   rw [if_neg]
   rintro ⟨_, rfl, rfl, rfl⟩
   rw [hk] at hk'
   exact e (Option.some.inj hk').symm
  rw [e2, has_put_other e, atKey_put_other e]
  exact h x y z kl' hk'
def prevs (bs : List Int) (i : Nat) : List Int := (List.range i).map (prevAt bs)
theorem prevs_length (bs : List Int) (i : Nat) : (prevs bs i).length = i := by simp [prevs]
theorem rd_prevs {bs : List Int} {i j : Nat} (h : j < i) : rd (prevs bs i) j = prevAt bs j := by
 rw [rd_getElem (by rw [prevs_length]; exact h)]
 simp [prevs]
theorem prevs_succ (bs : List Int) (i : Nat) : prevs bs (i + 1) = prevs bs i ++ [prevAt bs i] := by simp [prevs, List.range_succ]
theorem lastAt_rng (bs : List Int) (x y z : Int) (i : Nat) : -1 ≤ lastAt bs x y z i ∧ lastAt bs x y z i < i := by
 rcases lastAt_cases bs x y z i with ⟨e, _⟩ | ⟨p, hp, e, _⟩ <;> rw [e] <;> omega
theorem prevAt_rng (bs : List Int) (i : Nat) : -1 ≤ prevAt bs i ∧ prevAt bs i < i := by
 unfold prevAt
 split
 ·exact lastAt_rng _ _ _ _ _
 ·omega
structure FinAt (w : World) (B f bm : Nat) (A : Option Addr) (len cap : Nat) (bs : List Int) (i : Nat) (pv : Value) : Prop where
 at' : w.heap[f]? = some (.cells #[.slice A len cap, .map (some bm), pv] 143 (0, 0))
 own : w.ownsRow B 3 1 pv i (ints .i64 (prevs bs i))
 map : ∃ D : DataW Unit, w.ownsMap Tryd.prog 187 (plainElem Tryd.prog 3) bm i D ∧ LastD D bs i
 rd : Rd w .u8 A len bs
 old : 0 < len → ∀ b o, A = some ⟨b, o, none⟩ → b < B
 bf : B ≤ f
 bm : B ≤ bm
theorem FinAt.lt {w : World} {B f bm : Nat} {A : Option Addr} {len cap : Nat} {bs : List Int} {i : Nat} {pv : Value} (H : FinAt w B f bm A len cap bs i pv) : f < w.heap.size := (Array.getElem?_eq_some_iff.1 H.at').1
theorem FinAt.c0 {w : World} {B f bm : Nat} {A : Option Addr} {len cap : Nat} {bs : List Int} {i : Nat} {pv : Value} (H : FinAt w B f bm A len cap bs i pv) : w.cell? ⟨f, 0, none⟩ = some (.slice A len cap) := by rw [cell_of_row w f 0 _ _ (0, 0) H.at']; rfl
theorem FinAt.c1 {w : World} {B f bm : Nat} {A : Option Addr} {len cap : Nat} {bs : List Int} {i : Nat} {pv : Value} (H : FinAt w B f bm A len cap bs i pv) : w.cell? ⟨f, 1, none⟩ = some (.map (some bm)) := by rw [cell_of_row w f 1 _ _ (0, 0) H.at']; rfl
theorem FinAt.c2 {w : World} {B f bm : Nat} {A : Option Addr} {len cap : Nat} {bs : List Int} {i : Nat} {pv : Value} (H : FinAt w B f bm A len cap bs i pv) : w.cell? ⟨f, 2, none⟩ = some pv := by rw [cell_of_row w f 2 _ _ (0, 0) H.at']; rfl
theorem map_below {w w1 : World} {P : Program} {k : TypeId} {R : Value → Option (DataW Unit × List MemPlace)} {b n : Nat} {D : DataW Unit} (h : w.ownsMap P k R b n D) (hb : Below w.heap.size w w1) : w1.ownsMap P k R b n D := by
 obtain ⟨es, clock, hes, r⟩ := h
 exact ⟨es, clock, (hb.block b (Array.getElem?_eq_some_iff.1 hes).1).trans hes, r⟩
theorem FinAt.below {w w1 : World} {B f bm : Nat} {A : Option Addr} {len cap : Nat} {bs : List Int} {i : Nat} {pv : Value} (H : FinAt w B f bm A len cap bs i pv) (hb : Below w.heap.size w w1) : FinAt w1 B f bm A len cap bs i pv :=
 ⟨(hb.block f H.lt).trans H.at', own_below H.own hb, by obtain ⟨D, h1, h2⟩ := H.map; exact ⟨D, map_below h1 hb, h2⟩, H.rd.below hb, H.old, H.bf, H.bm⟩
theorem Rd.belowB {w w1 : World} {k : IntKind} {A : Option Addr} {n B : Nat} {xs : List Int} (h : Rd w k A n xs) (hb : Below B w w1) (hA : 0 < n → ∀ b o, A = some ⟨b, o, none⟩ → b < B) : Rd w1 k A n xs :=
 ⟨h.1, fun hn => by obtain ⟨b, o, e, hc⟩ := h.2 hn; exact ⟨b, o, e, fun j hj => (hb.cell (p := ⟨b, o + j, none⟩) (hA hn b o e)).trans (hc j hj)⟩⟩
theorem map_fr {w w1 : World} {P : Program} {k : TypeId} {R : Value → Option (DataW Unit × List MemPlace)} {b n : Nat} {D : DataW Unit} {S : List (Option Nat)} (h : w.ownsMap P k R b n D) (hf : Fr w w1 S) (hS : ∀ o ∈ S, o ≠ some b) : w1.ownsMap P k R b n D := by
 obtain ⟨es, clock, hes, r⟩ := h
 exact ⟨es, clock, (hf.block b (Array.getElem?_eq_some_iff.1 hes).1 hS).trans hes, r⟩
theorem Fr.cellK {w w' : World} {S : List (Option Nat)} (h : Fr w w' S) {a : Addr} {v : Value} (hc : w.cell? a = some v) (ha : ∀ o ∈ S, o ≠ some a.block) : w'.cell? a = some v := by
 simp only [World.cell?] at hc ⊢
 rw [h.block a.block (World.block_lt_of_cell? w a hc) ha]
 exact hc
theorem map_isMap {w : World} {P : Program} {k : TypeId} {R : Value → Option (DataW Unit × List MemPlace)} {b n : Nat} {D : DataW Unit} (h : w.ownsMap P k R b n D) : IsMap D := by
 obtain ⟨_, _, _, _, _, e⟩ := h
 exact ⟨_, e⟩
theorem Fr.thenB {w w1 w2 : World} {S : List (Option Nat)} (h : Fr w w1 S) (b : Below w1.heap.size w1 w2) : Fr w w2 S := h.trans (Fr.ofBelow b []) (fun _ ho => by simp at ho)
theorem FinAt.bel {w w1 : World} {B f bm : Nat} {A : Option Addr} {len cap : Nat} {bs : List Int} {i : Nat} {pv : Value} (H : FinAt w B f bm A len cap bs i pv) (hf : Fr w w1 [some f, some bm, pv.ownBlock]) (hB : B ≤ w.heap.size) : Below B w w1 :=
 hf.below hB (fun o ho j e => by
  simp at ho
  rcases ho with rfl | rfl | rfl
  ·cases e; exact H.bf
  ·cases e; exact H.bm
  ·exact (H.own.lt j e).1)
theorem map_apart {w : World} {P : Program} {k : TypeId} {R : Value → Option (DataW Unit × List MemPlace)} {b n : Nat} {D : DataW Unit} (h : w.ownsMap P k R b n D) {base m size : Nat} {e : TypeId} {v : Value} {xs : List Value} (ho : w.ownsRow base e size v m xs) : v.ownBlock ≠ some b := by
 obtain ⟨es, clock, hes, _⟩ := h
 intro hk
 rcases ho.2 with ⟨rfl, _⟩ | ⟨g, cap, cur, rfl, _, hg, _⟩
 ·simp [Value.ownBlock] at hk
 ·simp [Value.ownBlock] at hk
  subst hk
  rw [hes] at hg
  cases hg
theorem map_ne {w : World} {P : Program} {k : TypeId} {R : Value → Option (DataW Unit × List MemPlace)} {b n : Nat} {D : DataW Unit} (h : w.ownsMap P k R b n D) {a : Addr} {v : Value} (hc : w.cell? a = some v) : a.block ≠ b := by
 obtain ⟨es, clock, hes, _⟩ := h
 intro e
 subst e
 simp [World.cell?, hes] at hc
end Go.Proofs.YtendohnkhbgfbaaDoor
namespace Go.Proofs.YtendohnkhbgfbaaDoor
open Go.RowKit Go.Maps

set_option maxHeartbeats 1000000 in
theorem same_calls (f : Nat) (A : Option Addr) (len cap p q : Nat) (bs : List Int) (w : World) (c0 : w.cell? ⟨f, 0, none⟩ = some (.slice A len cap)) (hR : Rd w .u8 A len bs) (hlen : len ≤ 1000000) (hpq : p < q) (hq : q < len) :
  Calls Tryd.prog 112 #[.pointer (some ⟨f, 0, none⟩), .int .i64 p, .int .i64 q] w fun e w' => e = .returned (.int .i64 (sameN bs p q)) ∧ Below w.heap.size w w' := by
 have Hl := Lib.hid hR.1
 obtain ⟨b, o, rfl, hc⟩ := hR.2 (by omega)
 have Hc := Lib.hid hc
 have C0 := Lib.hid c0
 clear hR hc c0
 go_enter Tryd.func112, Tryd.ntmps112
 go_wp2
 go_loopw [7] (fun k wr => ∃ m : Nat, m ≤ 258 ∧ k = .int .i64 m ∧ Hid (sameFrom bs p q (258 - m) m = sameN bs p q) ∧ Below w.heap.size w wr) (fun k _ => 258 - (intOf k).toNat)
 case atStart => exact ⟨0, by omega, rfl, rfl, Below.refl _ _⟩
 case round =>
  obtain ⟨m, hm, rfl, HS, hbel⟩ := hrel
  have Hbel := Lib.hid hbel
  have z0 := kept_cell hbel C0.out
  clear hbel
  have s1 : IntKind.i64.wrap ((p : Int) + m) = p + m := IntWalk.i64_in _ (by omega)
  have s2 : ((p : Int) + m).toNat = p + m := by omega
  have s3 : 0 ≤ (p : Int) + m := by omega
  have r1 : IntKind.i64.wrap ((q : Int) + m) = q + m := IntWalk.i64_in _ (by omega)
  have r2 : ((q : Int) + m).toNat = q + m := by omega
  have r3 : 0 ≤ (q : Int) + m := by omega
  by_cases h258 : m < 258
  ·have d0 : decide ((m : Int) < 258) = true := by simp; omega
   have hS := HS.out
   rw [show 258 - m = (257 - m) + 1 from by omega] at hS
   by_cases hlt : q + m < len
   ·have z1 := kept_cell Hbel.out (Hc.out (p + m) (by omega))
    have z2 := kept_cell Hbel.out (Hc.out (q + m) hlt)
    have s4 : decide ((q : Int) + m < len) = true := by simp; omega
    have s5 : (q : Int) + m < len := by omega
    have s6 : (p : Int) + m < len := by omega
    cases he : (rd bs (p + m) == rd bs (q + m))
    ·have e2 : sameFrom bs p q (257 - m + 1) m = m := by
      unfold sameFrom
      rw [if_neg (fun hh => by simp at he; exact he hh.2)]
     rw [e2] at hS
     have HS2 := Lib.hid hS
     clear hS e2
     go_wp2
     go_quiet (fail)
     go_wp2
     go_ret
     exact ⟨by rw [← HS2.out]; rfl, Hbel.out.trans ⟨rfl, rfl, rfl, Nat.le_refl _, fun _ _ => rfl⟩⟩
    ·have e2 : sameFrom bs p q (257 - m + 1) m = sameFrom bs p q (257 - m) (m + 1) := by
      conv => lhs; unfold sameFrom
      rw [if_pos ⟨by rw [Hl.out]; exact hlt, by simpa using he⟩]
     rw [e2] at hS
     have HS2 := Lib.hid hS
     clear hS e2
     go_wp2
     go_quiet (fail)
     go_wp2
     go_roundw
     case rel => exact ⟨m + 1, by omega, by go_num, by rw [show 258 - (m + 1) = 257 - m from by omega]; exact HS2.out, Hbel.out.trans ⟨rfl, rfl, rfl, Nat.le_refl _, fun _ _ => rfl⟩⟩
     case measure => simp [intOf]; omega
   ·have s4 : decide ((q : Int) + m < len) = false := by simp; omega
    have e2 : sameFrom bs p q (257 - m + 1) m = m := by
     unfold sameFrom
     rw [if_neg (fun hh => by rw [Hl.out] at hh; exact hlt hh.1)]
    rw [e2] at hS
    have HS2 := Lib.hid hS
    clear hS e2
    go_wp2
    go_quiet (fail)
    go_wp2
    go_ret
    exact ⟨by rw [← HS2.out]; rfl, Hbel.out.trans ⟨rfl, rfl, rfl, Nat.le_refl _, fun _ _ => rfl⟩⟩
  ·obtain rfl : m = 258 := by omega
   have d0 : decide (((258 : Nat) : Int) < 258) = false := by decide
   have hS := HS.out
   have e2 : sameFrom bs p q (258 - 258) 258 = 258 := rfl
   rw [e2] at hS
   have HS2 := Lib.hid hS
   clear hS e2
   go_wp2
   go_quiet (fail)
   go_wp2
   go_ret
   exact ⟨by rw [← HS2.out]; rfl, Hbel.out.trans ⟨rfl, rfl, rfl, Nat.le_refl _, fun _ _ => rfl⟩⟩
theorem FinAt.mid {w w1 : World} {B f bm : Nat} {A : Option Addr} {len cap : Nat} {bs : List Int} {i : Nat} {pv : Value} (H : FinAt w B f bm A len cap bs i pv) (hf : Fr w w1 [pv.ownBlock]) :
  w1.heap[f]? = some (.cells #[.slice A len cap, .map (some bm), pv] 143 (0, 0)) ∧ (∃ D : DataW Unit, w1.ownsMap Tryd.prog 187 (plainElem Tryd.prog 3) bm i D ∧ LastD D bs i) := by
 have hap := own_apart H.at' (by decide) H.own
 refine ⟨(hf.block f H.lt (fun o ho e => ?_)).trans H.at', ?_⟩
 ·simp at ho
  subst ho
  exact hap f e rfl
 ·obtain ⟨D, h1, h2⟩ := H.map
  exact ⟨D, map_fr h1 hf (fun o ho e => by simp at ho; subst ho; exact map_apart h1 H.own e), h2⟩
theorem FinAt.fin {w W3 W4 : World} {B f bm g pc : Nat} {A : Option Addr} {len cap : Nat} {bs : List Int} {i : Nat} {pv : Value} {D : DataW Unit} {kl : Lit} (H : FinAt w B f bm A len cap bs i pv) (hrow : W3.heap[f]? = some (.cells #[.slice A len cap, .map (some bm), .slice (some ⟨g, 0, none⟩) (i + 1) pc] 143 (0, 0)))
  (hown : W3.ownsRow B 3 1 (.slice (some ⟨g, 0, none⟩) (i + 1) pc) (i + 1) (ints .i64 (prevs bs (i + 1)))) (hD : W3.ownsMap Tryd.prog 187 (plainElem Tryd.prog 3) bm i D) (hbl : Fr w W3 [some f, some bm, pv.ownBlock]) (hB : B ≤ w.heap.size)
  (hD4 : W4.ownsMap Tryd.prog 187 (plainElem Tryd.prog 3) bm (i + 1) (D.put kl (.lit (.int .i64 (i : Int))))) (hg4 : W3.drew.grownBy W4 (some bm)) (hL : LastD (D.put kl (.lit (.int .i64 (i : Int)))) bs (i + 1)) :
  FinAt W4 B f bm A len cap bs (i + 1) (.slice (some ⟨g, 0, none⟩) (i + 1) pc) ∧ Fr w W4 [some f, some bm, pv.ownBlock] := by
 have hfr : Fr W3 W4 [some bm] := ((Fr.refl W3 [some bm]).drew).trans (Fr.ofGrown hg4) (fun o ho => .inl ho)
 have hf4 : Fr w W4 [some f, some bm, pv.ownBlock] := hbl.trans hfr (fun o ho => by simp at ho; subst ho; exact .inl (by simp))
 have hb4 := H.bel hf4 hB
 have hc0 := cell_of_row W3 f 0 _ _ (0, 0) hrow
 have hfb : f ≠ bm := map_ne (a := ⟨f, 0, none⟩) hD hc0
 refine ⟨⟨(hfr.block f (Array.getElem?_eq_some_iff.1 hrow).1 (fun o ho e => ?_)).trans hrow, own_fr hown hfr (fun o ho k hk e => ?_), ⟨_, hD4, hL⟩, H.rd.belowB hb4 H.old, H.old, H.bf, H.bm⟩, hf4⟩
 ·simp at ho
  subst ho
  cases e
  exact hfb rfl
 ·simp at ho
  subst ho
  cases e
  exact map_apart hD hown hk
set_option maxHeartbeats 2000000 in
set_option maxRecDepth 100000 in
theorem enter_calls (B f bm i : Nat) (A : Option Addr) (len cap : Nat) (bs : List Int) (pv : Value) (w : World) (H : FinAt w B f bm A len cap bs i pv) (hb : ∀ j, j < len → 0 ≤ rd bs j ∧ rd bs j ≤ 255) (hlen : len ≤ 1000000) (hi : i < len) (hcap : len ≤ cap) (hB : B ≤ w.heap.size) :
  Calls Tryd.prog 86 #[.pointer (some ⟨f, 0, none⟩), .int .i64 i] w fun e w' => ∃ pv', e = .returned (.tuple #[]) ∧ FinAt w' B f bm A len cap bs (i + 1) pv' ∧ Fr w w' [some f, some bm, pv.ownBlock] := by
 have HH := Lib.hid H
 have c2 := H.c2
 have hl : bs.length = len := H.rd.1
 obtain ⟨b, o, rfl, hc⟩ := H.rd.2 (by omega)
 have Hc := Lib.hid hc
 have Hl := Lib.hid hl
 have Hb := Lib.hid hb
 clear H hc hl hb
 go_enter Tryd.func86, Tryd.ntmps86
 go_upto_region 1 with (first | (at_builtin; refine wpList_app3 rfl _ _ rfl elIntN HH.out.own rfl rfl (by simp) rfl rfl (by omega) hB ?_; intro g pc w1 hown1 hfr1 hg1 hlt1; obtain ⟨hrow1, D, hD1, hL1⟩ := HH.out.mid hfr1; have q2 := cell_of_row w1 f 2 _ _ (0, 0) hrow1; have fz2 := frozen_of_row w1 f 2 _ _ hrow1; simp only [List.getElem?_toArray] at q2; have Hrow1 := Lib.hid hrow1; have HD1 := Lib.hid hD1; have HL1 := Lib.hid hL1; have Hown1 := Lib.hid hown1; have Hfr1 := Lib.hid hfr1; clear hrow1 hD1 hL1 hown1 hfr1) | fail)
 obtain ⟨W1, hW1⟩ : ∃ W, W = w1.setCell ⟨f, 2, none⟩ (.slice (some ⟨g, 0, none⟩) (i + 1) pc) := ⟨_, rfl⟩
 rw [← hW1]
 have hne : f ≠ g := fun e => by
  have h1 := own_apart Hrow1.out (by decide) Hown1.out
  exact h1 g rfl (by rw [e])
 have hrow2 : W1.heap[f]? = some (.cells #[.slice (some ⟨b, o, none⟩) len cap, .map (some bm), .slice (some ⟨g, 0, none⟩) (i + 1) pc] 143 (0, 0)) := by
  rw [hW1]
  exact heap_setCell_same w1 f 2 _ _ _ Hrow1.out
 have hown2 : W1.ownsRow B 3 1 (.slice (some ⟨g, 0, none⟩) (i + 1) pc) (i + 1) (ints .i64 (prevs bs i ++ [-1])) := by
  rw [hW1, ints_append]
  exact ownsRow_setCell_other (a := ⟨f, 2, none⟩) Hown1.out (by simpa [Value.ownBlock] using hne.symm) _
 have hD2 : W1.ownsMap Tryd.prog 187 (plainElem Tryd.prog 3) bm i D := by
  rw [hW1]
  refine map_fr HD1.out ((Fr.refl w1 [some f]).set _ _ (.inl (by simp))) (fun o ho e => ?_)
  simp at ho
  subst ho
  cases e
  exact map_ne HD1.out q2 rfl
 have hbl : Fr w W1 [some f, some bm, pv.ownBlock] := by
  rw [hW1]
  exact (Hfr1.out.mono (fun o ho => by simp at ho; subst ho; simp)).set ⟨f, 2, none⟩ _ (.inl (by simp))
 have hsz := hbl.size
 have Hrow2 := Lib.hid hrow2
 have Hown2 := Lib.hid hown2
 have HD2 := Lib.hid hD2
 have Hbl := Lib.hid hbl
 have Hne := Lib.hid hne
 have Hg1 := Lib.hid hg1
 have p0 := cell_of_row W1 f 0 _ _ (0, 0) hrow2
 have p1 := cell_of_row W1 f 1 _ _ (0, 0) hrow2
 have p2 := cell_of_row W1 f 2 _ _ (0, 0) hrow2
 simp only [List.getElem?_toArray, List.getElem?_cons_succ, List.getElem?_cons_zero] at p0 p1 p2
 clear hW1 hne hrow2 hown2 hD2 hbl q2 fz2 Hrow1 HD1 Hown1 Hfr1 hg1 hlt1 c2
 by_cases hs : i + 3 ≤ len
 ·have hrd := HH.out.rd.belowB (HH.out.bel Hbl.out hB) HH.out.old
  obtain ⟨_, _, e9, hc2⟩ := hrd.2 (by omega)
  cases e9
  have y0 := hc2 i (by omega)
  have y1 := hc2 (i + 1) (by omega)
  have y2 := hc2 (i + 2) (by omega)
  obtain ⟨k0, hk0⟩ : ∃ k, k = rd bs i := ⟨_, rfl⟩
  obtain ⟨k1, hk1⟩ : ∃ k, k = rd bs (i + 1) := ⟨_, rfl⟩
  obtain ⟨k2, hk2⟩ : ∃ k, k = rd bs (i + 2) := ⟨_, rfl⟩
  rw [← hk0] at y0
  rw [← hk1] at y1
  rw [← hk2] at y2
  have hat : ∀ w, (Instr.arrayAt 187 (.slice (some ⟨b, o + i, none⟩) 3 (cap - i))).run Tryd.prog w = .ok (.pointer (some ⟨b, o + i, none⟩)) w := fun w => run_arrayAt w _ _ 3 _ _ _ Tryd.underlying187 (Nat.le_refl _)
  rw [← Nat.add_assoc] at y1 y2
  clear hc2 hrd
  have Hk0 := Lib.hid hk0
  have Hk1 := Lib.hid hk1
  have Hk2 := Lib.hid hk2
  clear hk0 hk1 hk2
  have hLk := HL1.out k0 k1 k2
  have hbk0 := Hb.out i (by omega)
  have hbk1 := Hb.out (i + 1) (by omega)
  have hbk2 := Hb.out (i + 2) (by omega)
  rw [← Hk0.out] at hbk0
  rw [← Hk1.out] at hbk1
  rw [← Hk2.out] at hbk2
  obtain ⟨kl, hkl⟩ := key3_ex hbk0 hbk1 hbk2
  obtain ⟨hhas, hval⟩ := hLk kl hkl
  have hpa : prevAt bs i = lastAt bs k0 k1 k2 i := by
   unfold prevAt
   rw [if_pos (by rw [Hl.out]; exact hs), ← Hk0.out, ← Hk1.out, ← Hk2.out]
  have Hpa := Lib.hid hpa
  have hla := lastAt_rng bs k0 k1 k2 i
  obtain ⟨la, hlae⟩ : ∃ la, la = lastAt bs k0 k1 k2 i := ⟨_, rfl⟩
  rw [← hlae] at hhas hval hla Hpa
  clear hpa hLk hlae hbk0 hbk1 hbk2
  go_upto_region 3 with fail
  obtain ⟨W2, hW2⟩ : ∃ W, W = W1.alloc (.cells #[.int .u8 k0, .int .u8 k1, .int .u8 k2] 187) := ⟨_, rfl⟩
  obtain ⟨kb, hkb⟩ : ∃ k, k = W1.heap.size := ⟨_, rfl⟩
  rw [← hW2, ← hkb]
  have hn2 : Below W1.heap.size W1 W2 := by rw [hW2]; exact (Below.refl _ _).alloc (Nat.le_refl _) _
  have hkrow : W2.heap[kb]? = some (.cells #[.int .u8 k0, .int .u8 k1, .int .u8 k2] 187 (0, 0)) := by rw [hW2, hkb]; exact heap_alloc_new W1 _
  have x0 := cell_of_row W2 kb 0 _ _ (0, 0) hkrow
  have x1 := cell_of_row W2 kb 1 _ _ (0, 0) hkrow
  have x2 := cell_of_row W2 kb 2 _ _ (0, 0) hkrow
  simp only [List.getElem?_toArray, List.getElem?_cons_succ, List.getElem?_cons_zero] at x0 x1 x2
  have p0 := kept_cell hn2 p0
  have p1 := kept_cell hn2 p1
  have p2 := kept_cell hn2 p2
  have HD3 := Lib.hid (map_below HD2.out hn2)
  have Hown3 := Lib.hid (own_below Hown2.out hn2)
  have Hrow3 := Lib.hid ((hn2.block f (Array.getElem?_eq_some_iff.1 Hrow2.out).1).trans Hrow2.out)
  have Hbl3 := Lib.hid (Hbl.out.thenB hn2)
  have Hkrow := Lib.hid hkrow
  have hkB : Hid (B ≤ kb) := by rw [hkb]; exact Nat.le_trans hB hsz
  have hpl : (prevs bs i).length = i := prevs_length bs i
  have zg := Hown3.out.cellAt i (by omega)
  rw [ints_get (by rw [List.length_append, hpl]; simp)] at zg
  have fg := Hown3.out.frozenAt i
  obtain ⟨yg, hyg⟩ : ∃ y, y = rd (prevs bs i ++ [-1]) i := ⟨_, rfl⟩
  rw [← hyg] at zg
  obtain ⟨v, ps, hrun, hv⟩ := (map_below HD3.out (Below.refl _ _).drew).look_ok lawLz Tryd.underlying141 (zeroLz _) (plainElem_int Tryd.underlying3 (by decide)) hkl
  obtain ⟨c, rfl, hc, _⟩ := plainElem_int_inv Tryd.underlying3 hv
  rw [hhas] at hrun
  simp only [key3] at hrun
  have Hgk : Hid (g ≠ kb) := fun e => by
   have h1 := (Hown2.out.lt g rfl).2
   omega
  clear hW2 hkb hn2 hkrow hpl hyg y0 y1 y2 HD2 Hown2 Hrow2 Hbl hat hhas
  by_cases hla0 : 0 ≤ la
  ·have hc2 := hval hla0
   have hcl : c = la := by
    have h1 := (congrArg Prod.fst hc).symm.trans hc2
    simpa using h1
   rw [hcl, decide_eq_true hla0] at hrun
   clear hval hc hcl hc2 hv
   go_region
   go_upto_region 6 with fail
   obtain ⟨W3, hW3⟩ : ∃ W, W = (W2.setCell ⟨g, i, none⟩ (.int .i64 la)).drew := ⟨_, rfl⟩
   rw [← hW3]
   have hfr3 : Fr W2 W3 [some g] := by rw [hW3]; exact ((Fr.refl W2 [some g]).set ⟨g, i, none⟩ _ (.inl (by simp))).drew
   have hS : ∀ k, k ≠ g → ∀ o ∈ [some g], o ≠ some k := fun k hk o ho e => by simp at ho; subst ho; cases e; exact hk rfl
   have hrow4 := (hfr3.block f (Array.getElem?_eq_some_iff.1 Hrow3.out).1 (hS f Hne.out)).trans Hrow3.out
   have x0 := hfr3.cellK x0 (hS kb Hgk.out.symm)
   have x1 := hfr3.cellK x1 (hS kb Hgk.out.symm)
   have x2 := hfr3.cellK x2 (hS kb Hgk.out.symm)
   have p1 := hfr3.cellK p1 (hS f Hne.out)
   have hD4 := map_fr HD3.out hfr3 (hS bm (fun e => map_apart HD3.out Hown3.out (by rw [e]; rfl)))
   have hown4 : W3.ownsRow B 3 1 (.slice (some ⟨g, 0, none⟩) (i + 1) pc) (i + 1) (ints .i64 (prevs bs (i + 1))) := by
    rw [hW3, prevs_succ, Hpa.out]
    have h1 := own_store Hown3.out i (.int .i64 la)
    rw [← ints_set] at h1
    have e1 : (prevs bs i ++ [-1]).set i la = prevs bs i ++ [la] := by
     rw [List.set_append_right _ _ (by rw [prevs_length]; exact Nat.le_refl _), prevs_length, Nat.sub_self]
     rfl
    rw [e1] at h1
    exact ⟨h1.1, h1.2⟩
   have hbl4 : Fr w W3 [some f, some bm, pv.ownBlock] := Hbl3.out.trans hfr3 (fun o ho => by simp at ho; subst ho; rcases Hg1.out with h1 | h1; exact .inl (by simp [h1]); exact .inr (fun j e => by cases e; exact h1))
   obtain ⟨W4, hrun4, hD5, hg5⟩ := (map_below hD4 (Below.refl _ _).drew).update lawLz Tryd.underlying141 (by unfold maxLen; omega) hkl (plainElem_int Tryd.underlying3 (a := (i : Int)) (WalkArith.wf_i64 (by omega)))
   simp only [key3] at hrun4
   have HF := Lib.hid (HH.out.fin hrow4 hown4 hD4 hbl4 hB hD5 hg5 (HL1.out.put (map_isMap HD3.out) (by rw [Hl.out]; exact hs) (by rw [← Hk0.out, ← Hk1.out, ← Hk2.out]; exact hkl)))
   clear hW3 hfr3 hS hrow4 hD4 hown4 hbl4 hD5 hg5 hrun Hrow3 Hown3 HD3
   go_region
   go_wp2
   go_end0
   exact ⟨_, rfl, HF.out.1, HF.out.2⟩
  ·rw [decide_eq_false hla0] at hrun
   clear hval hc hv
   go_region
   go_upto_region 6 with fail
   obtain ⟨W3, hW3⟩ : ∃ W, W = W2.drew := ⟨_, rfl⟩
   rw [← hW3]
   have hfr3 : Fr W2 W3 [some g] := by rw [hW3]; exact (Fr.refl W2 [some g]).drew
   have hS : ∀ k, k ≠ g → ∀ o ∈ [some g], o ≠ some k := fun k hk o ho e => by simp at ho; subst ho; cases e; exact hk rfl
   have hrow4 := (hfr3.block f (Array.getElem?_eq_some_iff.1 Hrow3.out).1 (hS f Hne.out)).trans Hrow3.out
   have x0 := hfr3.cellK x0 (hS kb Hgk.out.symm)
   have x1 := hfr3.cellK x1 (hS kb Hgk.out.symm)
   have x2 := hfr3.cellK x2 (hS kb Hgk.out.symm)
   have p1 := hfr3.cellK p1 (hS f Hne.out)
   have hD4 := map_fr HD3.out hfr3 (hS bm (fun e => map_apart HD3.out Hown3.out (by rw [e]; rfl)))
   have hown4 : W3.ownsRow B 3 1 (.slice (some ⟨g, 0, none⟩) (i + 1) pc) (i + 1) (ints .i64 (prevs bs (i + 1))) := by
    rw [hW3, prevs_succ, Hpa.out, show la = -1 by omega]
    exact ⟨Hown3.out.1, Hown3.out.2⟩
   have hbl4 : Fr w W3 [some f, some bm, pv.ownBlock] := Hbl3.out.trans hfr3 (fun o ho => by simp at ho; subst ho; rcases Hg1.out with h1 | h1; exact .inl (by simp [h1]); exact .inr (fun j e => by cases e; exact h1))
   obtain ⟨W4, hrun4, hD5, hg5⟩ := (map_below hD4 (Below.refl _ _).drew).update lawLz Tryd.underlying141 (by unfold maxLen; omega) hkl (plainElem_int Tryd.underlying3 (a := (i : Int)) (WalkArith.wf_i64 (by omega)))
   simp only [key3] at hrun4
   have HF := Lib.hid (HH.out.fin hrow4 hown4 hD4 hbl4 hB hD5 hg5 (HL1.out.put (map_isMap HD3.out) (by rw [Hl.out]; exact hs) (by rw [← Hk0.out, ← Hk1.out, ← Hk2.out]; exact hkl)))
   clear hW3 hfr3 hS hrow4 hD4 hown4 hbl4 hD5 hg5 hrun Hrow3 Hown3 HD3
   go_region
   go_wp2
   go_end0
   exact ⟨rfl, ⟨_, HF.out.1⟩, HF.out.2⟩
 ·have hpa : prevAt bs i = -1 := by
   unfold prevAt
   rw [if_neg (by rw [Hl.out]; exact hs)]
  have Hpa := Lib.hid hpa
  clear hpa
  go_wp2
  refine bodyPost_ret (v := .tuple #[]) (results_none (by kernel_rfl) _ _ _) rfl ⟨_, rfl, ⟨Hrow2.out, ?_, ⟨D, HD2.out.mono (Nat.le_succ _), HL1.out.short (by rw [Hl.out]; exact hs)⟩, HH.out.rd.belowB (HH.out.bel Hbl.out hB) HH.out.old, HH.out.old, HH.out.bf, HH.out.bm⟩, Hbl.out⟩
  rw [prevs_succ, Hpa.out]
  exact Hown2.out
set_option maxHeartbeats 2000000 in
set_option maxRecDepth 100000 in
theorem find_calls (B f bm i : Nat) (A : Option Addr) (len cap : Nat) (bs : List Int) (pv : Value) (w : World) (H : FinAt w B f bm A len cap bs i pv) (hb : ∀ j, j < len → 0 ≤ rd bs j ∧ rd bs j ≤ 255) (hlen : len ≤ 1000000) (hi : i < len) (hcap : len ≤ cap) :
  Calls Tryd.prog 85 #[.pointer (some ⟨f, 0, none⟩), .int .i64 i] w fun e w' => e = .returned (.tuple #[.int .i64 (cl (bestM bs i)).1, .int .i64 (cl (bestM bs i)).2]) ∧ Below w.heap.size w w' := by
 have HH := Lib.hid H
 have p0 := H.c0
 have p1 := H.c1
 have p2 := H.c2
 have hl : bs.length = len := H.rd.1
 obtain ⟨b, o, rfl, hc⟩ := H.rd.2 (by omega)
 have Hc := Lib.hid hc
 have Hl := Lib.hid hl
 have Hb := Lib.hid hb
 clear H hc hl hb
 by_cases hs : i + 3 ≤ len
 ·have y0 := Hc.out i (by omega)
  have y1 := Hc.out (i + 1) (by omega)
  have y2 := Hc.out (i + 2) (by omega)
  have hbk0 := Hb.out i (by omega)
  have hbk1 := Hb.out (i + 1) (by omega)
  have hbk2 := Hb.out (i + 2) (by omega)
  rw [← Nat.add_assoc] at y1 y2
  obtain ⟨D, hD, hL⟩ := HH.out.map
  have HS := Lib.hid (Find.start bs i)
  obtain ⟨k0, hk0⟩ : ∃ k, k = rd bs i := ⟨_, rfl⟩
  obtain ⟨k1, hk1⟩ : ∃ k, k = rd bs (i + 1) := ⟨_, rfl⟩
  obtain ⟨k2, hk2⟩ : ∃ k, k = rd bs (i + 2) := ⟨_, rfl⟩
  rw [← hk0] at y0 hbk0 HS
  rw [← hk1] at y1 hbk1 HS
  rw [← hk2] at y2 hbk2 HS
  obtain ⟨kl, hkl⟩ := key3_ex hbk0 hbk1 hbk2
  obtain ⟨hhas, hval⟩ := hL k0 k1 k2 kl hkl
  obtain ⟨v, ps, hrun, hv⟩ := (map_below hD (Below.refl _ _).drew).look_ok lawLz Tryd.underlying141 (zeroLz _) (plainElem_int Tryd.underlying3 (by decide)) hkl
  obtain ⟨c, rfl, hc, _⟩ := plainElem_int_inv Tryd.underlying3 hv
  rw [hhas] at hrun
  simp only [key3] at hrun
  have hla := lastAt_rng bs k0 k1 k2 i
  obtain ⟨la, hlae⟩ : ∃ la, la = lastAt bs k0 k1 k2 i := ⟨_, rfl⟩
  rw [← hlae] at hhas hval hla hrun HS
  have hat : ∀ w, (Instr.arrayAt 187 (.slice (some ⟨b, o + i, none⟩) 3 (cap - i))).run Tryd.prog w = .ok (.pointer (some ⟨b, o + i, none⟩)) w := fun w => run_arrayAt w _ _ 3 _ _ _ Tryd.underlying187 (Nat.le_refl _)
  have Hbest : Hid ((cl (bestM bs i)).1 ≤ 258) := by
   have h1 := (bestTo_le bs i (min i 32768)).1
   show (cl (bestM bs i)).1 ≤ 258
   unfold cl
   split
   ·decide
   ·exact h1
  have s18 : decide ((len : Int) < (i : Int) + 3) = false := by simp; omega
  clear hk0 hk1 hk2 hlae hL hhas hbk0 hbk1 hbk2 hD
  go_enter Tryd.func85, Tryd.ntmps85
  by_cases hla0 : 0 ≤ la
  ·have hc2 := hval hla0
   have hcl : c = la := by
    have h1 := (congrArg Prod.fst hc).symm.trans hc2
    simpa using h1
   rw [hcl, decide_eq_true hla0] at hrun
   clear hval hc hcl hc2 hv
   go_wp2
   go_region
   clear hrun hat y0 y1 y2 p0 p1 p2
   go_wp2
   try rw [show i + 3 - i = 3 from by omega]
   go_loopw [6, 8, 9] (fun at' ln ds wr => ∃ (c : Nat) (a : Int) (m : Nat × Nat), at' = .int .i64 a ∧ -1 ≤ a ∧ a < i ∧ ln = .int .i64 m.1 ∧ ds = .int .i64 m.2 ∧ m.1 ≤ 258 ∧ Hid (Find bs i c a m) ∧ Below w.heap.size w wr) (fun at' _ _ _ => (intOf at' + 1).toNat)
   case atStart => exact ⟨i, la, (0, 0), rfl, hla.1, hla.2, rfl, rfl, by omega, HS.out, (Below.refl _ _).drew⟩
   case round =>
    obtain ⟨c, a, ⟨m1, m2⟩, rfl, ha1, ha2, rfl, rfl, hm, HF, hbel⟩ := hrel
    simp only at hm
    have HB := Lib.hid hbel
    have H1 := Lib.hid (HH.out.below hbel)
    clear hbel
    by_cases ha0 : 0 ≤ a
    ·obtain ⟨p, rfl⟩ : ∃ p : Nat, a = p := ⟨a.toNat, by omega⟩
     by_cases hf : i - p ≤ 32768
     ·by_cases h258 : m1 < 258
      ·obtain ⟨hpc, hp3, hnx⟩ := HF.out.next (by rw [Hl.out]; exact hs) hf
       have hsn := sameN_le bs p i
       have hpv := prevAt_rng bs p
       have HX := Lib.hid hnx
       have s1 : (i : Int) - p ≤ 32768 := by omega
       obtain ⟨n, hn⟩ : ∃ n, n = sameN bs p i := ⟨_, rfl⟩
       clear hnx
       go_wp2_with fail
       refine (same_calls f _ len cap p i bs _ H1.out.c0 H1.out.rd hlen (by omega) hi).mono ?_
       rintro e w2 ⟨rfl, hb2⟩
       have H2 := Lib.hid (H1.out.below hb2)
       have HB2 := Lib.hid (below_seq HB.out (Nat.le_refl _) hb2)
       rw [← hn] at hsn HX ⊢
       have p2 := H2.out.c2
       obtain ⟨g, pc, e3, _, _, _, hcell, _⟩ := own_form H2.out.own (by omega)
       have z := hcell p _ (ints_get (by rw [prevs_length]; omega))
       rw [rd_prevs (by omega)] at z
       rw [e3] at p2
       obtain ⟨y, hy⟩ : ∃ y, y = prevAt bs p := ⟨_, rfl⟩
       rw [← hy] at z hpv HX
       clear hb2 hcell e3 hn hy
       by_cases hgt : m1 < n
       ·rw [if_pos hgt] at HX
        have s2 : ((i : Int) - p) = ((i - p : Nat) : Int) := by omega
        go_wp2
        go_roundw
        case rel => exact ⟨p, y, (n, i - p), rfl, hpv.1, by omega, rfl, rfl, hsn, HX.out, HB2.out⟩
        case measure => simp [intOf]; omega
       ·rw [if_neg hgt] at HX
        go_wp2
        go_roundw
        case rel => exact ⟨p, y, (m1, m2), rfl, hpv.1, by omega, rfl, rfl, hm, HX.out, HB2.out⟩
        case measure => simp [intOf]; omega
      ·have e := HF.out.stop (by rw [Hl.out]; exact hs) (.inr (.inr (by show 258 ≤ m1; omega)))
       have E := Lib.hid e
       have s1 : (i : Int) - p ≤ 32768 := by omega
       have s2 : ¬ (m1 : Int) < 258 := by omega
       clear e
       go_wp2
       go_ret2
       exact ⟨by rw [← E.out]; rfl, HB.out⟩
     ·have e := HF.out.stop (by rw [Hl.out]; exact hs) (.inr (.inl (by omega)))
      have E := Lib.hid e
      have s1 : ¬ (i : Int) - p ≤ 32768 := by omega
      clear e
      go_wp2
      go_ret2
      exact ⟨by rw [← E.out]; rfl, HB.out⟩
    ·have e := HF.out.stop (by rw [Hl.out]; exact hs) (.inl (by omega))
     have E := Lib.hid e
     clear e
     go_wp2
     go_ret2
     exact ⟨by rw [← E.out]; rfl, HB.out⟩
  ·rw [decide_eq_false hla0] at hrun
   have e := HS.out.stop (by rw [Hl.out]; exact hs) (.inl (by omega))
   have E := Lib.hid e
   clear hval hc hv e
   go_wp2
   go_region
   clear hrun hat y0 y1 y2 p0 p1 p2
   go_wp2
   try rw [show i + 3 - i = 3 from by omega]
   go_loopw [6, 8, 9] (fun at' ln ds wr => at' = .int .i64 c ∧ ln = .int .i64 0 ∧ ds = .int .i64 0 ∧ Below w.heap.size w wr) (fun at' _ _ _ => 0)
   case atStart => exact ⟨rfl, rfl, rfl, (Below.refl _ _).drew⟩
   case round =>
    obtain ⟨rfl, rfl, rfl, hbel⟩ := hrel
    go_wp2
    go_ret2
    exact ⟨by rw [← E.out]; rfl, hbel⟩
 ·have e := best_short (b := bs) (i := i) (by rw [Hl.out]; exact hs)
  have E := Lib.hid e
  clear e
  go_enter Tryd.func85, Tryd.ntmps85
  go_wp2
  go_ret2
  exact ⟨by rw [E.out]; rfl, Below.refl _ _⟩
def tokCells (ts : List Tok) : List Value := ts.flatMap fun t => [.int .u8 t.1, .int .i64 t.2.1, .int .i64 t.2.2]
theorem tokCells_length (ts : List Tok) : (tokCells ts).length = ts.length * 3 := by
 induction ts with
 | nil => rfl
 | cons t ts ih => simp [tokCells] at *; omega
theorem tokCells_append (a b : List Tok) : tokCells (a ++ b) = tokCells a ++ tokCells b := by simp [tokCells]
theorem elTok : ElT Tryd.prog 103 134 (.agg #[.int .u8 0, .int .i64 0, .int .i64 0]) 3 24 := ⟨Tryd.underlying103, by kernel_rfl, rfl, by decide, by decide⟩
theorem tokCells_get {ts : List Tok} {j : Nat} (h : j < ts.length) : (tokCells ts)[j * 3]? = some (.int .u8 (tokB ts j)) ∧ (tokCells ts)[j * 3 + 1]? = some (.int .i64 (tokL ts j)) ∧ (tokCells ts)[j * 3 + 2]? = some (.int .i64 (tokD ts j)) := by
 have e : ts = ts.take j ++ (tokB ts j, tokL ts j, tokD ts j) :: ts.drop (j + 1) := by
  have h1 : ts[j] = (tokB ts j, tokL ts j, tokD ts j) := by simp [tokB, tokL, tokD, List.getD_eq_getElem?_getD, List.getElem?_eq_getElem h]
  rw [← h1, List.getElem_cons_drop, List.take_append_drop]
 have hl : (tokCells (ts.take j)).length = j * 3 := by rw [tokCells_length, List.length_take, Nat.min_eq_left (Nat.le_of_lt h)]
 have e2 : tokCells ts = tokCells (ts.take j) ++ (.int .u8 (tokB ts j) :: .int .i64 (tokL ts j) :: .int .i64 (tokD ts j) :: tokCells (ts.drop (j + 1))) := by
  conv => lhs; rw [e]
  rw [tokCells_append]
  rfl
 rw [e2, List.getElem?_append_right (by omega), List.getElem?_append_right (by omega), List.getElem?_append_right (by omega), hl, Nat.sub_self, show j * 3 + 1 - j * 3 = 1 from by omega, show j * 3 + 2 - j * 3 = 2 from by omega]
 exact ⟨rfl, rfl, rfl⟩
theorem own_toks {w : World} {base n : Nat} {e : TypeId} {v : Value} {ts : List Tok} (h : w.ownsRow base e 3 v n (tokCells ts)) : ∃ A c, v = .slice A n c ∧ Toks w A n ts := by
 have hl : ts.length = n := by have := h.1; rw [tokCells_length] at this; omega
 rcases Nat.eq_zero_or_pos n with h0 | h0
 ·obtain ⟨A, c, hv⟩ := own_slice h
  exact ⟨A, c, hv, hl, fun hp => by omega⟩
 ·obtain ⟨g, c, hv, _, _, _, hcell, _⟩ := own_form h h0
  refine ⟨_, c, hv, hl, fun _ => ⟨g, 0, rfl, fun j hj => ?_⟩⟩
  obtain ⟨k0, k1, k2⟩ := tokCells_get (ts := ts) (j := j) (by omega)
  rw [Nat.zero_add]
  exact ⟨hcell _ _ k0, hcell _ _ k1, hcell _ _ k2⟩
theorem press_lit {bs : List Int} {pre : List Tok} {fu k len : Nat} (hl : bs.length = len) (hk : k < len) (h : (bestM bs k).1 < 3) (hf : len - k ≤ fu) (hp : pressL bs = pre ++ pressFrom bs fu k) : len - (k + 1) ≤ fu - 1 ∧ pressL bs = (pre ++ [(rd bs k, 0, 0)]) ++ pressFrom bs (fu - 1) (k + 1) := by
 obtain ⟨f, rfl⟩ : ∃ f, fu = f + 1 := ⟨fu - 1, by omega⟩
 refine ⟨by omega, ?_⟩
 rw [hp, pressFrom, if_pos (by omega), if_pos h, Nat.add_sub_cancel, List.append_assoc]
 rfl
theorem press_match {bs : List Int} {pre : List Tok} {fu k len : Nat} (hl : bs.length = len) (hk : k < len) (h : ¬ (bestM bs k).1 < 3) (hf : len - k ≤ fu) (hp : pressL bs = pre ++ pressFrom bs fu k) : len - (k + (bestM bs k).1) ≤ fu - 1 ∧ pressL bs = (pre ++ [(0, ((bestM bs k).1 : Int), ((bestM bs k).2 : Int))]) ++ pressFrom bs (fu - 1) (k + (bestM bs k).1) := by
 obtain ⟨f, rfl⟩ : ∃ f, fu = f + 1 := ⟨fu - 1, by omega⟩
 refine ⟨by omega, ?_⟩
 rw [hp, pressFrom, if_pos (by omega), if_neg h, Nat.add_sub_cancel, List.append_assoc]
 rfl
theorem FinAt.outk {w w1 : World} {B f bm : Nat} {A : Option Addr} {len cap : Nat} {bs : List Int} {i : Nat} {pv : Value} (H : FinAt w B f bm A len cap bs i pv) {base n : Nat} {v : Value} {xs : List Value} (ho : w.ownsRow base 134 3 v n xs) (hf : Fr w w1 [some f, some bm, pv.ownBlock]) : w1.ownsRow base 134 3 v n xs :=
 own_fr ho hf (fun o hm => by
  simp at hm
  rcases hm with rfl | rfl | rfl
  ·exact own_apart H.at' (by decide) ho
  ·obtain ⟨_, hD, _⟩ := H.map
   exact fun j hj e => by cases e; exact map_apart hD ho hj
  ·exact own_apart2 (by decide) ho H.own)
theorem FinAt.out3 {w w1 : World} {B f bm : Nat} {A : Option Addr} {len cap : Nat} {bs : List Int} {i : Nat} {pv : Value} (H : FinAt w B f bm A len cap bs i pv) {n : Nat} {v : Value} {xs : List Value} (ho : w.ownsRow B 134 3 v n xs) (hf : Fr w w1 [v.ownBlock]) (hB : B ≤ w.heap.size) : FinAt w1 B f bm A len cap bs i pv ∧ Below B w w1 := by
 have hb : Below B w w1 := hf.below hB (fun o hm j e => by simp at hm; subst hm; exact (ho.lt j e).1)
 refine ⟨⟨(hf.block f H.lt (fun o hm e => ?_)).trans H.at', own_fr H.own hf (fun o hm => ?_), ?_, H.rd.belowB hb H.old, H.old, H.bf, H.bm⟩, hb⟩
 ·simp at hm
  subst hm
  exact own_apart H.at' (by decide) ho f e rfl
 ·simp at hm
  subst hm
  exact own_apart2 (by decide) H.own ho
 ·obtain ⟨D, h1, h2⟩ := H.map
  exact ⟨D, map_fr h1 hf (fun o hm e => by simp at hm; subst hm; exact map_apart h1 ho e), h2⟩
set_option maxHeartbeats 4000000 in
set_option maxRecDepth 100000 in
theorem LPress_calls (A : Option Addr) (len cap : Nat) (bs : List Int) (w : World) (hR : Rd w .u8 A len bs) (hb : ∀ j, j < len → 0 ≤ rd bs j ∧ rd bs j ≤ 255) (hlen : len ≤ 1000000) (hcap : len ≤ cap) :
  Calls Tryd.prog 54 #[.slice A len cap] w fun e w' => ∃ v, e = .returned v ∧ w'.ownsRow w.heap.size 134 3 v (pressL bs).length (tokCells (pressL bs)) ∧ Below w.heap.size w w' := by
 have hl : bs.length = len := hR.1
 have HR := Lib.hid hR
 have Hl := Lib.hid hl
 have Hb := Lib.hid hb
 clear hR hl hb
 have hmm := @run_makeMap Tryd.prog
 go_enter Tryd.func54, Tryd.ntmps54
 go_upto_region 2 with fail
 obtain ⟨W0, hW0⟩ : ∃ W, W = (w.alloc (.map #[] 0)).alloc (.cells #[.slice A len cap, .map (some w.heap.size), .slice none 0 0] 143) := ⟨_, rfl⟩
 obtain ⟨B, hB⟩ : ∃ B, B = w.heap.size := ⟨_, rfl⟩
 rw [← hB] at hW0
 rw [← hB, ← hW0]
 have hb0 : Below B w W0 := by
  rw [hW0, hB]
  exact below_new ((Below.refl _ _).alloc (Nat.le_refl _) _) (Nat.le_refl _) _
 have hF0 : FinAt W0 B (B + 1) B A len cap bs 0 (.slice none 0 0) := by
  have h1 := World.ownsMap_made (H := Unit) w Tryd.prog 187 (plainElem Tryd.prog 3)
  rw [← hB] at h1
  refine ⟨?_, World.ownsRow_nil _ _ _ _, ⟨_, ?_, LastD.start bs⟩, ?_, ?_, by omega, by omega⟩
  ·have h2 := heap_alloc_new (w.alloc (.map #[] 0)) (.cells #[.slice A len cap, .map (some B), .slice none 0 0] 143)
   rw [hW0, hB]
   simp at h2 ⊢
   rw [hB] at h2
   exact h2
  ·rw [hW0]
   exact map_below h1 ((Below.refl _ _).alloc (Nat.le_refl _) _)
  ·exact HR.out.below (by rw [hB] at hb0; exact hb0)
  ·intro h0 b o e
   obtain ⟨_, _, e2, hc⟩ := HR.out.2 h0
   rw [e] at e2
   cases e2
   rw [hB]
   exact World.block_lt_of_cell? _ _ (hc 0 h0)
 have hs0 : B + 2 ≤ W0.heap.size := by rw [hW0, hB]; simp
 have HF0 := Lib.hid hF0
 have Hb0 := Lib.hid hb0
 have HB := Lib.hid hB
 clear hW0 hb0 hF0 hmm hB
 go_wp2
 go_loopw [4, 5] (fun v i wr => ∃ (k fu : Nat) (pre : List Tok) (pv : Value), k ≤ len ∧ i = .int .i64 k ∧ len - k ≤ fu ∧ pre.length ≤ k ∧ Hid (wr.ownsRow B 134 3 v pre.length (tokCells pre)) ∧ Hid (pressL bs = pre ++ pressFrom bs fu k) ∧ Hid (FinAt wr B (B + 1) B A len cap bs k pv) ∧ Hid (Below B w wr)) (fun _ i _ => len - (intOf i).toNat)
 case atStart => exact ⟨0, len, [], _, by omega, rfl, by omega, by simp, World.ownsRow_nil _ _ _ _, by rw [← Hl.out]; rfl, HF0.out, Hb0.out⟩
 case round =>
  obtain ⟨k, fu, pre, pv, hk, rfl, hfu, hpre, HO, HP, HF, HBl⟩ := hrel
  have hszr := HBl.out.size
  rw [← HB.out] at hszr
  by_cases hlt : k < len
  ·go_wp2_with fail
   refine (find_calls B (B + 1) B k A len cap bs pv _ HF.out Hb.out hlen hlt hcap).mono ?_
   rintro e w1 ⟨rfl, hb1⟩
   have HF1 := Lib.hid (HF.out.below hb1)
   have HO1 := Lib.hid (own_below HO.out hb1)
   have HB1 := Lib.hid (HBl.out.trans (hb1.mono hszr))
   have hsz1 := hb1.size
   clear hb1
   by_cases h3 : (bestM bs k).1 < 3
   ·have Hnx := Lib.hid (press_lit Hl.out hlt h3 hfu HP.out)
    have hcl : cl (bestM bs k) = (0, 0) := if_pos h3
    rw [hcl]
    obtain ⟨b, o, e3, hc⟩ := HF1.out.rd.2 (by omega)
    have z := hc k hlt
    obtain ⟨y, hy⟩ : ∃ y, y = rd bs k := ⟨_, rfl⟩
    rw [← hy] at z Hnx
    subst e3
    have z2 := kept_new z (.cells #[.int .u8 0, .int .i64 0, .int .i64 0] 134)
    clear hcl hc hy h3
    go_upto_region 9 with (first | go_region | fail)
    obtain ⟨W2, hW2⟩ : ∃ W, W = (w1.alloc (.cells #[.int .u8 y, .int .i64 0, .int .i64 0] 134)).drew := ⟨_, rfl⟩
    obtain ⟨tb, htb⟩ : ∃ q, q = w1.heap.size := ⟨_, rfl⟩
    rw [← hW2, ← htb]
    have hb2 : Below w1.heap.size w1 W2 := by rw [hW2]; exact ((Below.refl _ _).alloc (Nat.le_refl _) _).drew
    have hrow : W2.heap[tb]? = some (.cells #[.int .u8 y, .int .i64 0, .int .i64 0] 134 (0, 0)) := by rw [hW2, htb]; exact heap_alloc_new w1 _
    have x0 := cell_of_row W2 tb 0 _ _ (0, 0) hrow
    have x1 := cell_of_row W2 tb 1 _ _ (0, 0) hrow
    have x2 := cell_of_row W2 tb 2 _ _ (0, 0) hrow
    simp only [List.getElem?_toArray, List.getElem?_cons_succ, List.getElem?_cons_zero] at x0 x1 x2
    have HO2 := Lib.hid (own_below HO1.out hb2)
    have HF2 := Lib.hid (HF1.out.below hb2)
    have HB2 := Lib.hid (HB1.out.trans (hb2.mono (Nat.le_trans hszr hsz1)))
    have hsz2 := hb2.size
    clear hW2 hb2 hrow htb z z2
    go_wp2_with (first | (at_builtin; refine wpList_app3 rfl _ _ rfl elTok HO2.out rfl rfl (by simp) rfl rfl (by omega) (by omega) ?_; intro g pc w3 hown3 hfr3 hg3 hlt3; have Hfin := Lib.hid (HF2.out.out3 HO2.out hfr3 (by omega)); have HO3 := Lib.hid hown3; have HB3 := Lib.hid (HB2.out.trans (Hfin.out.2)); have hsz3 := hfr3.size; clear hown3 hfr3) | fail)
    have hszB : B ≤ w3.heap.size := by omega
    go_loopw [5, 38] (fun i j wr => ∃ (c : Nat) (pv : Value), c ≤ 1 ∧ i = .int .i64 ((k + c : Nat) : Int) ∧ j = .int .i64 (c : Int) ∧ B ≤ wr.heap.size ∧ Hid (wr.ownsRow B 134 3 (.slice (some ⟨g, 0, none⟩) (pre.length + 1) pc) (pre.length + 1) (tokCells (pre ++ [(y, 0, 0)]))) ∧ Hid (FinAt wr B (B + 1) B (some ⟨b, o, none⟩) len cap bs (k + c) pv) ∧ Hid (Below B w wr)) (fun _ j _ => 1 - (intOf j).toNat)
    case atStart => exact ⟨0, pv, by omega, rfl, rfl, hszB, by rw [tokCells_append]; exact HO3.out, Hfin.out.1, HB3.out⟩
    case round =>
     obtain ⟨c, pv', hc, rfl, rfl, hszr, HO, HF2, HBr⟩ := hrel
     by_cases hlt2 : c < 1
     ·go_wp2_with fail
      refine (enter_calls B (B + 1) B (k + c) (some ⟨b, o, none⟩) len cap bs pv' _ HF2.out Hb.out hlen (by omega) hcap hszr).mono ?_
      rintro e w4 ⟨pv4, rfl, hF4, hfr4⟩
      have HO4 := Lib.hid (HF2.out.outk HO.out hfr4)
      have HB4 := Lib.hid (HBr.out.trans (HF2.out.bel hfr4 hszr))
      have HF4 := Lib.hid hF4
      have hsz4 := hfr4.size
      clear hF4 hfr4
      go_wp2
      go_roundw
      case rel => exact ⟨c + 1, pv4, by omega, by go_num, by go_num, by omega, HO4.out, HF4.out, HB4.out⟩
      case measure => simp [intOf]; omega
     ·obtain rfl : c = 1 := by omega
      go_wp2
      go_roundw
      case rel => exact ⟨k + 1, fu - 1, pre ++ [(y, 0, 0)], pv', by omega, rfl, Hnx.out.1, by rw [List.length_append]; simp; omega, by rw [List.length_append]; exact HO.out, Hnx.out.2, HF2.out, HBr.out⟩
      case measure => simp [intOf]; omega
   ·have Hnx := Lib.hid (press_match Hl.out hlt h3 hfu HP.out)
    have hcl : cl (bestM bs k) = bestM bs k := if_neg h3
    have hr := bestM_rng (b := bs) (i := k) (by omega)
    rw [Hl.out] at hr
    rw [hcl]
    obtain ⟨m1, hm1⟩ : ∃ m, m = (bestM bs k).1 := ⟨_, rfl⟩
    obtain ⟨m2, hm2⟩ : ∃ m, m = (bestM bs k).2 := ⟨_, rfl⟩
    rw [← hm1, ← hm2] at Hnx ⊢
    rw [← hm1] at h3
    have hm3 : 3 ≤ m1 := by omega
    have hm258 : m1 ≤ 258 := by omega
    have hmk : k + m1 ≤ len := by omega
    clear hcl hm1 hm2 hr h3
    go_upto_region 9 with fail
    obtain ⟨W2, hW2⟩ : ∃ W, W = (w1.alloc (.cells #[.int .u8 0, .int .i64 m1, .int .i64 m2] 134)) := ⟨_, rfl⟩
    obtain ⟨tb, htb⟩ : ∃ q, q = w1.heap.size := ⟨_, rfl⟩
    rw [← hW2, ← htb]
    have hb2 : Below w1.heap.size w1 W2 := by rw [hW2]; exact ((Below.refl _ _).alloc (Nat.le_refl _) _)
    have hrow : W2.heap[tb]? = some (.cells #[.int .u8 0, .int .i64 m1, .int .i64 m2] 134 (0, 0)) := by rw [hW2, htb]; exact heap_alloc_new w1 _
    have x0 := cell_of_row W2 tb 0 _ _ (0, 0) hrow
    have x1 := cell_of_row W2 tb 1 _ _ (0, 0) hrow
    have x2 := cell_of_row W2 tb 2 _ _ (0, 0) hrow
    simp only [List.getElem?_toArray, List.getElem?_cons_succ, List.getElem?_cons_zero] at x0 x1 x2
    have HO2 := Lib.hid (own_below HO1.out hb2)
    have HF2 := Lib.hid (HF1.out.below hb2)
    have HB2 := Lib.hid (HB1.out.trans (hb2.mono (Nat.le_trans hszr hsz1)))
    have hsz2 := hb2.size
    clear hW2 hb2 hrow htb
    go_wp2_with (first | (at_builtin; refine wpList_app3 rfl _ _ rfl elTok HO2.out rfl rfl (by simp) rfl rfl (by omega) (by omega) ?_; intro g pc w3 hown3 hfr3 hg3 hlt3; have Hfin := Lib.hid (HF2.out.out3 HO2.out hfr3 (by omega)); have HO3 := Lib.hid hown3; have HB3 := Lib.hid (HB2.out.trans (Hfin.out.2)); have hsz3 := hfr3.size; clear hown3 hfr3) | fail)
    have hszB : B ≤ w3.heap.size := by omega
    go_loopw [5, 38] (fun i j wr => ∃ (c : Nat) (pv : Value), c ≤ m1 ∧ i = .int .i64 ((k + c : Nat) : Int) ∧ j = .int .i64 (c : Int) ∧ B ≤ wr.heap.size ∧ Hid (wr.ownsRow B 134 3 (.slice (some ⟨g, 0, none⟩) (pre.length + 1) pc) (pre.length + 1) (tokCells (pre ++ [(0, (m1 : Int), (m2 : Int))]))) ∧ Hid (FinAt wr B (B + 1) B A len cap bs (k + c) pv) ∧ Hid (Below B w wr)) (fun _ j _ => m1 - (intOf j).toNat)
    case atStart => exact ⟨0, pv, by omega, rfl, rfl, hszB, by rw [tokCells_append]; exact HO3.out, Hfin.out.1, HB3.out⟩
    case round =>
     obtain ⟨c, pv', hc, rfl, rfl, hszr, HO, HF2, HBr⟩ := hrel
     by_cases hlt2 : c < m1
     ·go_wp2_with fail
      refine (enter_calls B (B + 1) B (k + c) A len cap bs pv' _ HF2.out Hb.out hlen (by omega) hcap hszr).mono ?_
      rintro e w4 ⟨pv4, rfl, hF4, hfr4⟩
      have HO4 := Lib.hid (HF2.out.outk HO.out hfr4)
      have HB4 := Lib.hid (HBr.out.trans (HF2.out.bel hfr4 hszr))
      have HF4 := Lib.hid hF4
      have hsz4 := hfr4.size
      clear hF4 hfr4
      go_wp2
      go_roundw
      case rel => exact ⟨c + 1, pv4, by omega, by go_num, by go_num, by omega, HO4.out, HF4.out, HB4.out⟩
      case measure => simp [intOf]; omega
     ·obtain rfl : m1 = c := by omega
      go_wp2
      go_roundw
      case rel => exact ⟨k + m1, fu - 1, pre ++ [(0, (m1 : Int), (m2 : Int))], pv', by omega, rfl, Hnx.out.1, by rw [List.length_append]; simp; omega, by rw [List.length_append]; exact HO.out, Hnx.out.2, HF2.out, HBr.out⟩
      case measure => simp [intOf]; omega
  ·obtain rfl : k = len := by omega
   have hp := HP.out
   rw [pressFrom_end _ _ _ (by rw [Hl.out]; exact Nat.le_refl _), List.append_nil] at hp
   have HP2 := Lib.hid hp
   clear hp
   go_wp2
   go_ret
   exact ⟨_, rfl, by rw [HP2.out, ← HB.out]; exact HO.out, by rw [← HB.out]; exact HBl.out⟩
end Go.Proofs.YtendohnkhbgfbaaDoor
