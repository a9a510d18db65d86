/-
  Texts joined into one file: Raw, RefB, PutLen, LaidO.
-/
import Derived.Test.YtendohnkhbgfbaaDoorJRefPk14
import Derived.Test.YtendohnkhbgfbaaDoorJRefPk17
import Derived.Maps.AppendAt
import Derived.Test.YtendohnkhbgfbaaDoorJRefPk11
import Derived.Test.YtendohnkhbgfbaaDoorJRefPk13
import Derived.Test.YtendohnkhbgfbaaDoorJRefPk2
import Derived.Test.YtendohnkhbgfbaaDoorRows
import Derived.ProofKit
import Derived.LaidMore
import Derived.OpenShut
import Derived.MakeChecks
namespace Go.Proofs.YtendohnkhbgfbaaDoor
open Go.RowKit

theorem wpList_appRdL {P : Program} {w : World} {ops : Array Oper} {rest : List Oper} {o : Oper} {a : Act} {Q : Exit → Act → World → Prop} (hgd : o.guard = none) (s x : Operand) {t : TypeId}
  (ho : o.op = .call { callee := .builtin .append, args := #[s, x], argTypes := #[t, t] })
  {base : Nat} {e : TypeId} {k : IntKind} {bytes : Nat} (El : ElT P t e (.int k 0) 1 bytes) {v : Value} {n : Nat} {ys : List Int} (hown : w.ownsRow base e 1 v n (ints k ys)) (hs : a.eval s = v)
  {A : Option Addr} {m c : Nat} {zs : List Int} (hx : a.eval x = .slice A m c) (hR : Rd w k A m zs) (hA : A = none → m = 0 ∧ c = 0) (hbytes : (n + m) * bytes ≤ 140737488355328) (hbase : base ≤ w.heap.size)
  (h : ∀ v' w', w'.ownsRow base e 1 v' (n + m) (ints k (ys ++ zs)) → Fr w w' [v.ownBlock] → (v'.ownBlock = v.ownBlock ∨ ∀ k, v'.ownBlock = some k → w.heap.size ≤ k) → wpList P ops Q rest (a.put o.dst v') w') : wpList P ops Q (o :: rest) a w := by
 obtain ⟨i0, hi, hz0, hz1, hz2⟩ := info_parts El.info
 have hn : n + m ≤ maxLen := by
  have := Nat.mul_le_mul_left (n + m) El.bpos
  unfold maxLen
  omega
 have hl := hR.1
 cases A with
 | none =>
  obtain ⟨rfl, rfl⟩ := hA rfl
  have hz : zs = [] := List.length_eq_zero_iff.1 hl
  subst hz
  refine wpList_append_own_none hgd s x t ho base e i0 1 El.und hi v n _ hs hown hx (h v w ?_ (Fr.refl _ _) (.inl rfl))
  simpa using hown
 | some ad =>
  refine wpList_append_own_at _ hgd s x t ho base e i0 (.int k 0) 1 bytes El.und hi hz0 hz1 hz2 El.zs El.pos v n _ hs hown ad m c (ints k zs) hx (by rw [ints_length]; omega) ?_ (fun u hu => ?_) hn hbytes hbase ?_
  ·intro j u hu
   have hj : j < zs.length := by
    have := (List.getElem?_eq_some_iff.1 hu).1
    rwa [ints_length] at this
   obtain ⟨b, o', e', hc⟩ := hR.2 (by omega)
   cases e'
   rw [ints_get hj] at hu
   cases hu
   rw [addr_add]
   exact hc j (by omega)
  ·unfold ints at hu
   obtain ⟨y, _, rfl⟩ := List.mem_map.1 hu
   rfl
  ·intro v' w' h2 h3 _ h5
   rw [← ints_append] at h2
   exact h v' w' h2 (Fr.ofGrown h3) (h5.imp id (fun e k hk => by rw [e] at hk; cases hk; exact Nat.le_refl _))
def alignS (L : List Int) : List Int := L ++ List.replicate (8 * ((L.length + 7) / 8) - L.length) 0
theorem alignS_length (L : List Int) : (alignS L).length = 8 * ((L.length + 7) / 8) := by
 unfold alignS
 rw [List.length_append, List.length_replicate]
 omega
theorem alignS_pack (L : List Int) : packB (alignS L) = packB L := packB_zeros L _ (by omega)
theorem alignS_bit {L : List Int} (h : Bit01 L) : Bit01 (alignS L) := h.app (fun _ hx => .inl (List.eq_of_mem_replicate hx))
set_option maxHeartbeats 1000000 in
theorem Align_calls (B h : Nat) (L : List Int) (v : Value) (w : World) (H : WrAt w B h L v) :
  Calls Tryd.prog 48 #[.pointer (some ⟨h, 0, none⟩)] w fun e w' => e = .returned (.tuple #[]) ∧ WrAt w' B h (alignS L) v ∧ WStep w w' h v v := by
 have c1 := H.c1
 have f1 := frozen_of_row w h 1 _ _ H.at'
 have HH := Lib.hid H
 clear H
 go_enter Tryd.func48, Tryd.ntmps48
 go_wp2
 go_end0
 have hf : Fr w (w.setCell ⟨h, 1, none⟩ (.int .i64 0)) [some h, v.ownBlock] := (Fr.refl w _).set _ _ (.inl (by simp))
 refine ⟨rfl, ⟨?_, ?_, alignS_bit HH.out.bit⟩, hf, .inl rfl⟩
 ·have h1 := heap_setCell_same w h 1 _ _ (.int .i64 0) HH.out.at'
  rw [alignS_length, show 8 * ((8 * ((L.length + 7) / 8) + 7) / 8) - 8 * ((L.length + 7) / 8) = 0 from by omega]
  exact h1
 ·rw [alignS_length, alignS_pack, show (8 * ((L.length + 7) / 8) + 7) / 8 = (L.length + 7) / 8 from by omega]
  refine own_fr HH.out.own ((Fr.refl w [some h]).set ⟨h, 1, none⟩ _ (.inl (by simp))) (fun o ho => ?_)
  simp at ho
  subst ho
  exact HH.out.ap
set_option maxHeartbeats 2000000 in
theorem Raw_calls (B h : Nat) (L : List Int) (v : Value) (A : Option Addr) (m c : Nat) (bs : List Int) (w : World) (H : WrAt w B h L v) (hR : Rd w .u8 A m bs) (hb : ∀ x ∈ bs, 0 ≤ x ∧ x ≤ 255) (hA : A = none → m = 0 ∧ c = 0) (hne : 0 < m → ∀ b o, A = some ⟨b, o, none⟩ → b ≠ h ∧ v.ownBlock ≠ some b) (hL : L.length + 8 * m ≤ 90000000) (hB : B ≤ w.heap.size) :
  Calls Tryd.prog 49 #[.pointer (some ⟨h, 0, none⟩), .slice A m c] w fun e w' => ∃ v', e = .returned (.tuple #[]) ∧ WrAt w' B h (alignS L ++ bytesS bs) v' ∧ WStep w w' h v v' := by
 have HH := Lib.hid H
 have HR := Lib.hid hR
 have Hb := Lib.hid hb
 have HA := Lib.hid hA
 have Hne := Lib.hid hne
 have Hm := Lib.hid hR.1
 clear H hR hb hA hne
 go_enter Tryd.func49, Tryd.ntmps49
 go_wp2_with fail
 refine (Align_calls B h L v _ HH.out).mono ?_
 rintro e w1 ⟨rfl, hw1, hs1⟩
 have HW1 := Lib.hid hw1
 have HS1 := Lib.hid hs1
 have c0 := hw1.c0
 have HR1 : Hid (Rd w1 .u8 A m bs) := by
  rcases Nat.eq_zero_or_pos m with h0 | h0
  ·exact ⟨HR.out.1, fun h => by omega⟩
  ·exact HR.out.frW hs1.fr (fun b o e s hs e2 => by
    subst e2
    simp at hs
    rcases hs with hs | hs
    ·exact (Hne.out h0 b o e).1 hs
    ·exact (Hne.out h0 b o e).2 hs.symm)
 have hsz1 := hs1.fr.size
 have hlen := alignS_length L
 obtain ⟨n, hn⟩ : ∃ n, n = ((alignS L).length + 7) / 8 := ⟨_, rfl⟩
 have ho1 := hw1.own
 rw [← hn] at ho1
 have hn2 : n ≤ 20000000 := by omega
 have Ho1 := Lib.hid ho1
 have Hn := Lib.hid hn
 have Hal := Lib.hid hlen
 clear hw1 hs1 ho1 hn hlen
 go_wp2_with (at_builtin; refine wpList_appRdL rfl _ _ rfl elB Ho1.out rfl rfl HR1.out HA.out (by omega) (by omega) ?_; intro v3 w3 hown3 hfr3 hat3; obtain ⟨A3, p3, rfl⟩ := own_slice hown3; have hrow3 := (hfr3.block h HW1.out.lt (fun o ho e => by simp at ho; subst ho; exact HW1.out.ap h e rfl)).trans HW1.out.at'; have y0 := cell_of_row w3 h 0 _ _ (0, 0) hrow3; have f0 := frozen_of_row w3 h 0 _ _ hrow3; simp only [List.getElem?_toArray, List.getElem?_cons_zero] at y0; have Hrow3 := Lib.hid hrow3; have Hown3 := Lib.hid hown3; have Hfr3 := Lib.hid hfr3; have Hat3 := Lib.hid hat3; clear hrow3 hown3 hfr3 hat3)
 go_end0
 have hal := Hal.out
 have hn := Hn.out
 have e8 : (alignS L ++ bytesS bs).length = 8 * (n + m) := by rw [List.length_append, bytesS_length, Hm.out]; omega
 have hf4 : Fr w1 (w3.setCell ⟨h, 0, none⟩ (.slice A3 (n + m) p3)) [some h, v.ownBlock] := (Hfr3.out.mono (fun o ho => by simp at ho; subst ho; simp)).set _ _ (.inl (by simp))
 refine ⟨_, rfl, ⟨?_, ?_, (alignS_bit HH.out.bit).app (bytesS_bit _)⟩, HS1.out.trans ⟨hf4, Hat3.out⟩⟩
 ·have h1 := heap_setCell_same w3 h 0 _ _ (.slice A3 (n + m) p3) Hrow3.out
  rw [e8, show 8 * ((8 * (n + m) + 7) / 8) - 8 * (n + m) = 0 from by omega]
  rw [show 8 * (((alignS L).length + 7) / 8) - (alignS L).length = 0 from by omega] at h1
  exact h1
 ·rw [e8, packB_app (by rw [alignS_length]; omega), alignS_pack, packB_bytes Hb.out, show (8 * (n + m) + 7) / 8 = n + m from by omega]
  rw [alignS_pack] at Hown3
  refine own_fr Hown3.out ((Fr.refl w3 [some h]).set ⟨h, 0, none⟩ _ (.inl (by simp))) (fun o ho => ?_)
  simp at ho
  subst ho
  exact own_apart Hrow3.out (by decide) Hown3.out
def lenS : Value → Nat
 | .slice _ n _ => n
 | _ => 0
theorem WStep.blk {w w1 : World} {B h wb : Nat} {L : List Int} {v v1 : Value} {cs : Array Value} {T : TypeId} (hs : WStep w w1 h v v1) (H : WrAt w B h L v) (hr : w.heap[wb]? = some (.cells cs T (0, 0))) (hT : T ≠ 5) (hne : wb ≠ h) : w1.heap[wb]? = some (.cells cs T (0, 0)) :=
 (hs.fr.block wb (Array.getElem?_eq_some_iff.1 hr).1 (fun o ho e => by
  simp at ho
  rcases ho with rfl | rfl
  ·exact hne (Option.some.inj e).symm
  ·exact own_apart hr hT H.own wb e rfl)).trans hr
theorem lowOf_mod (x n : Nat) : lowOf (x % 2 ^ n) n = lowOf x n := by
 unfold lowOf
 refine List.map_congr_left (fun i hi => ?_)
 have hi := List.mem_range.1 hi
 congr 1
 obtain ⟨d, rfl⟩ : ∃ d, n = i + (d + 1) := ⟨n - i - 1, by omega⟩
 rw [Nat.pow_add, Nat.mod_mul_right_div_self, Nat.pow_succ, Nat.mul_comm, Nat.mod_mul_right_mod]
theorem xor_max {r : Nat} (h : r ≤ 65535) : bits BinOp.xor IntKind.u64 IntKind.u64.max (r : Int) = ((18446744073709551615 - r : Nat) : Int) := by
 have h1 : (BitVec.ofInt 64 (r : Int)).toNat = r := by rw [BitVec.ofInt_natCast, BitVec.toNat_ofNat]; exact Nat.mod_eq_of_lt (by omega)
 have h2 : BitVec.ofInt 64 IntKind.u64.max = BitVec.allOnes 64 := by decide
 show IntKind.u64.wrap ((BitVec.ofInt 64 IntKind.u64.max ^^^ BitVec.ofInt 64 (r : Int)).toNat : Int) = _
 rw [h2, BitVec.xor_comm, BitVec.xor_allOnes, BitVec.toNat_not, h1]
 exact IntWalk.u64_in _ (by omega)
theorem stoBits_last {f : Nat} {b : List Int} (h : b.length ≤ 65535) : stoBits (f + 1) b = ([1, 0, 0, 0, 0, 0, 0, 0] ++ (lowOf b.length 16 ++ lowOf (65535 - b.length) 16)) ++ bytesS b := by rw [stoBits, if_pos h]
theorem stoBits_more {f : Nat} {b : List Int} (h : ¬ b.length ≤ 65535) : stoBits (f + 1) b = ([0, 0, 0, 0, 0, 0, 0, 0] ++ (lowOf 65535 16 ++ lowOf 0 16)) ++ bytesS (b.take 65535) ++ stoBits f (b.drop 65535) := by rw [stoBits, if_neg h]
theorem alignS_id {L : List Int} (h : L.length % 8 = 0) : alignS L = L := by
 unfold alignS
 rw [show 8 * ((L.length + 7) / 8) - L.length = 0 from by omega]
 exact List.append_nil _
theorem rd_take0 {w : World} {k : IntKind} {A : Option Addr} {n : Nat} {xs : List Int} (h : Rd w k A n xs) (m : Nat) (hm : m ≤ n) : Rd w k A m (xs.take m) := by
 refine ⟨by rw [List.length_take, h.1]; omega, fun hm0 => ?_⟩
 obtain ⟨b, o, rfl, hc⟩ := h.2 (by omega)
 exact ⟨b, o, rfl, (rd_takeF h m hm).2 hm0 |> fun ⟨_, _, e, g⟩ => by cases e; exact g⟩
theorem rd_drop0 {w : World} {k : IntKind} {b o n : Nat} {xs : List Int} (h : Rd w k (some ⟨b, o, none⟩) n xs) (m : Nat) (hm : m ≤ n) : Rd w k (some ⟨b, o + m, none⟩) (n - m) (xs.drop m) := by
 refine ⟨by rw [List.length_drop, h.1], fun hm0 => ⟨b, o + m, rfl, fun j hj => ?_⟩⟩
 obtain ⟨b', o', e, hc⟩ := h.2 (by omega)
 cases e
 have h1 := hc (m + j) (by omega)
 rw [← Nat.add_assoc] at h1
 rw [h1]
 congr 2
 unfold rd
 rw [List.getD_eq_getElem?_getD, List.getD_eq_getElem?_getD, List.getElem?_drop]
theorem wst_below {w w1 : World} {wh C : Nat} {v1 : Value} (hs : WStep w w1 wh (.slice none 0 0) v1) (hB : C ≤ wh) (hC : C ≤ w.heap.size) : Below C w w1 :=
 hs.fr.below hC (fun o ho j e => by
  subst e
  simp [Value.ownBlock] at ho
  omega)
theorem rd_old {w w1 : World} {k : IntKind} {A : Option Addr} {n wh : Nat} {xs : List Int} (h : Rd w k A n xs) (hf : Fr w w1 [some wh, (Value.slice none 0 0).ownBlock]) (hold : 0 < n → ∀ b o, A = some ⟨b, o, none⟩ → b < wh) : Rd w1 k A n xs := by
 rcases Nat.eq_zero_or_pos n with h0 | h0
 ·exact ⟨h.1, fun h => by omega⟩
 ·exact h.frW hf (fun b o e s hs e2 => by
   have h1 := hold h0 b o e
   simp [Value.ownBlock] at hs
   rcases hs with hs | hs
   ·rw [hs] at e2; cases e2; omega
   ·rw [hs] at e2; cases e2)
theorem low_not {r : Nat} (h : r ≤ 65535) : lowOf (18446744073709551615 - r) 16 = lowOf (65535 - r) 16 := by
 rw [← lowOf_mod (18446744073709551615 - r), ← lowOf_mod (65535 - r)]
 congr 1
 omega
set_option maxHeartbeats 1000000 in set_option maxRecDepth 100000 in
theorem Stored_calls (A : Option Addr) (len cap : Nat) (bs : List Int) (w : World) (hR : Rd w .u8 A len bs) (hb : ∀ x ∈ bs, 0 ≤ x ∧ x ≤ 255) (hA : A = none → len = 0 ∧ cap = 0) (hcap : len ≤ cap) (hlen : len ≤ 1000000) :
  Calls Tryd.prog 27 #[.slice A len cap] w fun e w' => ∃ v, e = .returned v ∧ w'.ownsRow w.heap.size 5 1 v (storedB bs).length (ints .u8 (storedB bs)) ∧ Below w.heap.size w w' := by
 have HR := Lib.hid hR
 have Hb := Lib.hid hb
 have HA := Lib.hid hA
 have Hl := Lib.hid hR.1
 clear hR hb hA
 go_enter Tryd.func27, Tryd.ntmps27
 go_upto_region 2 with fail
 obtain ⟨W0, hW0⟩ : ∃ W, W = (w.alloc (.cells #[.slice none 0 0, .int .i64 0] 91)).alloc (.cells #[.pointer (some ⟨w.heap.size, 0, none⟩)] 93) := ⟨_, rfl⟩
 obtain ⟨wh, hh⟩ : ∃ wh, wh = w.heap.size := ⟨_, rfl⟩
 rw [← hh] at hW0
 rw [← hh, ← hW0]
 have hb0 : Below w.heap.size w W0 := by rw [hW0]; exact below_new ((Below.refl _ _).alloc (Nat.le_refl _) _) (Nat.le_refl _) _
 have hs0 : W0.heap.size = wh + 2 := by rw [hW0, hh]; simp
 have hr0 : W0.heap[wh]? = some (.cells #[.slice none 0 0, .int .i64 0] 91 (0, 0)) := by
  rw [hW0, hh, Below.heap_alloc _ _ _ (by simp)]
  exact heap_alloc_new w _
 have hr1 : W0.heap[wh + 1]? = some (.cells #[.pointer (some ⟨wh, 0, none⟩)] 93 (0, 0)) := by
  have h9 := heap_alloc_new (w.alloc (.cells #[.slice none 0 0, .int .i64 0] 91)) (.cells #[.pointer (some ⟨wh, 0, none⟩)] 93)
  rw [hW0]
  simp only [World.size_alloc, ← hh] at h9
  exact h9
 have HWr0 : Hid (WrAt W0 wh wh [] (.slice none 0 0)) := ⟨hr0, World.ownsRow_nil _ _ _ _, fun z hz => by cases hz⟩
 have Hh := Lib.hid hh
 have Hb0 := Lib.hid hb0
 have Hr1 := Lib.hid hr1
 have hold : Hid (0 < len → ∀ b o, A = some ⟨b, o, none⟩ → b < wh) := fun h0 b o e => by
  obtain ⟨_, _, e2, hc⟩ := HR.out.2 h0
  rw [e] at e2
  cases e2
  rw [hh]
  exact World.block_lt_of_cell? _ _ (hc 0 h0)
 clear hW0 hh hb0 hr0 hr1
 go_wp2
 go_loopw [0] (fun b wr => ∃ (d c' : Nat) (A' : Option Addr) (fu : Nat) (done : List Int) (v' : Value), d ≤ len ∧ b = .slice A' (len - d) c' ∧ len - d ≤ c' ∧ len - d < fu ∧ done.length ≤ 16 * d ∧ done.length % 8 = 0 ∧ Hid (A' = none → len - d = 0 ∧ c' = 0) ∧ Hid (0 < len - d → ∀ b o, A' = some ⟨b, o, none⟩ → b < wh) ∧ Hid (Rd W0 .u8 A' (len - d) (bs.drop d)) ∧ Hid (stoBits (len + 1) bs = done ++ stoBits fu (bs.drop d)) ∧ Hid (WrAt wr wh wh done v') ∧ Hid (WStep W0 wr wh (.slice none 0 0) v')) (fun b _ => lenS b)
 case atStart => exact ⟨0, cap, A, len + 1, [], _, by omega, rfl, by omega, by omega, by simp, rfl, HA.out, hold.out, HR.out.below Hb0.out, rfl, HWr0.out, WStep.refl _ _ _⟩
 case round =>
  obtain ⟨d, c', A', fu, done, v', hd, rfl, hc', hfu, hdl, hd8, HA', Hold', HR', HS, HW, HT⟩ := hrel
  obtain ⟨r, hr⟩ : ∃ r, r = len - d := ⟨_, rfl⟩
  rw [← hr] at hc' hfu HA' Hold' HR' ⊢
  have hrl : r + d = len := by omega
  have Hr := Lib.hid hr
  clear hr
  obtain ⟨f, rfl⟩ : ∃ f, fu = f + 1 := ⟨fu - 1, by omega⟩
  have hszr := HT.out.fr.size
  have hrow := HT.out.blk HWr0.out Hr1.out (by decide) (by omega)
  have q := cell_of_row wr (wh + 1) 0 _ _ (0, 0) hrow
  simp only [List.getElem?_toArray, List.getElem?_cons_zero] at q
  have Hrow := Lib.hid hrow
  clear hrow
  by_cases hlast : r ≤ 65535
  ·have hS := HS.out
   go_wp2_with fail
   refine (Put_calls wh wh 1 done v' (some ⟨wr.heap.size, 0, none⟩) 1 1 [1] _ (HW.out.below ((Below.refl _ _).alloc (Nat.le_refl _) _)) (Blk.rd (heap_alloc_new wr _) rfl) (fun j hj => ?_) (by omega) (fun b o e => HW.out.fresh e) (by omega) (by simp; omega)).mono ?_
   ·obtain rfl : j = 0 := by omega
    decide
   rintro e w1 ⟨v1, rfl, hw1, hs1⟩
   rw [show lows [1] 1 1 = [1] from by decide] at hw1
   have HW1 := Lib.hid hw1
   have HT1 := Lib.hid (HT.out.trans (WStep.after ((Below.refl _ _).alloc (Nat.le_refl _) _) hs1))
   have q1 := cell_of_row w1 (wh + 1) 0 _ _ (0, 0) (HT1.out.blk HWr0.out Hr1.out (by decide) (by omega))
   simp only [List.getElem?_toArray, List.getElem?_cons_zero] at q1
   have hsz1 := HT1.out.fr.size
   clear hw1 hs1 q
   go_wp2_with fail
   refine (Put_calls wh wh 2 _ v1 (some ⟨w1.heap.size, 0, none⟩) 1 1 [0] _ (HW1.out.below ((Below.refl _ _).alloc (Nat.le_refl _) _)) (Blk.rd (heap_alloc_new w1 _) rfl) (fun j hj => ?_) (by omega) (fun b o e => HW1.out.fresh e) (by rw [List.length_append]; show _ + 1 + _ ≤ _; omega) (by simp; omega)).mono ?_
   ·obtain rfl : j = 0 := by omega
    decide
   rintro e w2 ⟨v2, rfl, hw2, hs2⟩
   rw [show lows [0] 2 1 = [0, 0] from by decide, List.append_assoc, show [(1 : Int)] ++ [0, 0] = [1, 0, 0] from rfl] at hw2
   have HW2 := Lib.hid hw2
   have HT2 := Lib.hid (HT1.out.trans (WStep.after ((Below.refl _ _).alloc (Nat.le_refl _) _) hs2))
   have q2 := cell_of_row w2 (wh + 1) 0 _ _ (0, 0) (HT2.out.blk HWr0.out Hr1.out (by decide) (by omega))
   simp only [List.getElem?_toArray, List.getElem?_cons_zero] at q2
   have hsz2 := HT2.out.fr.size
   clear hw2 hs2 q1
   go_wp2_with fail
   refine (Align_calls wh wh _ v2 _ HW2.out).mono ?_
   rintro e w3 ⟨rfl, hw3, hs3⟩
   have eal : alignS (done ++ [1, 0, 0]) = done ++ [1, 0, 0, 0, 0, 0, 0, 0] := by
    unfold alignS
    rw [List.length_append, show ([1, 0, 0] : List Int).length = 3 from rfl, show 8 * ((done.length + 3 + 7) / 8) - (done.length + 3) = 5 from by omega, List.append_assoc]
    rfl
   rw [eal] at hw3
   have HW3 := Lib.hid hw3
   have HT3 := Lib.hid (HT2.out.trans hs3)
   have q3 := cell_of_row w3 (wh + 1) 0 _ _ (0, 0) (HT3.out.blk HWr0.out Hr1.out (by decide) (by omega))
   simp only [List.getElem?_toArray, List.getElem?_cons_zero] at q3
   have hsz3 := HT3.out.fr.size
   clear hw3 hs3 q2 eal
   obtain ⟨y, hy⟩ : ∃ y : Nat, y = 18446744073709551615 - r := ⟨_, rfl⟩
   have hxy : bits BinOp.xor IntKind.u64 IntKind.u64.max (r : Int) = ((18446744073709551615 - r : Nat) : Int) := xor_max (r := r) (by omega)
   rw [← hy] at hxy
   have hyb : Hid (y < 18446744073709551616) := by rw [hy]; exact Nat.lt_of_le_of_lt (Nat.sub_le _ _) (by decide)
   have Hy := Lib.hid hy
   clear hy
   go_wp2_with fail
   refine (Put_calls wh wh 16 _ v2 (some ⟨w3.heap.size, 0, none⟩) 2 2 [(r : Int), (y : Int)] _ (HW3.out.below ((Below.refl _ _).alloc (Nat.le_refl _) _)) (Blk.rd (heap_alloc_new w3 _) rfl) (fun j hj => ?_) (by omega) (fun b o e => HW3.out.fresh e) (by rw [List.length_append]; show _ + 8 + _ ≤ _; omega) (by simp; omega)).mono ?_
   ·rcases (show j = 0 ∨ j = 1 by omega) with rfl | rfl
    ·show 0 ≤ (r : Int) ∧ (r : Int) < _; omega
    ·have := hyb.out; show 0 ≤ (y : Int) ∧ (y : Int) < _; omega
   rintro e w4 ⟨v4, rfl, hw4, hs4⟩
   have e5 : lows [(r : Int), (y : Int)] 16 2 = lowOf r 16 ++ lowOf y 16 := lows_two r y 16
   rw [e5, Hy.out, low_not (by omega)] at hw4
   have hl4 : (done ++ [1, 0, 0, 0, 0, 0, 0, 0] ++ (lowOf r 16 ++ lowOf (65535 - r) 16)).length = done.length + 40 := by simp only [List.length_append, lowOf_length]; rfl
   have HW4 := Lib.hid hw4
   have HT4 := Lib.hid (HT3.out.trans (WStep.after ((Below.refl _ _).alloc (Nat.le_refl _) _) hs4))
   have hsz4 := HT4.out.fr.size
   have q4 := cell_of_row w4.drew (wh + 1) 0 _ _ (0, 0) (HT4.out.blk HWr0.out Hr1.out (by decide) (by omega))
   simp only [List.getElem?_toArray, List.getElem?_cons_zero] at q4
   have HR4 := Lib.hid (rd_take0 (rd_old HR'.out HT4.out.fr Hold'.out) r (by omega))
   clear hw4 hs4 q3 e5 hxy
   go_upto_region 10 with fail
   refine wp_region_last (n := 5) (on := ⟨_, _, _, _, _, _⟩) (S := fun W => W.cell? ⟨wh + 1, 0, none⟩ = some (.pointer (some ⟨wh, 0, none⟩))) (by kernel_rfl) rfl (by kernel_rfl) (q4) (fun hHeld => ?_)
   refine' wpAnyH_take (i := 0) (oi := ⟨_, _, _, _, _, _⟩) rfl (by kernel_rfl) (by kernel_rfl) (by kernel_rfl) (fun _ _ _ h => h) (Or.inl ⟨by rfl, ?a0⟩) (by assumption) ?b0
   case a0 => (intro w hSw; (try dsimp only at hSw); go_simp; try with_reducible rfl)
   try simp only [Act.put, List.setIfInBounds_toArray, List.set_cons_zero, List.set_cons_succ]
   refine' wpAnyH_take (i := 1) (oi := ⟨_, _, _, _, _, _⟩) rfl (by kernel_rfl) (by kernel_rfl) (by kernel_rfl) (fun _ _ _ h => h) (Or.inl ⟨by rfl, ?a1⟩) (by assumption) ?b1
   case a1 => (intro w hSw; (try dsimp only at hSw); go_simp; try with_reducible rfl)
   try simp only [Act.put, List.setIfInBounds_toArray, List.set_cons_zero, List.set_cons_succ]
   refine' wpAnyH_take (i := 2) (oi := ⟨_, _, _, _, _, _⟩) rfl (by kernel_rfl) (by kernel_rfl) (by kernel_rfl) (fun _ _ _ h => h) (Or.inl ⟨by rfl, ?a2⟩) (by assumption) ?b2
   case a2 => (intro w hSw; (try dsimp only at hSw); go_simp; try with_reducible rfl)
   try simp only [Act.put, List.setIfInBounds_toArray, List.set_cons_zero, List.set_cons_succ]
   refine' wpAnyH_take (i := 3) (oi := ⟨_, _, _, _, _, _⟩) rfl (by kernel_rfl) (by kernel_rfl) (by kernel_rfl) (fun _ _ _ h => h) (Or.inl ⟨by rfl, ?a3⟩) (by assumption) ?b3
   case a3 => (intro w hSw; (try dsimp only at hSw); go_simp; try with_reducible rfl)
   try simp only [Act.put, List.setIfInBounds_toArray, List.set_cons_zero, List.set_cons_succ]
   refine' wpAnyH_take (i := 4) (oi := ⟨_, _, _, _, _, _⟩) rfl (by kernel_rfl) (by kernel_rfl) (by kernel_rfl) (fun _ _ _ h => h) (Or.inl ⟨by rfl, ?a4⟩) (by assumption) ?b4
   case a4 => (intro w hSw; (try dsimp only at hSw); go_simp; try with_reducible rfl)
   try simp only [Act.put, List.setIfInBounds_toArray, List.set_cons_zero, List.set_cons_succ]
   refine wpAnyH_done (by kernel_rfl) ?_ _
   change wpList _ _ _ _ _ _
   clear q4 hHeld
   go_wp2_with fail
   refine (Raw_calls wh wh _ v4 _ r c' ((bs.drop d).take r) _ (HW4.out.below (Below.refl _ _).drew) HR4.out.drew (fun x hx => Hb.out x (List.mem_of_mem_drop (List.mem_of_mem_take hx))) (HA'.out) (fun h0 b o e => ?_) (by rw [hl4]; omega) (by simp; omega)).mono ?_
   ·have h1 := Hold'.out (by omega) b o e
    exact ⟨by omega, fun e2 => by have := (HW4.out.own.lt _ e2).1; omega⟩
   rintro e w5 ⟨v5, rfl, hw5, hs5⟩
   rw [alignS_id (by rw [hl4]; omega)] at hw5
   have HW5 := Lib.hid hw5
   have HT5 := Lib.hid (HT4.out.trans (WStep.after (Below.refl _ _).drew hs5))
   have hsz5 := HT5.out.fr.size
   have q5 := cell_of_row w5 (wh + 1) 0 _ _ (0, 0) (HT5.out.blk HWr0.out Hr1.out (by decide) (by omega))
   simp only [List.getElem?_toArray, List.getElem?_cons_zero] at q5
   clear hw5 hs5
   have htk : (bs.drop d).take r = bs.drop d := List.take_of_length_le (by rw [List.length_drop, Hl.out]; omega)
   have hS := HS.out
   rw [stoBits_last (f := f) (b := bs.drop d) (by rw [List.length_drop, Hl.out]; omega), show (bs.drop d).length = r from by rw [List.length_drop, Hl.out]; omega] at hS
   have hfin := Lib.hid (show done ++ [1, 0, 0, 0, 0, 0, 0, 0] ++ (lowOf r 16 ++ lowOf (65535 - r) 16) ++ bytesS ((bs.drop d).take r) = stoBits (len + 1) bs by
    rw [hS, htk]
    simp only [List.append_assoc])
   rw [hfin.out] at HW5
   have hlS := Lib.hid (show (stoBits (len + 1) bs).length ≤ 50000000 by rw [← hfin.out, List.length_append, hl4, bytesS_length, htk, List.length_drop, Hl.out]; omega)
   clear hS htk
   rcases A' with _ | ⟨ab, ao, as'⟩
   ·obtain ⟨g1, g2⟩ := HA'.out rfl
    obtain rfl : r = 0 := g1
    obtain rfl : c' = 0 := g2
    go_wp2_with fail
    refine (WBytes_calls wh wh _ v5 _ HW5.out (by have := hlS.out; omega)).mono ?_
    rintro e w6 ⟨v6, rfl, ho6, hb6⟩
    have Ho6 := Lib.hid ho6
    have H6 := Lib.hid (Hb0.out.trans ((wst_below HT5.out (Nat.le_of_eq Hh.out.symm) Hb0.out.size).trans (hb6.mono (Nat.le_trans Hb0.out.size hsz5))))
    clear ho6 hb6
    go_wp2
    go_ret
    have e9 : packB (stoBits (len + 1) bs) = storedB bs := by unfold storedB; rw [Hl.out]; exact stoBits_pack _ (fun x hx => Hb.out x hx)
    have h9 := own_mono Ho6.out (base' := w.heap.size) (Nat.le_trans Hb0.out.size hsz5)
    rw [e9, ← packB_length, e9] at h9
    exact ⟨_, rfl, h9, H6.out⟩
   ·by_cases hcr : r = c'
    ·obtain rfl : r = c' := hcr
     go_wp2_with fail
     refine (WBytes_calls wh wh _ v5 _ HW5.out (by have := hlS.out; omega)).mono ?_
     rintro e w6 ⟨v6, rfl, ho6, hb6⟩
     have Ho6 := Lib.hid ho6
     have H6 := Lib.hid (Hb0.out.trans ((wst_below HT5.out (Nat.le_of_eq Hh.out.symm) Hb0.out.size).trans (hb6.mono (Nat.le_trans Hb0.out.size hsz5))))
     clear ho6 hb6
     go_wp2
     go_ret
     have e9 : packB (stoBits (len + 1) bs) = storedB bs := by unfold storedB; rw [Hl.out]; exact stoBits_pack _ (fun x hx => Hb.out x hx)
     have h9 := own_mono Ho6.out (base' := w.heap.size) (Nat.le_trans Hb0.out.size hsz5)
     rw [e9, ← packB_length, e9] at h9
     exact ⟨_, rfl, h9, H6.out⟩
    ·have hcr2 : r < c' := by omega
     clear hcr
     go_wp2_with fail
     refine (WBytes_calls wh wh _ v5 _ HW5.out (by have := hlS.out; omega)).mono ?_
     rintro e w6 ⟨v6, rfl, ho6, hb6⟩
     have Ho6 := Lib.hid ho6
     have H6 := Lib.hid (Hb0.out.trans ((wst_below HT5.out (Nat.le_of_eq Hh.out.symm) Hb0.out.size).trans (hb6.mono (Nat.le_trans Hb0.out.size hsz5))))
     clear ho6 hb6
     go_wp2
     go_ret
     have e9 : packB (stoBits (len + 1) bs) = storedB bs := by unfold storedB; rw [Hl.out]; exact stoBits_pack _ (fun x hx => Hb.out x hx)
     have h9 := own_mono Ho6.out (base' := w.heap.size) (Nat.le_trans Hb0.out.size hsz5)
     rw [e9, ← packB_length, e9] at h9
     exact ⟨_, rfl, h9, H6.out⟩
  ·have hS := HS.out
   go_wp2_with fail
   refine (Put_calls wh wh 1 done v' (some ⟨wr.heap.size, 0, none⟩) 1 1 [0] _ (HW.out.below ((Below.refl _ _).alloc (Nat.le_refl _) _)) (Blk.rd (heap_alloc_new wr _) rfl) (fun j hj => ?_) (by omega) (fun b o e => HW.out.fresh e) (by omega) (by simp; omega)).mono ?_
   ·obtain rfl : j = 0 := by omega
    decide
   rintro e w1 ⟨v1, rfl, hw1, hs1⟩
   rw [show lows [0] 1 1 = [0] from by decide] at hw1
   have HW1 := Lib.hid hw1
   have HT1 := Lib.hid (HT.out.trans (WStep.after ((Below.refl _ _).alloc (Nat.le_refl _) _) hs1))
   have q1 := cell_of_row w1 (wh + 1) 0 _ _ (0, 0) (HT1.out.blk HWr0.out Hr1.out (by decide) (by omega))
   simp only [List.getElem?_toArray, List.getElem?_cons_zero] at q1
   have hsz1 := HT1.out.fr.size
   clear hw1 hs1 q
   go_wp2_with fail
   refine (Put_calls wh wh 2 _ v1 (some ⟨w1.heap.size, 0, none⟩) 1 1 [0] _ (HW1.out.below ((Below.refl _ _).alloc (Nat.le_refl _) _)) (Blk.rd (heap_alloc_new w1 _) rfl) (fun j hj => ?_) (by omega) (fun b o e => HW1.out.fresh e) (by rw [List.length_append]; show _ + 1 + _ ≤ _; omega) (by simp; omega)).mono ?_
   ·obtain rfl : j = 0 := by omega
    decide
   rintro e w2 ⟨v2, rfl, hw2, hs2⟩
   rw [show lows [0] 2 1 = [0, 0] from by decide, List.append_assoc, show [(0 : Int)] ++ [0, 0] = [0, 0, 0] from rfl] at hw2
   have HW2 := Lib.hid hw2
   have HT2 := Lib.hid (HT1.out.trans (WStep.after ((Below.refl _ _).alloc (Nat.le_refl _) _) hs2))
   have q2 := cell_of_row w2 (wh + 1) 0 _ _ (0, 0) (HT2.out.blk HWr0.out Hr1.out (by decide) (by omega))
   simp only [List.getElem?_toArray, List.getElem?_cons_zero] at q2
   have hsz2 := HT2.out.fr.size
   clear hw2 hs2 q1
   go_wp2_with fail
   refine (Align_calls wh wh _ v2 _ HW2.out).mono ?_
   rintro e w3 ⟨rfl, hw3, hs3⟩
   have eal : alignS (done ++ [0, 0, 0]) = done ++ [0, 0, 0, 0, 0, 0, 0, 0] := by
    unfold alignS
    rw [List.length_append, show ([0, 0, 0] : List Int).length = 3 from rfl, show 8 * ((done.length + 3 + 7) / 8) - (done.length + 3) = 5 from by omega, List.append_assoc]
    rfl
   rw [eal] at hw3
   have HW3 := Lib.hid hw3
   have HT3 := Lib.hid (HT2.out.trans hs3)
   have q3 := cell_of_row w3 (wh + 1) 0 _ _ (0, 0) (HT3.out.blk HWr0.out Hr1.out (by decide) (by omega))
   simp only [List.getElem?_toArray, List.getElem?_cons_zero] at q3
   have hsz3 := HT3.out.fr.size
   clear hw3 hs3 q2 eal
   obtain ⟨y, hy⟩ : ∃ y : Nat, y = 18446744073709551615 - 65535 := ⟨_, rfl⟩
   have hxy : bits BinOp.xor IntKind.u64 IntKind.u64.max (65535 : Int) = ((18446744073709551615 - 65535 : Nat) : Int) := xor_max (r := 65535) (by omega)
   rw [← hy] at hxy
   have hyb : Hid (y < 18446744073709551616) := by rw [hy]; exact Nat.lt_of_le_of_lt (Nat.sub_le _ _) (by decide)
   have Hy := Lib.hid hy
   clear hy
   go_wp2_with fail
   refine (Put_calls wh wh 16 _ v2 (some ⟨w3.heap.size, 0, none⟩) 2 2 [(65535 : Int), (y : Int)] _ (HW3.out.below ((Below.refl _ _).alloc (Nat.le_refl _) _)) (Blk.rd (heap_alloc_new w3 _) rfl) (fun j hj => ?_) (by omega) (fun b o e => HW3.out.fresh e) (by rw [List.length_append]; show _ + 8 + _ ≤ _; omega) (by simp; omega)).mono ?_
   ·rcases (show j = 0 ∨ j = 1 by omega) with rfl | rfl
    ·show 0 ≤ (65535 : Int) ∧ (65535 : Int) < _; omega
    ·have := hyb.out; show 0 ≤ (y : Int) ∧ (y : Int) < _; omega
   rintro e w4 ⟨v4, rfl, hw4, hs4⟩
   have e5 : lows [(65535 : Int), (y : Int)] 16 2 = lowOf 65535 16 ++ lowOf y 16 := lows_two 65535 y 16
   rw [e5, Hy.out, low_not (by omega)] at hw4
   have hl4 : (done ++ [0, 0, 0, 0, 0, 0, 0, 0] ++ (lowOf 65535 16 ++ lowOf (65535 - 65535) 16)).length = done.length + 40 := by simp only [List.length_append, lowOf_length]; rfl
   have HW4 := Lib.hid hw4
   have HT4 := Lib.hid (HT3.out.trans (WStep.after ((Below.refl _ _).alloc (Nat.le_refl _) _) hs4))
   have hsz4 := HT4.out.fr.size
   have q4 := cell_of_row w4.drew (wh + 1) 0 _ _ (0, 0) (HT4.out.blk HWr0.out Hr1.out (by decide) (by omega))
   simp only [List.getElem?_toArray, List.getElem?_cons_zero] at q4
   have HR4 := Lib.hid (rd_take0 (rd_old HR'.out HT4.out.fr Hold'.out) 65535 (by omega))
   clear hw4 hs4 q3 e5 hxy
   obtain ⟨ab, ao, rfl, _⟩ := HR'.out.2 (by omega)
   have hc65 : (65535 : Int) ≤ (c' : Int) := by omega
   have hd65 : (65535 : Int) < (c' : Int) := by omega
   go_upto_region 10 with fail
   refine wp_region_last (n := 5) (on := ⟨_, _, _, _, _, _⟩) (S := fun W => W.cell? ⟨wh + 1, 0, none⟩ = some (.pointer (some ⟨wh, 0, none⟩))) (by kernel_rfl) rfl (by kernel_rfl) (q4) (fun hHeld => ?_)
   refine' wpAnyH_take (i := 0) (oi := ⟨_, _, _, _, _, _⟩) rfl (by kernel_rfl) (by kernel_rfl) (by kernel_rfl) (fun _ _ _ h => h) (Or.inl ⟨by rfl, ?a5⟩) (by assumption) ?b5
   case a5 => (intro w hSw; (try dsimp only at hSw); go_simp; try with_reducible rfl)
   try simp only [Act.put, List.setIfInBounds_toArray, List.set_cons_zero, List.set_cons_succ]
   refine' wpAnyH_take (i := 1) (oi := ⟨_, _, _, _, _, _⟩) rfl (by kernel_rfl) (by kernel_rfl) (by kernel_rfl) (fun _ _ _ h => h) (Or.inl ⟨by rfl, ?a6⟩) (by assumption) ?b6
   case a6 => (intro w hSw; (try dsimp only at hSw); go_simp; try with_reducible rfl)
   try simp only [Act.put, List.setIfInBounds_toArray, List.set_cons_zero, List.set_cons_succ]
   refine' wpAnyH_take (i := 2) (oi := ⟨_, _, _, _, _, _⟩) rfl (by kernel_rfl) (by kernel_rfl) (by kernel_rfl) (fun _ _ _ h => h) (Or.inl ⟨by rfl, ?a7⟩) (by assumption) ?b7
   case a7 => (intro w hSw; (try dsimp only at hSw); go_simp; try with_reducible rfl)
   try simp only [Act.put, List.setIfInBounds_toArray, List.set_cons_zero, List.set_cons_succ]
   refine' wpAnyH_take (i := 3) (oi := ⟨_, _, _, _, _, _⟩) rfl (by kernel_rfl) (by kernel_rfl) (by kernel_rfl) (fun _ _ _ h => h) (Or.inl ⟨by rfl, ?a8⟩) (by assumption) ?b8
   case a8 => (intro w hSw; (try dsimp only at hSw); go_simp; try with_reducible rfl)
   try simp only [Act.put, List.setIfInBounds_toArray, List.set_cons_zero, List.set_cons_succ]
   refine' wpAnyH_take (i := 4) (oi := ⟨_, _, _, _, _, _⟩) rfl (by kernel_rfl) (by kernel_rfl) (by kernel_rfl) (fun _ _ _ h => h) (Or.inl ⟨by rfl, ?a9⟩) (by assumption) ?b9
   case a9 => (intro w hSw; (try dsimp only at hSw); go_simp; try with_reducible rfl)
   try simp only [Act.put, List.setIfInBounds_toArray, List.set_cons_zero, List.set_cons_succ]
   refine wpAnyH_done (by kernel_rfl) ?_ _
   change wpList _ _ _ _ _ _
   clear q4 hHeld
   go_wp2_with fail
   refine (Raw_calls wh wh _ v4 _ 65535 c' ((bs.drop d).take 65535) _ (HW4.out.below (Below.refl _ _).drew) HR4.out.drew (fun x hx => Hb.out x (List.mem_of_mem_drop (List.mem_of_mem_take hx))) (fun e => by cases e) (fun h0 b o e => ?_) (by rw [hl4]; omega) (by simp; omega)).mono ?_
   ·have h1 := Hold'.out (by omega) b o e
    exact ⟨by omega, fun e2 => by have := (HW4.out.own.lt _ e2).1; omega⟩
   rintro e w5 ⟨v5, rfl, hw5, hs5⟩
   rw [alignS_id (by rw [hl4]; omega)] at hw5
   have HW5 := Lib.hid hw5
   have HT5 := Lib.hid (HT4.out.trans (WStep.after (Below.refl _ _).drew hs5))
   have hsz5 := HT5.out.fr.size
   have q5 := cell_of_row w5 (wh + 1) 0 _ _ (0, 0) (HT5.out.blk HWr0.out Hr1.out (by decide) (by omega))
   simp only [List.getElem?_toArray, List.getElem?_cons_zero] at q5
   clear hw5 hs5
   have hS := HS.out
   rw [stoBits_more (f := f) (b := bs.drop d) (by rw [List.length_drop, Hl.out]; omega), List.drop_drop] at hS
   have hfin := Lib.hid (show stoBits (len + 1) bs = (done ++ [0, 0, 0, 0, 0, 0, 0, 0] ++ (lowOf 65535 16 ++ lowOf (65535 - 65535) 16) ++ bytesS ((bs.drop d).take 65535)) ++ stoBits f (bs.drop (d + 65535)) by
    rw [hS]
    simp only [List.append_assoc, Nat.sub_self])
   have hl5 := Lib.hid (show (done ++ [0, 0, 0, 0, 0, 0, 0, 0] ++ (lowOf 65535 16 ++ lowOf (65535 - 65535) 16) ++ bytesS ((bs.drop d).take 65535)).length = done.length + 40 + 8 * 65535 by
    rw [List.length_append, hl4, bytesS_length, List.length_take, List.length_drop, Hl.out, Nat.min_eq_left (by omega)])
   have HR5 := Lib.hid (rd_drop0 HR'.out 65535 (by omega))
   have e6 : r - 65535 = len - (d + 65535) := by omega
   have E6 := Lib.hid e6
   clear hS e6
   go_wp2
   go_roundw
   case rel => exact ⟨d + 65535, c' - 65535, some ⟨ab, ao + 65535, none⟩, f, _, v5, by omega, by rw [← E6.out], by omega, by omega, by rw [hl5.out]; omega, by rw [hl5.out]; omega, (fun e => by cases e), (fun _ b o e => by cases e; exact Hold'.out (by omega) ab ao rfl), by rw [← E6.out, ← List.drop_drop]; exact HR5.out, hfin.out, HW5.out, HT5.out⟩
   case measure => simp [lenS]; omega
end Go.Proofs.YtendohnkhbgfbaaDoor
namespace Go.Proofs.YtendohnkhbgfbaaDoor
open Go.RowKit

theorem rd_revBit {x n k : Nat} (h : k < n) : rd (lowOf x n) k = ((x / 2 ^ k % 2 : Nat) : Int) := rd_lowOf h
set_option maxHeartbeats 1000000 in set_option maxRecDepth 100000 in
theorem High_calls (x n : Nat) (w : World) (hx : x < 18446744073709551616) (hn : n ≤ 64) :
  Calls Tryd.prog 94 #[.int .u64 x, .int .i64 n] w fun e w' => ∃ v, e = .returned v ∧ w'.ownsRow w.heap.size 5 1 v n (ints .u8 (hiOf x n)) ∧ Below w.heap.size w w' := by
 go_enter Tryd.func94, Tryd.ntmps94
 go_wp2_with fail
 refine (Low_calls x n _ hx hn).mono ?_
 rintro e w1 ⟨v1, rfl, ho1, hb1⟩
 obtain ⟨A1, c1, rfl, _, hr1⟩ := own_rd ho1
 have Hr1 := Lib.hid hr1
 have Hb1 := Lib.hid hb1
 clear ho1 hr1 hb1
 go_wp2
 go_loopw [6, 7] (fun v i wr => ∃ (k : Nat) (cur : List Int), k ≤ n ∧ i = .int .i64 ((k : Int) - 1) ∧ cur.length = n - k ∧ Hid (cur ++ hiOf x k = hiOf x n) ∧ Hid (wr.ownsRow w1.heap.size 5 1 v (n - k) (ints .u8 cur)) ∧ Hid (Below w1.heap.size w1 wr)) (fun _ i _ => (intOf i + 1).toNat)
 case atStart => exact ⟨n, [], by omega, by go_num, by simp, rfl, by rw [Nat.sub_self]; exact World.ownsRow_nil _ _ _ _, Below.refl _ _⟩
 case round =>
  obtain ⟨k, cur, hk, rfl, hcl, HC, Ho, Hb⟩ := hrel
  by_cases hlt : 0 < k
  ·obtain ⟨j, rfl⟩ : ∃ j, k = j + 1 := ⟨k - 1, by omega⟩
   obtain ⟨b, o, rfl, hcx⟩ := (Hr1.out.below Hb.out).2 (by omega)
   have z := hcx j (by omega)
   rw [rd_revBit (by omega)] at z
   have hc := HC.out
   rw [hiOf_succ] at hc
   have hbit : x / 2 ^ j % 2 ≤ 1 := by omega
   obtain ⟨bt, hbt⟩ : ∃ bt, bt = x / 2 ^ j % 2 := ⟨_, rfl⟩
   rw [← hbt] at z hbit hc
   have HC2 := Lib.hid hc
   have hsz := Hb.out.size
   obtain ⟨A2, c2, rfl⟩ := own_slice Ho.out
   have s1 : (((j + 1 : Nat) : Int) - 1).toNat = j := by omega
   have s2 : (((j + 1 : Nat) : Int) - 1) = (j : Int) := by omega
   clear hcx hbt hc
   rw [s2]
   go_wp2_with (at_builtin; refine wpList_app3 rfl _ _ rfl elB Ho.out rfl rfl rfl rfl rfl (by omega) hsz ?_; intro g7 cap7 w7 hown7 hfr7 hat7 hlt7)
   go_roundw
   case rel =>
    refine ⟨j, cur ++ [(bt : Int)], by omega, by go_num, by simp; omega, by rw [List.append_assoc]; exact HC2.out, ?_, Hb.out.trans (hfr7.below hsz (own_far Ho.out (Nat.le_refl _)))⟩
    rw [show n - j = n - (j + 1) + 1 from by omega, ints_append]
    exact hown7
   case measure => simp [intOf]
  ·obtain rfl : k = 0 := by omega
   have hc := HC.out
   rw [show hiOf x 0 = [] from rfl, List.append_nil] at hc
   rw [hc, Nat.sub_zero] at Ho
   have hw := Lib.hid (below_seq Hb1.out (Nat.le_refl _) Hb.out)
   have ho := Lib.hid (own_mono Ho.out Hb1.out.size)
   clear hc
   go_wp2
   go_ret
   exact ⟨_, rfl, ho.out, hw.out⟩
def lenV : Value → Nat
 | .slice _ n _ => n
 | _ => 0
def fullOf (L : List Int) : List Int := bitsOf (packB L) 0 (8 * ((L.length + 7) / 8))
theorem fullOf_front {L : List Int} (h : Bit01 L) : fullOf L = L ++ List.replicate (8 * ((L.length + 7) / 8) - L.length) 0 := by
 apply ext_rd (by unfold fullOf; rw [bitsOf_length, List.length_append, List.length_replicate]; omega)
 intro j hj
 unfold fullOf at hj ⊢
 rw [bitsOf_length] at hj
 rw [rd_bitsOf hj, Nat.zero_add, bitAt_packB h hj]
 have h1 := h.rd j
 rcases Nat.lt_or_ge j L.length with g | g
 ·rw [rd_appL g]
  omega
 ·rw [rd_out g]
  have e : j = L.length + (j - L.length) := by omega
  rw [e, rd_appR, rd_zeros]
  rfl
set_option maxHeartbeats 1000000 in set_option maxRecDepth 100000 in
theorem Full_calls (A : Option Addr) (m c : Nat) (L : List Int) (w : World) (hR : Rd w .u8 A m L) (hA : A = none → m = 0 ∧ c = 0) (hL : Bit01 L) (hm : m ≤ 10000000) :
  Calls Tryd.prog 65 #[.slice A m c] w fun e w' => ∃ v, e = .returned v ∧ w'.ownsRow w.heap.size 5 1 v (8 * ((m + 7) / 8)) (ints .u8 (fullOf L)) ∧ Below w.heap.size w w' := by
 have HR := Lib.hid hR
 have hl := Lib.hid hR.1
 have HA := Lib.hid hA
 clear hR hA
 go_enter Tryd.func65, Tryd.ntmps65
 go_wp2_with (at_builtin; refine wpList_appRd rfl _ _ rfl elB (ys := []) (own_empty w _) rfl rfl (HR.out.alloc _) HA.out (by omega) (by simp) ?_; intro v' w' hown hg; rw [Nat.zero_add, List.nil_append] at hown; have Hown := Lib.hid hown; have Hg := Lib.hid hg; clear hown hg)
 have Hb := Lib.hid (((Below.refl _ _).alloc (Nat.le_refl _) _).grown Hg.out (by simp) (fun k hk => by simp [Value.ownBlock] at hk; omega) : Below w.heap.size w w')
 clear Hg
 go_loopw [3] (fun v wr => ∃ k : Nat, m + k ≤ 8 * ((m + 7) / 8) ∧ Hid (wr.ownsRow w.heap.size 5 1 v (m + k) (ints .u8 (L ++ List.replicate k 0))) ∧ Hid (Below w.heap.size w wr)) (fun v _ => 8 * ((m + 7) / 8) - lenV v)
 case atStart => exact ⟨0, by omega, by rw [List.replicate_zero, List.append_nil]; exact Hown.out, Hb.out⟩
 case round =>
  obtain ⟨k, hk, Ho, Hbl⟩ := hrel
  have hsz := Hbl.out.size
  obtain ⟨A2, c2, rfl⟩ := own_slice Ho.out
  obtain ⟨q, hq⟩ : ∃ q, q = m + k := ⟨_, rfl⟩
  have ho := Ho.out
  rw [← hq] at ho hk ⊢
  have Ho2 := Lib.hid ho
  have Hq := Lib.hid hq
  have hq2 : q ≤ 10000010 := by omega
  clear ho hq
  by_cases h8 : q % 8 = 0
  ·have he : q = 8 * ((m + 7) / 8) := by have := Hq.out; omega
   have hfu := fullOf_front hL
   rw [hl.out] at hfu
   have e2 : fullOf L = L ++ List.replicate k 0 := by rw [hfu, ← he, Hq.out, Nat.add_sub_cancel_left]
   have E2 := Lib.hid e2
   have He := Lib.hid he
   have d0 : ((q : Int) % 8 == 0) = true := by rw [beq_iff_eq]; omega
   have d1 : (q : Int) % 8 = 0 := by omega
   clear hfu e2 he
   go_wp2
   go_ret
   exact ⟨_, rfl, by rw [← He.out, E2.out]; exact Ho2.out, Hbl.out⟩
  ·have hlt : q + 1 ≤ 8 * ((m + 7) / 8) := by have := Hq.out; omega
   have d0 : ((q : Int) % 8 == 0) = false := by rw [beq_eq_false_iff_ne]; omega
   have d1 : ¬ (q : Int) % 8 = 0 := by omega
   go_wp2_with (at_builtin; refine wpList_app3 rfl _ _ rfl elB Ho2.out rfl rfl rfl rfl rfl (by omega) hsz ?_; intro g7 cap7 w7 hown7 hfr7 hat7 hlt7)
   go_roundw
   case rel => exact ⟨k + 1, by have := Hq.out; omega, by rw [List.replicate_succ', ← List.append_assoc, ints_append, ← Nat.add_assoc, ← Hq.out]; exact hown7, Hbl.out.trans (hfr7.below hsz (own_far Ho2.out (Nat.le_refl _)))⟩
   case measure => simp [lenV]; omega
set_option maxHeartbeats 1000000 in set_option maxRecDepth 100000 in
theorem Bytes_calls (A : Option Addr) (m c : Nat) (L : List Int) (w : World) (hR : Rd w .u8 A m L) (hA : A = none → m = 0 ∧ c = 0) (hL : Bit01 L) (hm : m ≤ 10000000) :
  Calls Tryd.prog 33 #[.slice A m c] w fun e w' => ∃ v, e = .returned v ∧ w'.ownsRow w.heap.size 5 1 v ((m + 7) / 8) (ints .u8 (packB L)) ∧ Below w.heap.size w w' := by
 have hl := Lib.hid hR.1
 go_enter Tryd.func33, Tryd.ntmps33
 go_wp2_with fail
 refine (Full_calls A m c L _ hR hA hL hm).mono ?_
 rintro e w1 ⟨v1, rfl, ho1, hb1⟩
 obtain ⟨N, hN⟩ : ∃ N, N = (m + 7) / 8 := ⟨_, rfl⟩
 rw [← hN] at ho1
 have HN := Lib.hid hN
 have hlN : (L.length + 7) / 8 = N := by rw [hl.out, hN]
 obtain ⟨A1, c1, rfl, hc1, hr1⟩ := own_rd ho1
 unfold fullOf at hr1
 rw [hlN] at hr1
 have HlN := Lib.hid hlN
 have Hr1 := Lib.hid hr1
 have Hb1 := Lib.hid hb1
 have hN2 : N ≤ 1500000 := by omega
 clear ho1 hr1 hb1 hN hlN hR hA
 go_wp2
 go_loopw [4, 5] (fun v i wr => ∃ k : Nat, k ≤ N ∧ i = .int .i64 ((8 * k : Nat) : Int) ∧ Hid (wr.ownsRow w1.heap.size 5 1 v k (ints .u8 ((packB L).take k))) ∧ Hid (Below w1.heap.size w1 wr)) (fun _ i _ => 8 * N - (intOf i).toNat)
 case atStart => exact ⟨0, by omega, rfl, by rw [List.take_zero]; exact World.ownsRow_nil _ _ _ _, Below.refl _ _⟩
 case round =>
  obtain ⟨k, hk, rfl, Ho, Hb⟩ := hrel
  have hsz := Hb.out.size
  obtain ⟨A2, c2, rfl⟩ := own_slice Ho.out
  by_cases hlt : k < N
  ·obtain ⟨b, o, rfl, _⟩ := Hr1.out.2 (by omega)
   have hp := bits_part (Hr1.out.below Hb.out) (8 * k) 8 (by omega)
   rw [Nat.zero_add] at hp
   have hnum := numAt_byte hL (j := k) (by rw [HlN.out]; exact hlt)
   have hpl := packAt_lt hL k
   have hrd := rd_packB (L := L) (j := k) (by rw [HlN.out]; exact hlt)
   have htk : (packB L).take (k + 1) = (packB L).take k ++ [((packAt L k : Nat) : Int)] := by
    rw [List.take_succ_eq_append_getElem (by rw [packB_length, HlN.out]; exact hlt), ← rd_getElem, hrd]
   obtain ⟨X, hX⟩ : ∃ X, X = packAt L k := ⟨_, rfl⟩
   rw [← hX] at hnum hpl htk
   have Htk := Lib.hid htk
   have Hp := Lib.hid hp
   have Hnum := Lib.hid hnum
   obtain ⟨q, hq⟩ : ∃ q, q = 8 * k := ⟨_, rfl⟩
   rw [← hq]
   have Hq := Lib.hid hq
   have hq2 : q + 8 ≤ 8 * N := by omega
   have s1 : ((q : Int) + 8).toNat = q + 8 := by omega
   have sX : IntKind.u8.wrap (X : Int) = X := IntWalk.u8_in _ (by omega)
   clear htk hp hnum hX hrd hq
   go_wp2_with fail
   refine (Num_calls (some ⟨b, o + q, none⟩) 8 _ q (packB L) _ (by rw [Hq.out]; exact Hp.out) (by omega)).mono ?_
   rintro e w2 ⟨rfl, rfl⟩
   rw [Hq.out, Hnum.out]
   go_wp2_with (at_builtin; refine wpList_app3 rfl _ _ rfl elB Ho.out rfl rfl rfl rfl rfl (by omega) hsz ?_; intro g7 cap7 w7 hown7 hfr7 hat7 hlt7)
   have h77 : q = 8 * k := Hq.out
   have h78 : 8 * (k + 1) = q + 8 := by omega
   clear h77
   have H78 := Lib.hid h78
   clear h78
   go_roundw
   case rel => exact ⟨k + 1, by omega, by rw [H78.out]; have h77 : q = 8 * k := Hq.out; go_num, by rw [Htk.out, ints_append]; exact hown7, Hb.out.trans (hfr7.below hsz (own_far Ho.out (Nat.le_refl _)))⟩
   case measure =>
    have h77 : q = 8 * k := Hq.out
    simp [intOf]
    omega
  ·obtain rfl : k = N := by omega
   have ht : (packB L).take k = packB L := List.take_of_length_le (by rw [packB_length, HlN.out]; exact Nat.le_refl _)
   rw [ht] at Ho
   have hw := Lib.hid (below_seq Hb1.out (Nat.le_refl _) Hb.out)
   have ho := Lib.hid (own_mono Ho.out Hb1.out.size)
   clear ht
   go_wp2
   go_ret
   exact ⟨_, rfl, by rw [← HN.out]; exact ho.out, hw.out⟩
end Go.Proofs.YtendohnkhbgfbaaDoor
namespace Go.Proofs.YtendohnkhbgfbaaDoor
open Go.RowKit

theorem putS_len (xs ys : List Int) (hx : 257 ≤ xs.length) (hx2 : xs.length ≤ 286) (hy : 1 ≤ ys.length) (hy2 : ys.length ≤ 30) (h15 : ∀ j, 0 ≤ rd xs j ∧ rd xs j ≤ 15) (hy15 : ∀ j, 0 ≤ rd ys j ∧ rd ys j ≤ 15) : 14 ≤ (putS xs ys).length ∧ (putS xs ys).length ≤ 100000 := by
 have ta := tn_rng xs 257 (xs.length - 257)
 have tb := tn_rng ys 1 (ys.length - 1)
 have hok : ∀ it ∈ itsOf xs ys, ItemOk it := items_ok (fun j hj => by
  rcases Nat.lt_or_ge j (xs.take (tn xs 257 (xs.length - 257))).length with g | g
  ·rw [rd_appL g]
   have e : rd (xs.take (tn xs 257 (xs.length - 257))) j = rd xs j := by
    rw [List.length_take] at g
    unfold rd
    rw [List.getD_eq_getElem?_getD, List.getD_eq_getElem?_getD, List.getElem?_take_of_lt (by omega)]
   rw [e]
   exact h15 j
  ·obtain ⟨i, rfl⟩ : ∃ i, j = (xs.take (tn xs 257 (xs.length - 257))).length + i := ⟨j - (xs.take (tn xs 257 (xs.length - 257))).length, by omega⟩
   rw [rd_appR]
   rw [List.length_append] at hj
   have hj2 : i < (ys.take (tn ys 1 (ys.length - 1))).length := by omega
   have e : rd (ys.take (tn ys 1 (ys.length - 1))) i = rd ys i := by
    rw [List.length_take] at hj2
    unfold rd
    rw [List.getD_eq_getElem?_getD, List.getD_eq_getElem?_getD, List.getElem?_take_of_lt (by omega)]
   rw [e]
   exact hy15 i)
 have hl : (itsOf xs ys).length ≤ 400 := by
  have h1 := items_le (xs.take (tn xs 257 (xs.length - 257)) ++ ys.take (tn ys 1 (ys.length - 1)))
  rw [List.length_append, List.length_take, List.length_take] at h1
  unfold itsOf
  omega
 have hs : ∀ k, k < (itsOf xs ys).length → itS (itsOf xs ys) k ≤ 18 := fun k hk => (it_at hok hk).2.1
 have hm : manyOf (itsOf xs ys) ≤ 19 := (tn_rng _ 4 15).2
 have hb := bitsIt_length (lensIt (itsOf xs ys)) (itsOf xs ys) (lensIt_rng _ hs) (fun k hk => (it_at hok hk).2.2.1) _ (Nat.le_refl _)
 unfold putS headS
 simp only [List.length_append, lowOf_length, lows_length]
 omega
end Go.Proofs.YtendohnkhbgfbaaDoor
namespace Go.Proofs.YtendohnkhbgfbaaDoor
open Go.RowKit

def OrdAt (w : World) : Prop := ∀ j, j < 19 → w.cell? ⟨1, j, none⟩ = some (.int .i64 (ordL.getD j 0 : Nat))
theorem ints_of_trod {H : Type} {enc : TypeId × Value → H} {P : Program} {w : World} {base : Nat} {sp : Nat → Bool} {held : Bool} {fuel t e n : Nat} {cs : List Value} {nums : List Int} {p : List MemPlace}
  (ht : P.underlying t = some (.array n e)) (k0 : P.underlying e = some (.int .i64)) (ce : P.cellsOf e = 1)
  (h : DataW.trod enc P w base sp held fuel t cs = some (.agg (nums.map fun r => .lit (.int .i64 r)), p)) :
  ∀ j, j < nums.length → cs[j]? = some (.int .i64 (rd nums j)) := by
 obtain ⟨xs, m, rfl, hx, hlen, hn, hel⟩ := DataW.trod_array ht h
 simp only [Prod.mk.injEq, DataW.agg.injEq] at hx
 intro j hj
 have hxl : xs.length = nums.length := by have := congrArg List.length hx.1; simpa using this.symm
 have hz := hel j (by omega)
 obtain ⟨x, hxj⟩ : ∃ x, xs[j]? = some x := ⟨xs[j]'(by omega), by simp [List.getElem?_eq_getElem (show j < xs.length by omega)]⟩
 rw [hxj, ce, Nat.mul_one] at hz
 obtain ⟨r0, e0, f0', _⟩ := DataW.trod_int k0 hz
 have hx1 : x.1 = (DataW.lit (.int .i64 (rd nums j)) : DataW H) := by
  have := congrArg (·[j]?) hx.1
  simp only [List.getElem?_map, hxj, Option.map_some, List.getElem?_eq_getElem hj] at this
  rw [rd_getElem hj]
  exact (Option.some.inj this).symm
 rw [f0'] at hx1
 simp at hx1
 subst hx1
 have g0 := congrArg (·[0]?) e0
 simp [List.getElem?_drop] at g0
 exact g0
theorem gOrd : Tryd.prog.globalNamed "inkwell/codes.order" = some 1 := by kernel_rfl
theorem tOrd : (Tryd.prog.globals[1]?).map (·.type) = some 151 := by kernel_rfl
def ordI : List Int := [16, 17, 18, 0, 8, 7, 9, 6, 10, 5, 11, 4, 12, 3, 13, 2, 14, 1, 15]
theorem rd_ordI : ∀ j, j < 19 → rd ordI j = ((ordL.getD j 0 : Nat) : Int) := by decide
theorem ord_of_laid {W : World} (h : laidMetH Tryd.prog [("inkwell/codes.order", Rows.laid_inkwell_codes_order)] W) : OrdAt W := by
 rw [MakeChecks.laidMetH_plain _ _ _ (by kernel_rfl)] at h
 obtain ⟨ps, ⟨g0, t0, cs0, n0, p0, q0, hg0, ht0, hv0, hd0, _, _⟩, _, _⟩ := h
 obtain rfl := Option.some.inj (gOrd.symm.trans hg0)
 obtain rfl := Option.some.inj (tOrd.symm.trans ht0)
 have u0 := ints_of_trod (nums := ordI) Tryd.underlying151 Tryd.underlying3 (by kernel_rfl) hd0
 intro j hj
 have := u0 j hj
 simp only [Array.getElem?_toList] at this
 rw [World.var?_cell hg0 hv0, this, rd_ordI j hj]
end Go.Proofs.YtendohnkhbgfbaaDoor
