/-
  Texts joined into one file: Raw, Rdr2.
-/
import Derived.Test.YtdbkbeojedndbaaGreatDoorJRefCo14
import Derived.Test.YtdbkbeojedndbaaGreatDoorJRefCo17
import Derived.Maps.AppendAt
import Derived.Test.YtdbkbeojedndbaaGreatDoorJRefCo5
import Derived.Test.YtdbkbeojedndbaaGreatDoorJRefCo6
import Derived.Test.YtdbkbeojedndbaaGreatDoorJRefCo7
namespace Go.Proofs.YtdbkbeojedndbaaGreatDoor
open Go.RowKit

theorem wpList_appRdL {P : Program} {w : World} {ops : Array Oper} {rest : List Oper} {o : Oper} {a : Act} {Q : Exit → Act → World → Prop} (hgd : o.guard = none) (s x : Operand) {t : TypeId}
  (ho : o.op = .call { callee := .builtin .append, args := #[s, x], argTypes := #[t, t] })
  {base : Nat} {e : TypeId} {k : IntKind} {bytes : Nat} (El : ElT P t e (.int k 0) 1 bytes) {v : Value} {n : Nat} {ys : List Int} (hown : w.ownsRow base e 1 v n (ints k ys)) (hs : a.eval s = v)
  {A : Option Addr} {m c : Nat} {zs : List Int} (hx : a.eval x = .slice A m c) (hR : Rd w k A m zs) (hA : A = none → m = 0 ∧ c = 0) (hbytes : (n + m) * bytes ≤ 140737488355328) (hbase : base ≤ w.heap.size)
  (h : ∀ v' w', w'.ownsRow base e 1 v' (n + m) (ints k (ys ++ zs)) → Fr w w' [v.ownBlock] → (v'.ownBlock = v.ownBlock ∨ ∀ k, v'.ownBlock = some k → w.heap.size ≤ k) → wpList P ops Q rest (a.put o.dst v') w') : wpList P ops Q (o :: rest) a w := by
 obtain ⟨i0, hi, hz0, hz1, hz2⟩ := info_parts El.info
 have hn : n + m ≤ maxLen := by
  have := Nat.mul_le_mul_left (n + m) El.bpos
  unfold maxLen
  omega
 have hl := hR.1
 cases A with
 | none =>
  obtain ⟨rfl, rfl⟩ := hA rfl
  have hz : zs = [] := List.length_eq_zero_iff.1 hl
  subst hz
  refine wpList_append_own_none hgd s x t ho base e i0 1 El.und hi v n _ hs hown hx (h v w ?_ (Fr.refl _ _) (.inl rfl))
  simpa using hown
 | some ad =>
  refine wpList_append_own_at _ hgd s x t ho base e i0 (.int k 0) 1 bytes El.und hi hz0 hz1 hz2 El.zs El.pos v n _ hs hown ad m c (ints k zs) hx (by rw [ints_length]; omega) ?_ (fun u hu => ?_) hn hbytes hbase ?_
  ·intro j u hu
   have hj : j < zs.length := by
    have := (List.getElem?_eq_some_iff.1 hu).1
    rwa [ints_length] at this
   obtain ⟨b, o', e', hc⟩ := hR.2 (by omega)
   cases e'
   rw [ints_get hj] at hu
   cases hu
   rw [addr_add]
   exact hc j (by omega)
  ·unfold ints at hu
   obtain ⟨y, _, rfl⟩ := List.mem_map.1 hu
   rfl
  ·intro v' w' h2 h3 _ h5
   rw [← ints_append] at h2
   exact h v' w' h2 (Fr.ofGrown h3) (h5.imp id (fun e k hk => by rw [e] at hk; cases hk; exact Nat.le_refl _))
def alignS (L : List Int) : List Int := L ++ List.replicate (8 * ((L.length + 7) / 8) - L.length) 0
theorem alignS_length (L : List Int) : (alignS L).length = 8 * ((L.length + 7) / 8) := by
 unfold alignS
 rw [List.length_append, List.length_replicate]
 omega
theorem alignS_pack (L : List Int) : packB (alignS L) = packB L := packB_zeros L _ (by omega)
theorem alignS_bit {L : List Int} (h : Bit01 L) : Bit01 (alignS L) := h.app (fun _ hx => .inl (List.eq_of_mem_replicate hx))
set_option maxHeartbeats 1000000 in
theorem Align_calls (B h : Nat) (L : List Int) (v : Value) (w : World) (H : WrAt w B h L v) :
  Calls Tryz.prog 48 #[.pointer (some ⟨h, 0, none⟩)] w fun e w' => e = .returned (.tuple #[]) ∧ WrAt w' B h (alignS L) v ∧ WStep w w' h v v := by
 have c1 := H.c1
 have f1 := frozen_of_row w h 1 _ _ H.at'
 have HH := Lib.hid H
 clear H
 go_enter Tryz.func48, Tryz.ntmps48
 go_wp2
 go_end0
 have hf : Fr w (w.setCell ⟨h, 1, none⟩ (.int .i64 0)) [some h, v.ownBlock] := (Fr.refl w _).set _ _ (.inl (by simp))
 refine ⟨rfl, ⟨?_, ?_, alignS_bit HH.out.bit⟩, hf, .inl rfl⟩
 ·have h1 := heap_setCell_same w h 1 _ _ (.int .i64 0) HH.out.at'
  rw [alignS_length, show 8 * ((8 * ((L.length + 7) / 8) + 7) / 8) - 8 * ((L.length + 7) / 8) = 0 from by omega]
  exact h1
 ·rw [alignS_length, alignS_pack, show (8 * ((L.length + 7) / 8) + 7) / 8 = (L.length + 7) / 8 from by omega]
  refine own_fr HH.out.own ((Fr.refl w [some h]).set ⟨h, 1, none⟩ _ (.inl (by simp))) (fun o ho => ?_)
  simp at ho
  subst ho
  exact HH.out.ap
set_option maxHeartbeats 2000000 in
theorem Raw_calls (B h : Nat) (L : List Int) (v : Value) (A : Option Addr) (m c : Nat) (bs : List Int) (w : World) (H : WrAt w B h L v) (hR : Rd w .u8 A m bs) (hb : ∀ x ∈ bs, 0 ≤ x ∧ x ≤ 255) (hA : A = none → m = 0 ∧ c = 0) (hne : 0 < m → ∀ b o, A = some ⟨b, o, none⟩ → b ≠ h ∧ v.ownBlock ≠ some b) (hL : L.length + 8 * m ≤ 90000000) (hB : B ≤ w.heap.size) :
  Calls Tryz.prog 49 #[.pointer (some ⟨h, 0, none⟩), .slice A m c] w fun e w' => ∃ v', e = .returned (.tuple #[]) ∧ WrAt w' B h (alignS L ++ bytesS bs) v' ∧ WStep w w' h v v' := by
 have HH := Lib.hid H
 have HR := Lib.hid hR
 have Hb := Lib.hid hb
 have HA := Lib.hid hA
 have Hne := Lib.hid hne
 have Hm := Lib.hid hR.1
 clear H hR hb hA hne
 go_enter Tryz.func49, Tryz.ntmps49
 go_wp2_with fail
 refine (Align_calls B h L v _ HH.out).mono ?_
 rintro e w1 ⟨rfl, hw1, hs1⟩
 have HW1 := Lib.hid hw1
 have HS1 := Lib.hid hs1
 have c0 := hw1.c0
 have HR1 : Hid (Rd w1 .u8 A m bs) := by
  rcases Nat.eq_zero_or_pos m with h0 | h0
  ·exact ⟨HR.out.1, fun h => by omega⟩
  ·exact HR.out.frW hs1.fr (fun b o e s hs e2 => by
    subst e2
    simp at hs
    rcases hs with hs | hs
    ·exact (Hne.out h0 b o e).1 hs
    ·exact (Hne.out h0 b o e).2 hs.symm)
 have hsz1 := hs1.fr.size
 have hlen := alignS_length L
 obtain ⟨n, hn⟩ : ∃ n, n = ((alignS L).length + 7) / 8 := ⟨_, rfl⟩
 have ho1 := hw1.own
 rw [← hn] at ho1
 have hn2 : n ≤ 20000000 := by omega
 have Ho1 := Lib.hid ho1
 have Hn := Lib.hid hn
 have Hal := Lib.hid hlen
 clear hw1 hs1 ho1 hn hlen
 go_wp2_with (at_builtin; refine wpList_appRdL rfl _ _ rfl elB Ho1.out rfl rfl HR1.out HA.out (by omega) (by omega) ?_; intro v3 w3 hown3 hfr3 hat3; obtain ⟨A3, p3, rfl⟩ := own_slice hown3; have hrow3 := (hfr3.block h HW1.out.lt (fun o ho e => by simp at ho; subst ho; exact HW1.out.ap h e rfl)).trans HW1.out.at'; have y0 := cell_of_row w3 h 0 _ _ (0, 0) hrow3; have f0 := frozen_of_row w3 h 0 _ _ hrow3; simp only [List.getElem?_toArray, List.getElem?_cons_zero] at y0; have Hrow3 := Lib.hid hrow3; have Hown3 := Lib.hid hown3; have Hfr3 := Lib.hid hfr3; have Hat3 := Lib.hid hat3; clear hrow3 hown3 hfr3 hat3)
 go_end0
 have hal := Hal.out
 have hn := Hn.out
 have e8 : (alignS L ++ bytesS bs).length = 8 * (n + m) := by rw [List.length_append, bytesS_length, Hm.out]; omega
 have hf4 : Fr w1 (w3.setCell ⟨h, 0, none⟩ (.slice A3 (n + m) p3)) [some h, v.ownBlock] := (Hfr3.out.mono (fun o ho => by simp at ho; subst ho; simp)).set _ _ (.inl (by simp))
 refine ⟨_, rfl, ⟨?_, ?_, (alignS_bit HH.out.bit).app (bytesS_bit _)⟩, HS1.out.trans ⟨hf4, Hat3.out⟩⟩
 ·have h1 := heap_setCell_same w3 h 0 _ _ (.slice A3 (n + m) p3) Hrow3.out
  rw [e8, show 8 * ((8 * (n + m) + 7) / 8) - 8 * (n + m) = 0 from by omega]
  rw [show 8 * (((alignS L).length + 7) / 8) - (alignS L).length = 0 from by omega] at h1
  exact h1
 ·rw [e8, packB_app (by rw [alignS_length]; omega), alignS_pack, packB_bytes Hb.out, show (8 * (n + m) + 7) / 8 = n + m from by omega]
  rw [alignS_pack] at Hown3
  refine own_fr Hown3.out ((Fr.refl w3 [some h]).set ⟨h, 0, none⟩ _ (.inl (by simp))) (fun o ho => ?_)
  simp at ho
  subst ho
  exact own_apart Hrow3.out (by decide) Hown3.out
def lenS : Value → Nat
 | .slice _ n _ => n
 | _ => 0
theorem WStep.blk {w w1 : World} {B h wb : Nat} {L : List Int} {v v1 : Value} {cs : Array Value} {T : TypeId} (hs : WStep w w1 h v v1) (H : WrAt w B h L v) (hr : w.heap[wb]? = some (.cells cs T (0, 0))) (hT : T ≠ 5) (hne : wb ≠ h) : w1.heap[wb]? = some (.cells cs T (0, 0)) :=
 (hs.fr.block wb (Array.getElem?_eq_some_iff.1 hr).1 (fun o ho e => by
  simp at ho
  rcases ho with rfl | rfl
  ·exact hne (Option.some.inj e).symm
  ·exact own_apart hr hT H.own wb e rfl)).trans hr
theorem lowOf_mod (x n : Nat) : lowOf (x % 2 ^ n) n = lowOf x n := by
 unfold lowOf
 refine List.map_congr_left (fun i hi => ?_)
 have hi := List.mem_range.1 hi
 congr 1
 obtain ⟨d, rfl⟩ : ∃ d, n = i + (d + 1) := ⟨n - i - 1, by omega⟩
 rw [Nat.pow_add, Nat.mod_mul_right_div_self, Nat.pow_succ, Nat.mul_comm, Nat.mod_mul_right_mod]
theorem xor_max {r : Nat} (h : r ≤ 65535) : bits BinOp.xor IntKind.u64 IntKind.u64.max (r : Int) = ((18446744073709551615 - r : Nat) : Int) := by
 have h1 : (BitVec.ofInt 64 (r : Int)).toNat = r := by rw [BitVec.ofInt_natCast, BitVec.toNat_ofNat]; exact Nat.mod_eq_of_lt (by omega)
 have h2 : BitVec.ofInt 64 IntKind.u64.max = BitVec.allOnes 64 := by decide
 show IntKind.u64.wrap ((BitVec.ofInt 64 IntKind.u64.max ^^^ BitVec.ofInt 64 (r : Int)).toNat : Int) = _
 rw [h2, BitVec.xor_comm, BitVec.xor_allOnes, BitVec.toNat_not, h1]
 exact IntWalk.u64_in _ (by omega)
theorem stoBits_last {f : Nat} {b : List Int} (h : b.length ≤ 65535) : stoBits (f + 1) b = ([1, 0, 0, 0, 0, 0, 0, 0] ++ (lowOf b.length 16 ++ lowOf (65535 - b.length) 16)) ++ bytesS b := by rw [stoBits, if_pos h]
theorem stoBits_more {f : Nat} {b : List Int} (h : ¬ b.length ≤ 65535) : stoBits (f + 1) b = ([0, 0, 0, 0, 0, 0, 0, 0] ++ (lowOf 65535 16 ++ lowOf 0 16)) ++ bytesS (b.take 65535) ++ stoBits f (b.drop 65535) := by rw [stoBits, if_neg h]
theorem alignS_id {L : List Int} (h : L.length % 8 = 0) : alignS L = L := by
 unfold alignS
 rw [show 8 * ((L.length + 7) / 8) - L.length = 0 from by omega]
 exact List.append_nil _
theorem rd_take0 {w : World} {k : IntKind} {A : Option Addr} {n : Nat} {xs : List Int} (h : Rd w k A n xs) (m : Nat) (hm : m ≤ n) : Rd w k A m (xs.take m) := by
 refine ⟨by rw [List.length_take, h.1]; omega, fun hm0 => ?_⟩
 obtain ⟨b, o, rfl, hc⟩ := h.2 (by omega)
 exact ⟨b, o, rfl, (rd_takeF h m hm).2 hm0 |> fun ⟨_, _, e, g⟩ => by cases e; exact g⟩
theorem rd_drop0 {w : World} {k : IntKind} {b o n : Nat} {xs : List Int} (h : Rd w k (some ⟨b, o, none⟩) n xs) (m : Nat) (hm : m ≤ n) : Rd w k (some ⟨b, o + m, none⟩) (n - m) (xs.drop m) := by
 refine ⟨by rw [List.length_drop, h.1], fun hm0 => ⟨b, o + m, rfl, fun j hj => ?_⟩⟩
 obtain ⟨b', o', e, hc⟩ := h.2 (by omega)
 cases e
 have h1 := hc (m + j) (by omega)
 rw [← Nat.add_assoc] at h1
 rw [h1]
 congr 2
 unfold rd
 rw [List.getD_eq_getElem?_getD, List.getD_eq_getElem?_getD, List.getElem?_drop]
theorem wst_below {w w1 : World} {wh C : Nat} {v1 : Value} (hs : WStep w w1 wh (.slice none 0 0) v1) (hB : C ≤ wh) (hC : C ≤ w.heap.size) : Below C w w1 :=
 hs.fr.below hC (fun o ho j e => by
  subst e
  simp [Value.ownBlock] at ho
  omega)
theorem rd_old {w w1 : World} {k : IntKind} {A : Option Addr} {n wh : Nat} {xs : List Int} (h : Rd w k A n xs) (hf : Fr w w1 [some wh, (Value.slice none 0 0).ownBlock]) (hold : 0 < n → ∀ b o, A = some ⟨b, o, none⟩ → b < wh) : Rd w1 k A n xs := by
 rcases Nat.eq_zero_or_pos n with h0 | h0
 ·exact ⟨h.1, fun h => by omega⟩
 ·exact h.frW hf (fun b o e s hs e2 => by
   have h1 := hold h0 b o e
   simp [Value.ownBlock] at hs
   rcases hs with hs | hs
   ·rw [hs] at e2; cases e2; omega
   ·rw [hs] at e2; cases e2)
theorem low_not {r : Nat} (h : r ≤ 65535) : lowOf (18446744073709551615 - r) 16 = lowOf (65535 - r) 16 := by
 rw [← lowOf_mod (18446744073709551615 - r), ← lowOf_mod (65535 - r)]
 congr 1
 omega
set_option maxHeartbeats 1000000 in set_option maxRecDepth 100000 in
theorem Stored_calls (A : Option Addr) (len cap : Nat) (bs : List Int) (w : World) (hR : Rd w .u8 A len bs) (hb : ∀ x ∈ bs, 0 ≤ x ∧ x ≤ 255) (hA : A = none → len = 0 ∧ cap = 0) (hcap : len ≤ cap) (hlen : len ≤ 1000000) :
  Calls Tryz.prog 33 #[.slice A len cap] w fun e w' => ∃ v, e = .returned v ∧ w'.ownsRow w.heap.size 5 1 v (storedB bs).length (ints .u8 (storedB bs)) ∧ Below w.heap.size w w' := by
 have HR := Lib.hid hR
 have Hb := Lib.hid hb
 have HA := Lib.hid hA
 have Hl := Lib.hid hR.1
 clear hR hb hA
 go_enter Tryz.func33, Tryz.ntmps33
 go_upto_region 2 with fail
 obtain ⟨W0, hW0⟩ : ∃ W, W = (w.alloc (.cells #[.slice none 0 0, .int .i64 0] 82)).alloc (.cells #[.pointer (some ⟨w.heap.size, 0, none⟩)] 84) := ⟨_, rfl⟩
 obtain ⟨wh, hh⟩ : ∃ wh, wh = w.heap.size := ⟨_, rfl⟩
 rw [← hh] at hW0
 rw [← hh, ← hW0]
 have hb0 : Below w.heap.size w W0 := by rw [hW0]; exact below_new ((Below.refl _ _).alloc (Nat.le_refl _) _) (Nat.le_refl _) _
 have hs0 : W0.heap.size = wh + 2 := by rw [hW0, hh]; simp
 have hr0 : W0.heap[wh]? = some (.cells #[.slice none 0 0, .int .i64 0] 82 (0, 0)) := by
  rw [hW0, hh, Below.heap_alloc _ _ _ (by simp)]
  exact heap_alloc_new w _
 have hr1 : W0.heap[wh + 1]? = some (.cells #[.pointer (some ⟨wh, 0, none⟩)] 84 (0, 0)) := by
  have h9 := heap_alloc_new (w.alloc (.cells #[.slice none 0 0, .int .i64 0] 82)) (.cells #[.pointer (some ⟨wh, 0, none⟩)] 84)
  rw [hW0]
  simp only [World.size_alloc, ← hh] at h9
  exact h9
 have HWr0 : Hid (WrAt W0 wh wh [] (.slice none 0 0)) := ⟨hr0, World.ownsRow_nil _ _ _ _, fun z hz => by cases hz⟩
 have Hh := Lib.hid hh
 have Hb0 := Lib.hid hb0
 have Hr1 := Lib.hid hr1
 have hold : Hid (0 < len → ∀ b o, A = some ⟨b, o, none⟩ → b < wh) := fun h0 b o e => by
  obtain ⟨_, _, e2, hc⟩ := HR.out.2 h0
  rw [e] at e2
  cases e2
  rw [hh]
  exact World.block_lt_of_cell? _ _ (hc 0 h0)
 clear hW0 hh hb0 hr0 hr1
 go_wp2
 go_loopw [0] (fun b wr => ∃ (d c' : Nat) (A' : Option Addr) (fu : Nat) (done : List Int) (v' : Value), d ≤ len ∧ b = .slice A' (len - d) c' ∧ len - d ≤ c' ∧ len - d < fu ∧ done.length ≤ 16 * d ∧ done.length % 8 = 0 ∧ Hid (A' = none → len - d = 0 ∧ c' = 0) ∧ Hid (0 < len - d → ∀ b o, A' = some ⟨b, o, none⟩ → b < wh) ∧ Hid (Rd W0 .u8 A' (len - d) (bs.drop d)) ∧ Hid (stoBits (len + 1) bs = done ++ stoBits fu (bs.drop d)) ∧ Hid (WrAt wr wh wh done v') ∧ Hid (WStep W0 wr wh (.slice none 0 0) v')) (fun b _ => lenS b)
 case atStart => exact ⟨0, cap, A, len + 1, [], _, by omega, rfl, by omega, by omega, by simp, rfl, HA.out, hold.out, HR.out.below Hb0.out, rfl, HWr0.out, WStep.refl _ _ _⟩
 case round =>
  obtain ⟨d, c', A', fu, done, v', hd, rfl, hc', hfu, hdl, hd8, HA', Hold', HR', HS, HW, HT⟩ := hrel
  obtain ⟨r, hr⟩ : ∃ r, r = len - d := ⟨_, rfl⟩
  rw [← hr] at hc' hfu HA' Hold' HR' ⊢
  have hrl : r + d = len := by omega
  have Hr := Lib.hid hr
  clear hr
  obtain ⟨f, rfl⟩ : ∃ f, fu = f + 1 := ⟨fu - 1, by omega⟩
  have hszr := HT.out.fr.size
  have hrow := HT.out.blk HWr0.out Hr1.out (by decide) (by omega)
  have q := cell_of_row wr (wh + 1) 0 _ _ (0, 0) hrow
  simp only [List.getElem?_toArray, List.getElem?_cons_zero] at q
  have Hrow := Lib.hid hrow
  clear hrow
  by_cases hlast : r ≤ 65535
  ·have hS := HS.out
   go_wp2_with fail
   refine (Put_calls wh wh 1 done v' (some ⟨wr.heap.size, 0, none⟩) 1 1 [1] _ (HW.out.below ((Below.refl _ _).alloc (Nat.le_refl _) _)) (Blk.rd (heap_alloc_new wr _) rfl) (fun j hj => ?_) (by omega) (fun b o e => HW.out.fresh e) (by omega) (by simp; omega)).mono ?_
   ·obtain rfl : j = 0 := by omega
    decide
   rintro e w1 ⟨v1, rfl, hw1, hs1⟩
   rw [show lows [1] 1 1 = [1] from by decide] at hw1
   have HW1 := Lib.hid hw1
   have HT1 := Lib.hid (HT.out.trans (WStep.after ((Below.refl _ _).alloc (Nat.le_refl _) _) hs1))
   have q1 := cell_of_row w1 (wh + 1) 0 _ _ (0, 0) (HT1.out.blk HWr0.out Hr1.out (by decide) (by omega))
   simp only [List.getElem?_toArray, List.getElem?_cons_zero] at q1
   have hsz1 := HT1.out.fr.size
   clear hw1 hs1 q
   go_wp2_with fail
   refine (Put_calls wh wh 2 _ v1 (some ⟨w1.heap.size, 0, none⟩) 1 1 [0] _ (HW1.out.below ((Below.refl _ _).alloc (Nat.le_refl _) _)) (Blk.rd (heap_alloc_new w1 _) rfl) (fun j hj => ?_) (by omega) (fun b o e => HW1.out.fresh e) (by rw [List.length_append]; show _ + 1 + _ ≤ _; omega) (by simp; omega)).mono ?_
   ·obtain rfl : j = 0 := by omega
    decide
   rintro e w2 ⟨v2, rfl, hw2, hs2⟩
   rw [show lows [0] 2 1 = [0, 0] from by decide, List.append_assoc, show [(1 : Int)] ++ [0, 0] = [1, 0, 0] from rfl] at hw2
   have HW2 := Lib.hid hw2
   have HT2 := Lib.hid (HT1.out.trans (WStep.after ((Below.refl _ _).alloc (Nat.le_refl _) _) hs2))
   have q2 := cell_of_row w2 (wh + 1) 0 _ _ (0, 0) (HT2.out.blk HWr0.out Hr1.out (by decide) (by omega))
   simp only [List.getElem?_toArray, List.getElem?_cons_zero] at q2
   have hsz2 := HT2.out.fr.size
   clear hw2 hs2 q1
   go_wp2_with fail
   refine (Align_calls wh wh _ v2 _ HW2.out).mono ?_
   rintro e w3 ⟨rfl, hw3, hs3⟩
   have eal : alignS (done ++ [1, 0, 0]) = done ++ [1, 0, 0, 0, 0, 0, 0, 0] := by
    unfold alignS
    rw [List.length_append, show ([1, 0, 0] : List Int).length = 3 from rfl, show 8 * ((done.length + 3 + 7) / 8) - (done.length + 3) = 5 from by omega, List.append_assoc]
    rfl
   rw [eal] at hw3
   have HW3 := Lib.hid hw3
   have HT3 := Lib.hid (HT2.out.trans hs3)
   have q3 := cell_of_row w3 (wh + 1) 0 _ _ (0, 0) (HT3.out.blk HWr0.out Hr1.out (by decide) (by omega))
   simp only [List.getElem?_toArray, List.getElem?_cons_zero] at q3
   have hsz3 := HT3.out.fr.size
   clear hw3 hs3 q2 eal
   obtain ⟨y, hy⟩ : ∃ y : Nat, y = 18446744073709551615 - r := ⟨_, rfl⟩
   have hxy : bits BinOp.xor IntKind.u64 IntKind.u64.max (r : Int) = ((18446744073709551615 - r : Nat) : Int) := xor_max (r := r) (by omega)
   rw [← hy] at hxy
   have hyb : Hid (y < 18446744073709551616) := by rw [hy]; exact Nat.lt_of_le_of_lt (Nat.sub_le _ _) (by decide)
   have Hy := Lib.hid hy
   clear hy
   go_wp2_with fail
   refine (Put_calls wh wh 16 _ v2 (some ⟨w3.heap.size, 0, none⟩) 2 2 [(r : Int), (y : Int)] _ (HW3.out.below ((Below.refl _ _).alloc (Nat.le_refl _) _)) (Blk.rd (heap_alloc_new w3 _) rfl) (fun j hj => ?_) (by omega) (fun b o e => HW3.out.fresh e) (by rw [List.length_append]; show _ + 8 + _ ≤ _; omega) (by simp; omega)).mono ?_
   ·rcases (show j = 0 ∨ j = 1 by omega) with rfl | rfl
    ·show 0 ≤ (r : Int) ∧ (r : Int) < _; omega
    ·have := hyb.out; show 0 ≤ (y : Int) ∧ (y : Int) < _; omega
   rintro e w4 ⟨v4, rfl, hw4, hs4⟩
   have e5 : lows [(r : Int), (y : Int)] 16 2 = lowOf r 16 ++ lowOf y 16 := lows_two r y 16
   rw [e5, Hy.out, low_not (by omega)] at hw4
   have hl4 : (done ++ [1, 0, 0, 0, 0, 0, 0, 0] ++ (lowOf r 16 ++ lowOf (65535 - r) 16)).length = done.length + 40 := by simp only [List.length_append, lowOf_length]; rfl
   have HW4 := Lib.hid hw4
   have HT4 := Lib.hid (HT3.out.trans (WStep.after ((Below.refl _ _).alloc (Nat.le_refl _) _) hs4))
   have hsz4 := HT4.out.fr.size
   have q4 := cell_of_row w4.drew (wh + 1) 0 _ _ (0, 0) (HT4.out.blk HWr0.out Hr1.out (by decide) (by omega))
   simp only [List.getElem?_toArray, List.getElem?_cons_zero] at q4
   have HR4 := Lib.hid (rd_take0 (rd_old HR'.out HT4.out.fr Hold'.out) r (by omega))
   clear hw4 hs4 q3 e5 hxy
   go_upto_region 10 with fail
   refine wp_region_last (n := 5) (on := ⟨_, _, _, _, _, _⟩) (S := fun W => W.cell? ⟨wh + 1, 0, none⟩ = some (.pointer (some ⟨wh, 0, none⟩))) (by kernel_rfl) rfl (by kernel_rfl) (q4) (fun hHeld => ?_)
   refine' wpAnyH_take (i := 0) (oi := ⟨_, _, _, _, _, _⟩) rfl (by kernel_rfl) (by kernel_rfl) (by kernel_rfl) (fun _ _ _ h => h) (Or.inl ⟨by rfl, ?a0⟩) (by assumption) ?b0
   case a0 => (intro w hSw; (try dsimp only at hSw); go_simp; try with_reducible rfl)
   try simp only [Act.put, List.setIfInBounds_toArray, List.set_cons_zero, List.set_cons_succ]
   refine' wpAnyH_take (i := 1) (oi := ⟨_, _, _, _, _, _⟩) rfl (by kernel_rfl) (by kernel_rfl) (by kernel_rfl) (fun _ _ _ h => h) (Or.inl ⟨by rfl, ?a1⟩) (by assumption) ?b1
   case a1 => (intro w hSw; (try dsimp only at hSw); go_simp; try with_reducible rfl)
   try simp only [Act.put, List.setIfInBounds_toArray, List.set_cons_zero, List.set_cons_succ]
   refine' wpAnyH_take (i := 2) (oi := ⟨_, _, _, _, _, _⟩) rfl (by kernel_rfl) (by kernel_rfl) (by kernel_rfl) (fun _ _ _ h => h) (Or.inl ⟨by rfl, ?a2⟩) (by assumption) ?b2
   case a2 => (intro w hSw; (try dsimp only at hSw); go_simp; try with_reducible rfl)
   try simp only [Act.put, List.setIfInBounds_toArray, List.set_cons_zero, List.set_cons_succ]
   refine' wpAnyH_take (i := 3) (oi := ⟨_, _, _, _, _, _⟩) rfl (by kernel_rfl) (by kernel_rfl) (by kernel_rfl) (fun _ _ _ h => h) (Or.inl ⟨by rfl, ?a3⟩) (by assumption) ?b3
   case a3 => (intro w hSw; (try dsimp only at hSw); go_simp; try with_reducible rfl)
   try simp only [Act.put, List.setIfInBounds_toArray, List.set_cons_zero, List.set_cons_succ]
   refine' wpAnyH_take (i := 4) (oi := ⟨_, _, _, _, _, _⟩) rfl (by kernel_rfl) (by kernel_rfl) (by kernel_rfl) (fun _ _ _ h => h) (Or.inl ⟨by rfl, ?a4⟩) (by assumption) ?b4
   case a4 => (intro w hSw; (try dsimp only at hSw); go_simp; try with_reducible rfl)
   try simp only [Act.put, List.setIfInBounds_toArray, List.set_cons_zero, List.set_cons_succ]
   refine wpAnyH_done (by kernel_rfl) ?_ _
   change wpList _ _ _ _ _ _
   clear q4 hHeld
   go_wp2_with fail
   refine (Raw_calls wh wh _ v4 _ r c' ((bs.drop d).take r) _ (HW4.out.below (Below.refl _ _).drew) HR4.out.drew (fun x hx => Hb.out x (List.mem_of_mem_drop (List.mem_of_mem_take hx))) (HA'.out) (fun h0 b o e => ?_) (by rw [hl4]; omega) (by simp; omega)).mono ?_
   ·have h1 := Hold'.out (by omega) b o e
    exact ⟨by omega, fun e2 => by have := (HW4.out.own.lt _ e2).1; omega⟩
   rintro e w5 ⟨v5, rfl, hw5, hs5⟩
   rw [alignS_id (by rw [hl4]; omega)] at hw5
   have HW5 := Lib.hid hw5
   have HT5 := Lib.hid (HT4.out.trans (WStep.after (Below.refl _ _).drew hs5))
   have hsz5 := HT5.out.fr.size
   have q5 := cell_of_row w5 (wh + 1) 0 _ _ (0, 0) (HT5.out.blk HWr0.out Hr1.out (by decide) (by omega))
   simp only [List.getElem?_toArray, List.getElem?_cons_zero] at q5
   clear hw5 hs5
   have htk : (bs.drop d).take r = bs.drop d := List.take_of_length_le (by rw [List.length_drop, Hl.out]; omega)
   have hS := HS.out
   rw [stoBits_last (f := f) (b := bs.drop d) (by rw [List.length_drop, Hl.out]; omega), show (bs.drop d).length = r from by rw [List.length_drop, Hl.out]; omega] at hS
   have hfin := Lib.hid (show done ++ [1, 0, 0, 0, 0, 0, 0, 0] ++ (lowOf r 16 ++ lowOf (65535 - r) 16) ++ bytesS ((bs.drop d).take r) = stoBits (len + 1) bs by
    rw [hS, htk]
    simp only [List.append_assoc])
   rw [hfin.out] at HW5
   have hlS := Lib.hid (show (stoBits (len + 1) bs).length ≤ 50000000 by rw [← hfin.out, List.length_append, hl4, bytesS_length, htk, List.length_drop, Hl.out]; omega)
   clear hS htk
   rcases A' with _ | ⟨ab, ao, as'⟩
   ·obtain ⟨g1, g2⟩ := HA'.out rfl
    obtain rfl : r = 0 := g1
    obtain rfl : c' = 0 := g2
    go_wp2_with fail
    refine (WBytes_calls wh wh _ v5 _ HW5.out (by have := hlS.out; omega)).mono ?_
    rintro e w6 ⟨v6, rfl, ho6, hb6⟩
    have Ho6 := Lib.hid ho6
    have H6 := Lib.hid (Hb0.out.trans ((wst_below HT5.out (Nat.le_of_eq Hh.out.symm) Hb0.out.size).trans (hb6.mono (Nat.le_trans Hb0.out.size hsz5))))
    clear ho6 hb6
    go_wp2
    go_ret
    have e9 : packB (stoBits (len + 1) bs) = storedB bs := by unfold storedB; rw [Hl.out]; exact stoBits_pack _ (fun x hx => Hb.out x hx)
    have h9 := own_mono Ho6.out (base' := w.heap.size) (Nat.le_trans Hb0.out.size hsz5)
    rw [e9, ← packB_length, e9] at h9
    exact ⟨_, rfl, h9, H6.out⟩
   ·by_cases hcr : r = c'
    ·obtain rfl : r = c' := hcr
     go_wp2_with fail
     refine (WBytes_calls wh wh _ v5 _ HW5.out (by have := hlS.out; omega)).mono ?_
     rintro e w6 ⟨v6, rfl, ho6, hb6⟩
     have Ho6 := Lib.hid ho6
     have H6 := Lib.hid (Hb0.out.trans ((wst_below HT5.out (Nat.le_of_eq Hh.out.symm) Hb0.out.size).trans (hb6.mono (Nat.le_trans Hb0.out.size hsz5))))
     clear ho6 hb6
     go_wp2
     go_ret
     have e9 : packB (stoBits (len + 1) bs) = storedB bs := by unfold storedB; rw [Hl.out]; exact stoBits_pack _ (fun x hx => Hb.out x hx)
     have h9 := own_mono Ho6.out (base' := w.heap.size) (Nat.le_trans Hb0.out.size hsz5)
     rw [e9, ← packB_length, e9] at h9
     exact ⟨_, rfl, h9, H6.out⟩
    ·have hcr2 : r < c' := by omega
     clear hcr
     go_wp2_with fail
     refine (WBytes_calls wh wh _ v5 _ HW5.out (by have := hlS.out; omega)).mono ?_
     rintro e w6 ⟨v6, rfl, ho6, hb6⟩
     have Ho6 := Lib.hid ho6
     have H6 := Lib.hid (Hb0.out.trans ((wst_below HT5.out (Nat.le_of_eq Hh.out.symm) Hb0.out.size).trans (hb6.mono (Nat.le_trans Hb0.out.size hsz5))))
     clear ho6 hb6
     go_wp2
     go_ret
     have e9 : packB (stoBits (len + 1) bs) = storedB bs := by unfold storedB; rw [Hl.out]; exact stoBits_pack _ (fun x hx => Hb.out x hx)
     have h9 := own_mono Ho6.out (base' := w.heap.size) (Nat.le_trans Hb0.out.size hsz5)
     rw [e9, ← packB_length, e9] at h9
     exact ⟨_, rfl, h9, H6.out⟩
  ·have hS := HS.out
   go_wp2_with fail
   refine (Put_calls wh wh 1 done v' (some ⟨wr.heap.size, 0, none⟩) 1 1 [0] _ (HW.out.below ((Below.refl _ _).alloc (Nat.le_refl _) _)) (Blk.rd (heap_alloc_new wr _) rfl) (fun j hj => ?_) (by omega) (fun b o e => HW.out.fresh e) (by omega) (by simp; omega)).mono ?_
   ·obtain rfl : j = 0 := by omega
    decide
   rintro e w1 ⟨v1, rfl, hw1, hs1⟩
   rw [show lows [0] 1 1 = [0] from by decide] at hw1
   have HW1 := Lib.hid hw1
   have HT1 := Lib.hid (HT.out.trans (WStep.after ((Below.refl _ _).alloc (Nat.le_refl _) _) hs1))
   have q1 := cell_of_row w1 (wh + 1) 0 _ _ (0, 0) (HT1.out.blk HWr0.out Hr1.out (by decide) (by omega))
   simp only [List.getElem?_toArray, List.getElem?_cons_zero] at q1
   have hsz1 := HT1.out.fr.size
   clear hw1 hs1 q
   go_wp2_with fail
   refine (Put_calls wh wh 2 _ v1 (some ⟨w1.heap.size, 0, none⟩) 1 1 [0] _ (HW1.out.below ((Below.refl _ _).alloc (Nat.le_refl _) _)) (Blk.rd (heap_alloc_new w1 _) rfl) (fun j hj => ?_) (by omega) (fun b o e => HW1.out.fresh e) (by rw [List.length_append]; show _ + 1 + _ ≤ _; omega) (by simp; omega)).mono ?_
   ·obtain rfl : j = 0 := by omega
    decide
   rintro e w2 ⟨v2, rfl, hw2, hs2⟩
   rw [show lows [0] 2 1 = [0, 0] from by decide, List.append_assoc, show [(0 : Int)] ++ [0, 0] = [0, 0, 0] from rfl] at hw2
   have HW2 := Lib.hid hw2
   have HT2 := Lib.hid (HT1.out.trans (WStep.after ((Below.refl _ _).alloc (Nat.le_refl _) _) hs2))
   have q2 := cell_of_row w2 (wh + 1) 0 _ _ (0, 0) (HT2.out.blk HWr0.out Hr1.out (by decide) (by omega))
   simp only [List.getElem?_toArray, List.getElem?_cons_zero] at q2
   have hsz2 := HT2.out.fr.size
   clear hw2 hs2 q1
   go_wp2_with fail
   refine (Align_calls wh wh _ v2 _ HW2.out).mono ?_
   rintro e w3 ⟨rfl, hw3, hs3⟩
   have eal : alignS (done ++ [0, 0, 0]) = done ++ [0, 0, 0, 0, 0, 0, 0, 0] := by
    unfold alignS
    rw [List.length_append, show ([0, 0, 0] : List Int).length = 3 from rfl, show 8 * ((done.length + 3 + 7) / 8) - (done.length + 3) = 5 from by omega, List.append_assoc]
    rfl
   rw [eal] at hw3
   have HW3 := Lib.hid hw3
   have HT3 := Lib.hid (HT2.out.trans hs3)
   have q3 := cell_of_row w3 (wh + 1) 0 _ _ (0, 0) (HT3.out.blk HWr0.out Hr1.out (by decide) (by omega))
   simp only [List.getElem?_toArray, List.getElem?_cons_zero] at q3
   have hsz3 := HT3.out.fr.size
   clear hw3 hs3 q2 eal
   obtain ⟨y, hy⟩ : ∃ y : Nat, y = 18446744073709551615 - 65535 := ⟨_, rfl⟩
   have hxy : bits BinOp.xor IntKind.u64 IntKind.u64.max (65535 : Int) = ((18446744073709551615 - 65535 : Nat) : Int) := xor_max (r := 65535) (by omega)
   rw [← hy] at hxy
   have hyb : Hid (y < 18446744073709551616) := by rw [hy]; exact Nat.lt_of_le_of_lt (Nat.sub_le _ _) (by decide)
   have Hy := Lib.hid hy
   clear hy
   go_wp2_with fail
   refine (Put_calls wh wh 16 _ v2 (some ⟨w3.heap.size, 0, none⟩) 2 2 [(65535 : Int), (y : Int)] _ (HW3.out.below ((Below.refl _ _).alloc (Nat.le_refl _) _)) (Blk.rd (heap_alloc_new w3 _) rfl) (fun j hj => ?_) (by omega) (fun b o e => HW3.out.fresh e) (by rw [List.length_append]; show _ + 8 + _ ≤ _; omega) (by simp; omega)).mono ?_
   ·rcases (show j = 0 ∨ j = 1 by omega) with rfl | rfl
    ·show 0 ≤ (65535 : Int) ∧ (65535 : Int) < _; omega
    ·have := hyb.out; show 0 ≤ (y : Int) ∧ (y : Int) < _; omega
   rintro e w4 ⟨v4, rfl, hw4, hs4⟩
   have e5 : lows [(65535 : Int), (y : Int)] 16 2 = lowOf 65535 16 ++ lowOf y 16 := lows_two 65535 y 16
   rw [e5, Hy.out, low_not (by omega)] at hw4
   have hl4 : (done ++ [0, 0, 0, 0, 0, 0, 0, 0] ++ (lowOf 65535 16 ++ lowOf (65535 - 65535) 16)).length = done.length + 40 := by simp only [List.length_append, lowOf_length]; rfl
   have HW4 := Lib.hid hw4
   have HT4 := Lib.hid (HT3.out.trans (WStep.after ((Below.refl _ _).alloc (Nat.le_refl _) _) hs4))
   have hsz4 := HT4.out.fr.size
   have q4 := cell_of_row w4.drew (wh + 1) 0 _ _ (0, 0) (HT4.out.blk HWr0.out Hr1.out (by decide) (by omega))
   simp only [List.getElem?_toArray, List.getElem?_cons_zero] at q4
   have HR4 := Lib.hid (rd_take0 (rd_old HR'.out HT4.out.fr Hold'.out) 65535 (by omega))
   clear hw4 hs4 q3 e5 hxy
   obtain ⟨ab, ao, rfl, _⟩ := HR'.out.2 (by omega)
   have hc65 : (65535 : Int) ≤ (c' : Int) := by omega
   have hd65 : (65535 : Int) < (c' : Int) := by omega
   go_upto_region 10 with fail
   refine wp_region_last (n := 5) (on := ⟨_, _, _, _, _, _⟩) (S := fun W => W.cell? ⟨wh + 1, 0, none⟩ = some (.pointer (some ⟨wh, 0, none⟩))) (by kernel_rfl) rfl (by kernel_rfl) (q4) (fun hHeld => ?_)
   refine' wpAnyH_take (i := 0) (oi := ⟨_, _, _, _, _, _⟩) rfl (by kernel_rfl) (by kernel_rfl) (by kernel_rfl) (fun _ _ _ h => h) (Or.inl ⟨by rfl, ?a5⟩) (by assumption) ?b5
   case a5 => (intro w hSw; (try dsimp only at hSw); go_simp; try with_reducible rfl)
   try simp only [Act.put, List.setIfInBounds_toArray, List.set_cons_zero, List.set_cons_succ]
   refine' wpAnyH_take (i := 1) (oi := ⟨_, _, _, _, _, _⟩) rfl (by kernel_rfl) (by kernel_rfl) (by kernel_rfl) (fun _ _ _ h => h) (Or.inl ⟨by rfl, ?a6⟩) (by assumption) ?b6
   case a6 => (intro w hSw; (try dsimp only at hSw); go_simp; try with_reducible rfl)
   try simp only [Act.put, List.setIfInBounds_toArray, List.set_cons_zero, List.set_cons_succ]
   refine' wpAnyH_take (i := 2) (oi := ⟨_, _, _, _, _, _⟩) rfl (by kernel_rfl) (by kernel_rfl) (by kernel_rfl) (fun _ _ _ h => h) (Or.inl ⟨by rfl, ?a7⟩) (by assumption) ?b7
   case a7 => (intro w hSw; (try dsimp only at hSw); go_simp; try with_reducible rfl)
   try simp only [Act.put, List.setIfInBounds_toArray, List.set_cons_zero, List.set_cons_succ]
   refine' wpAnyH_take (i := 3) (oi := ⟨_, _, _, _, _, _⟩) rfl (by kernel_rfl) (by kernel_rfl) (by kernel_rfl) (fun _ _ _ h => h) (Or.inl ⟨by rfl, ?a8⟩) (by assumption) ?b8
   case a8 => (intro w hSw; (try dsimp only at hSw); go_simp; try with_reducible rfl)
   try simp only [Act.put, List.setIfInBounds_toArray, List.set_cons_zero, List.set_cons_succ]
   refine' wpAnyH_take (i := 4) (oi := ⟨_, _, _, _, _, _⟩) rfl (by kernel_rfl) (by kernel_rfl) (by kernel_rfl) (fun _ _ _ h => h) (Or.inl ⟨by rfl, ?a9⟩) (by assumption) ?b9
   case a9 => (intro w hSw; (try dsimp only at hSw); go_simp; try with_reducible rfl)
   try simp only [Act.put, List.setIfInBounds_toArray, List.set_cons_zero, List.set_cons_succ]
   refine wpAnyH_done (by kernel_rfl) ?_ _
   change wpList _ _ _ _ _ _
   clear q4 hHeld
   go_wp2_with fail
   refine (Raw_calls wh wh _ v4 _ 65535 c' ((bs.drop d).take 65535) _ (HW4.out.below (Below.refl _ _).drew) HR4.out.drew (fun x hx => Hb.out x (List.mem_of_mem_drop (List.mem_of_mem_take hx))) (fun e => by cases e) (fun h0 b o e => ?_) (by rw [hl4]; omega) (by simp; omega)).mono ?_
   ·have h1 := Hold'.out (by omega) b o e
    exact ⟨by omega, fun e2 => by have := (HW4.out.own.lt _ e2).1; omega⟩
   rintro e w5 ⟨v5, rfl, hw5, hs5⟩
   rw [alignS_id (by rw [hl4]; omega)] at hw5
   have HW5 := Lib.hid hw5
   have HT5 := Lib.hid (HT4.out.trans (WStep.after (Below.refl _ _).drew hs5))
   have hsz5 := HT5.out.fr.size
   have q5 := cell_of_row w5 (wh + 1) 0 _ _ (0, 0) (HT5.out.blk HWr0.out Hr1.out (by decide) (by omega))
   simp only [List.getElem?_toArray, List.getElem?_cons_zero] at q5
   clear hw5 hs5
   have hS := HS.out
   rw [stoBits_more (f := f) (b := bs.drop d) (by rw [List.length_drop, Hl.out]; omega), List.drop_drop] at hS
   have hfin := Lib.hid (show stoBits (len + 1) bs = (done ++ [0, 0, 0, 0, 0, 0, 0, 0] ++ (lowOf 65535 16 ++ lowOf (65535 - 65535) 16) ++ bytesS ((bs.drop d).take 65535)) ++ stoBits f (bs.drop (d + 65535)) by
    rw [hS]
    simp only [List.append_assoc, Nat.sub_self])
   have hl5 := Lib.hid (show (done ++ [0, 0, 0, 0, 0, 0, 0, 0] ++ (lowOf 65535 16 ++ lowOf (65535 - 65535) 16) ++ bytesS ((bs.drop d).take 65535)).length = done.length + 40 + 8 * 65535 by
    rw [List.length_append, hl4, bytesS_length, List.length_take, List.length_drop, Hl.out, Nat.min_eq_left (by omega)])
   have HR5 := Lib.hid (rd_drop0 HR'.out 65535 (by omega))
   have e6 : r - 65535 = len - (d + 65535) := by omega
   have E6 := Lib.hid e6
   clear hS e6
   go_wp2
   go_roundw
   case rel => exact ⟨d + 65535, c' - 65535, some ⟨ab, ao + 65535, none⟩, f, _, v5, by omega, by rw [← E6.out], by omega, by omega, by rw [hl5.out]; omega, by rw [hl5.out]; omega, (fun e => by cases e), (fun _ b o e => by cases e; exact Hold'.out (by omega) ab ao rfl), by rw [← E6.out, ← List.drop_drop]; exact HR5.out, hfin.out, HW5.out, HT5.out⟩
   case measure => simp [lenS]; omega
end Go.Proofs.YtdbkbeojedndbaaGreatDoor
namespace Go.Proofs.YtdbkbeojedndbaaGreatDoor
open Go.RowKit

theorem upTo8_ge (q : Nat) : q ≤ upTo8 q ∧ upTo8 q ≤ q + 7 ∧ upTo8 q % 8 = 0 := by unfold upTo8; omega
theorem upTo8_le {q len : Nat} (h : q ≤ 8 * len) : upTo8 q ≤ 8 * len := by unfold upTo8; omega
theorem upTo8_at {q : Nat} (h : q % 8 = 0) : upTo8 q = q := by unfold upTo8; omega
set_option maxHeartbeats 1000000 in
theorem At_calls (r : Nat) (A : Option Addr) (len cap q : Nat) (w : World) (hR : RdrAt w r A len cap q) :
  Calls Tryz.prog 31 #[.pointer (some ⟨r, 0, none⟩)] w fun e w' => e = .returned (.int .i64 q) ∧ w' = w := by
 have c1 := hR.c1
 go_enter Tryz.func31, Tryz.ntmps31
 go_wp2
 go_ret
 exact ⟨rfl, rfl⟩
set_option maxHeartbeats 1000000 in
theorem RAlign_calls (r : Nat) (A : Option Addr) (len cap q : Nat) (bs : List Int) (w : World) (hR : RdrAt w r A len cap q) (hB : Rd w .u8 A len bs) (hb : ∀ j, j < len → 0 ≤ rd bs j ∧ rd bs j ≤ 255) (hne : ∀ b o, A = some ⟨b, o, none⟩ → b ≠ r) (hlen : len ≤ 1000000) (hq : q ≤ 8 * len) :
  Calls Tryz.prog 37 #[.pointer (some ⟨r, 0, none⟩)] w fun e w' => ∃ b, e = .returned (.bool b) ∧ RdrAt w' r A len cap (upTo8 q) ∧ w.grownBy w' (some r) := by
 have c1 := hR.c1
 have HR := Lib.hid hR
 have HB := Lib.hid hB
 have Hb := Lib.hid hb
 have Hne := Lib.hid hne
 obtain ⟨k, hk⟩ : ∃ k, k = upTo8 q - q := ⟨_, rfl⟩
 have hu := upTo8_ge q
 have hul := upTo8_le hq
 have hk7 : k ≤ 7 := by omega
 have hqk : q + k = upTo8 q := by omega
 have hqk2 : q + k ≤ 8 * len := by omega
 have h1 := and7_i64 q (by omega)
 have h2 : bits BinOp.and IntKind.i64 (8 - ((q % 8 : Nat) : Int)) 7 = (k : Int) := by
  rw [show (8 - ((q % 8 : Nat) : Int)) = ((8 - q % 8 : Nat) : Int) by omega, and7_i64 _ (by omega)]
  unfold upTo8 at hk
  omega
 have Hqk := Lib.hid hqk
 have H2 := Lib.hid h2
 obtain ⟨m, hm⟩ : ∃ m, m = q % 8 := ⟨_, rfl⟩
 rw [← hm] at h1 h2
 have hm8 : m < 8 := by omega
 have hx := numAt_lt bs q k
 have hp : (2 : Nat) ^ k ≤ 2 ^ 7 := Nat.pow_le_pow_right (by omega) hk7
 obtain ⟨x, hxe⟩ : ∃ x, x = numAt bs q k := ⟨_, rfl⟩
 rw [← hxe] at hx
 have hx7 : x < 128 := by omega
 have Hxe := Lib.hid hxe
 clear hR hB hb hne hk hu hul hqk hm hx hp hxe
 go_enter Tryz.func37, Tryz.ntmps37
 go_wp2_with fail
 refine (Bits_calls r A len cap q k bs _ HR.out HB.out Hb.out Hne.out (by omega) hq (by omega) hqk2).mono ?_
 rintro e w1 ⟨rfl, hR1, hg⟩
 rw [Hqk.out] at hR1
 rw [← Hxe.out]
 have HR1 := Lib.hid hR1
 have Hg := Lib.hid hg
 clear hR1 hg
 go_wp2_with fail
 go_ret
 exact ⟨_, rfl, HR1.out, Hg.out⟩
theorem grown_row {w w1 w2 : World} {r : Nat} (h : w.grownBy w1 (some r)) (hf : Fr w1 w2 [some r]) : w.grownBy w2 (some r) :=
 ⟨hf.os.trans h.os, hf.tape.trans h.tape, hf.output.trans h.output, Nat.le_trans h.size hf.size, fun k hk hne => (hf.block k (Nat.lt_of_lt_of_le hk h.size) (fun o ho e => by simp at ho; subst ho; exact hne e.symm)).trans (h.block k hk hne)⟩
theorem own_empty_set (w : World) (a : Addr) (v : Value) (e : TypeId) : ((w.setCell a v).alloc (.cells #[] e)).ownsRow w.heap.size e 1 (.slice (some ⟨w.heap.size, 0, none⟩) 0 0) 0 [] := by
 have h := own_empty (w.setCell a v) e
 rwa [World.size_setCell] at h
theorem rd_frag {w : World} {k : IntKind} {g len : Nat} {xs : List Int} (h : Rd w k (some ⟨g, 0, none⟩) len xs) (d n : Nat) (hd : d + n ≤ len) : Rd w k (some ⟨g, d, none⟩) n ((xs.drop d).take n) := by
 have h1 := rd_take0 (rd_drop0 h d (by omega)) n (by omega)
 rwa [Nat.zero_add] at h1
theorem upTo8_div (q : Nat) : upTo8 q / 8 * 8 = upTo8 q := by unfold upTo8; omega
set_option maxHeartbeats 1000000 in set_option maxRecDepth 100000 in
theorem RRaw_calls (r : Nat) (A : Option Addr) (len cap q n : Nat) (bs : List Int) (w : World) (hR : RdrAt w r A len cap q) (hB : Rd w .u8 A len bs) (hb : ∀ j, j < len → 0 ≤ rd bs j ∧ rd bs j ≤ 255) (hne : ∀ b o, A = some ⟨b, o, none⟩ → b ≠ r) (hlen : len ≤ 1000000) (hq : q ≤ 8 * len) (hcap : len ≤ cap) (hcap2 : cap ≤ 9223372036854775807) (hA : (A = none ∧ len = 0 ∧ cap = 0) ∨ ∃ g, A = some ⟨g, 0, none⟩) (hn : n ≤ 1000000) :
  Calls Tryz.prog 39 #[.pointer (some ⟨r, 0, none⟩), .int .i64 n] w fun e w' =>
   Hid (upTo8 q + 8 * n ≤ 8 * len ∧ (∃ v, e = .returned (.tuple #[v, .bool true]) ∧ w'.ownsRow w.heap.size 5 1 v n (ints .u8 ((bs.drop (upTo8 q / 8)).take n))) ∧ RdrAt w' r A len cap (upTo8 q + 8 * n) ∨
    8 * len < upTo8 q + 8 * n ∧ e = .returned (.tuple #[.slice none 0 0, .bool false]) ∧ RdrAt w' r A len cap (upTo8 q)) ∧ w.grownBy w' (some r) := by
 have HR := Lib.hid hR
 have HB := Lib.hid hB
 have Hb := Lib.hid hb
 have Hne := Lib.hid hne
 have HA := Lib.hid hA
 have hu := upTo8_le hq
 have hud := upTo8_div q
 clear hR hB hb hne hA
 go_enter Tryz.func39, Tryz.ntmps39
 go_wp2_with fail
 refine (RAlign_calls r A len cap q bs _ HR.out HB.out Hb.out Hne.out hlen hq).mono ?_
 rintro e w1 ⟨al, rfl, hR1, hg1⟩
 obtain ⟨u, hue⟩ : ∃ u, u = upTo8 q := ⟨_, rfl⟩
 rw [← hue] at hR1 hu hud
 obtain ⟨d, hd⟩ : ∃ d, d = u / 8 := ⟨_, rfl⟩
 rw [← hd] at hud
 have Hue := Lib.hid hue
 have Hd := Lib.hid hd
 have HR1 := Lib.hid hR1
 have Hg1 := Lib.hid hg1
 have HB1 := Lib.hid (HB.out.grown hg1 Hne.out)
 clear hR1 hg1 hue hd HR HB
 go_wp2_with fail
 refine (Left_calls r A len cap u _ HR1.out (by omega) hu).mono ?_
 rintro e w2 ⟨rfl, hb2⟩
 have HR2 := Lib.hid (HR1.out.keep hb2)
 have HB2 := Lib.hid (HB1.out.below hb2)
 have Hg2 := Lib.hid (grown_below Hg1.out hb2)
 obtain ⟨l, hl⟩ : ∃ l : Nat, l = 8 * len - u := ⟨_, rfl⟩
 rw [show (8 * (len : Int) - (u : Int)) = (l : Int) by omega]
 have hl8 : l / 8 = len - d := by omega
 have Hl := Lib.hid hl
 have hl9 : l ≤ 8000000 := by omega
 clear hb2 hl HR1 HB1 Hg1
 by_cases hok : n ≤ l / 8
 ·have c0 := HR2.out.c0
  have c1 := HR2.out.c1
  have f1 := HR2.out.frozen 1
  have hun : u + 8 * n ≤ 8 * len := by have := Hl.out; omega
  have hdn : d + n ≤ len := by omega
  have hdn2 : d + n ≤ cap := by omega
  have hset := HR2.out.set (u + 8 * n)
  have c0' := kept_new hset.c0 (.cells #[] 5)
  have hF : Fr w2 (w2.setCell ⟨r, 1, none⟩ (.int .i64 ((u + 8 * n : Nat) : Int))) [some r] := (Fr.refl w2 _).set _ _ (.inl (by simp))
  have hB3 : Rd (w2.setCell ⟨r, 1, none⟩ (.int .i64 ((u + 8 * n : Nat) : Int))) .u8 A len bs := HB2.out.frW hF (fun b o e s hs => by simp at hs; subst hs; simpa using Ne.symm (Hne.out b o e))
  rw [show ((u + 8 * n : Nat) : Int) = (u : Int) + 8 * (n : Int) by omega] at c0' hF hB3
  have Hset := Lib.hid hset
  have HF := Lib.hid hF
  have HB3 := Lib.hid hB3
  have hud2 : (u : Int) / 8 = d := by omega
  clear hset hF hB3
  rcases HA.out with ⟨rfl, rfl, rfl⟩ | ⟨g, rfl⟩
  ·obtain rfl : n = 0 := by omega
   obtain rfl : d = 0 := by omega
   obtain rfl : u = 0 := by omega
   have c9 : ((w2.setCell ⟨r, 1, none⟩ (.int .i64 0)).alloc (.cells #[] 5)).cell? ⟨r, 0, none⟩ = some (.slice none 0 0) := by have := c0'; simpa using this
   have HB9 : Hid (Rd (w2.setCell ⟨r, 1, none⟩ (.int .i64 0)) .u8 none 0 []) := ⟨rfl, fun h => by omega⟩
   have c1' : w2.cell? ⟨r, 1, none⟩ = some (.int .i64 0) := by have := c1; simpa using this
   clear c0' c1 hud2 hud HB3 hq hu hun hdn hdn2 hl8
   have hsz2 := Hg2.out.size
   go_wp2
   refine bodyPost_ret (v := .tuple #[.slice (some ⟨w2.heap.size, 0, none⟩) 0 0, .bool true]) (by simp [results, Tryz.results39, go_sem]) rfl ?_
   refine ⟨Lib.hid (.inl ⟨by rw [← Hue.out]; omega, ⟨_, rfl, ?_⟩, ?_⟩), ?_⟩
   ·exact own_mono (own_empty_set w2 _ _ 5) hsz2
   ·rw [← Hue.out]
    exact (Hset.out.keep ((Below.refl _ _).alloc (Nat.le_refl _) _))
   ·exact grown_row Hg2.out (HF.out.alloc _)
  ·have hsz2 := Hg2.out.size
   have hdd : d + n - d = n := by omega
   by_cases hdc : d < cap
   ·have Hfr := Lib.hid (rd_frag HB3.out d n hdn)
    go_wp2_with (first | (at_builtin; rw [hdd]; refine wpList_appRd rfl _ _ rfl elU8 (ys := []) (own_empty_set w2 _ _ _) rfl rfl (Hfr.out.alloc _) (fun e => by cases e) (by omega) (by simp) ?_; intro v' w' hown hg; rw [Nat.zero_add] at hown; have Hown := Lib.hid hown; have Hg := Lib.hid hg; clear hown hg) | fail)
    refine bodyPost_ret (v := .tuple #[v', .bool true]) (by simp [results, Tryz.results39, go_sem]) rfl ?_
    have hal := HF.out.alloc (.cells #[] 5)
    have Hgr : Fr _ w' [some w2.heap.size] := Fr.ofGrown Hg.out
    refine ⟨Lib.hid (.inl ⟨by rw [← Hue.out]; exact hun, ⟨_, rfl, by rw [← Hue.out, ← Hd.out]; exact own_mono Hown.out hsz2⟩, ?_⟩), ?_⟩
    ·rw [← Hue.out]
     exact (Hset.out.keep ((Below.refl _ _).alloc (Nat.le_refl _) _)).fr Hgr (fun o ho e => by simp at ho; subst ho; have := HR2.out.lt; simp at e; omega)
    ·exact grown_row Hg2.out (hal.trans Hgr (fun o ho => .inr (fun j e => by simp at ho; subst ho; simp at e; omega)))
   ·obtain rfl : n = 0 := by omega
    obtain rfl : d = cap := by omega
    have c9 : ((w2.setCell ⟨r, 1, none⟩ (.int .i64 (u : Int))).alloc (.cells #[] 5)).cell? ⟨r, 0, none⟩ = some (.slice (some ⟨g, 0, none⟩) len d) := by have := c0'; simpa using this
    have Hfr : Hid (Rd (w2.setCell ⟨r, 1, none⟩ (.int .i64 (u : Int))) .u8 (some ⟨g, 0, none⟩) 0 []) := ⟨rfl, fun h => by omega⟩
    have HF9 : Hid (Fr w2 (w2.setCell ⟨r, 1, none⟩ (.int .i64 (u : Int))) [some r]) := (Fr.refl w2 _).set _ _ (.inl (by simp))
    have HS9 : Hid (RdrAt (w2.setCell ⟨r, 1, none⟩ (.int .i64 (u : Int))) r (some ⟨g, 0, none⟩) len d u) := HR2.out.set u
    clear c0' HB3 HF Hset
    go_wp2_with (first | (at_builtin; refine wpList_appRd rfl _ _ rfl elU8 (ys := []) (own_empty_set w2 _ _ _) rfl rfl (Hfr.out.alloc _) (fun e => by cases e) (by omega) (by simp) ?_; intro v' w' hown hg; rw [Nat.zero_add] at hown; have Hown := Lib.hid hown; have Hg := Lib.hid hg; clear hown hg) | fail)
    refine bodyPost_ret (v := .tuple #[v', .bool true]) (by simp [results, Tryz.results39, go_sem]) rfl ?_
    have hal := HF9.out.alloc (.cells #[] 5)
    have Hgr : Fr _ w' [some w2.heap.size] := Fr.ofGrown Hg.out
    refine ⟨Lib.hid (.inl ⟨by rw [← Hue.out]; exact hun, ⟨_, rfl, by rw [List.take_zero]; exact own_mono Hown.out hsz2⟩, ?_⟩), ?_⟩
    ·rw [← Hue.out]
     exact (HS9.out.keep ((Below.refl _ _).alloc (Nat.le_refl _) _)).fr Hgr (fun o ho e => by simp at ho; subst ho; have := HR2.out.lt; simp at e; omega)
    ·exact grown_row Hg2.out (hal.trans Hgr (fun o ho => .inr (fun j e => by simp at ho; subst ho; simp at e; omega)))
 ·have hok2 : l / 8 < n := by omega
  go_wp2_with fail
  refine bodyPost_ret (v := .tuple #[.slice none 0 0, .bool false]) (by simp [results, Tryz.results39, go_sem]) rfl ?_
  rw [← Hue.out]
  exact ⟨Lib.hid (.inr ⟨by have := Hl.out; omega, rfl, HR2.out⟩), Hg2.out⟩
end Go.Proofs.YtdbkbeojedndbaaGreatDoor
