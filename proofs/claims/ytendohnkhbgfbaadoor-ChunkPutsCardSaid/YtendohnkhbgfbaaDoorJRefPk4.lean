/-
  Texts joined into one file: LebP, Str, LebW, SpanP, ChunkP, SpanQ, GetF, ChunkQ, Last.
-/
import Derived.Test.YtendohnkhbgfbaaDoorJRefPk1
import Derived.Lib.AppendStr
import Derived.Laws.AppendOwnNone
import Derived.Test.YtendohnkhbgfbaaDoorJRefPk2
import Derived.Deep.RegionHeld3
namespace Go.Proofs.YtendohnkhbgfbaaDoor
open Go.RowKit

def lebU (n : Nat) : List Int := if n < 128 then [(n : Int)] else ((n % 128 + 128 : Nat) : Int) :: lebU (n / 128)
termination_by n
decreasing_by omega
theorem lebU_last {n : Nat} (h : n < 128) : lebU n = [(n : Int)] := by rw [lebU, if_pos h]
theorem lebU_more {n : Nat} (h : ¬ n < 128) : lebU n = ((n % 128 + 128 : Nat) : Int) :: lebU (n / 128) := by rw [lebU, if_neg h]
theorem lebU_byte : ∀ (n : Nat), ∀ x ∈ lebU n, 0 ≤ x ∧ x ≤ 255 := by
 intro n
 induction n using Nat.strongRecOn with
 | ind n ih =>
  intro x hx
  by_cases h : n < 128
  ·rw [lebU_last h] at hx
   simp at hx
   omega
  ·rw [lebU_more h] at hx
   rcases List.mem_cons.1 hx with e | e
   ·omega
   ·exact ih (n / 128) (by omega) x e
theorem lebU_len : ∀ (k n : Nat), n < 128 ^ (k + 1) → 1 ≤ (lebU n).length ∧ (lebU n).length ≤ k + 1 := by
 intro k
 induction k with
 | zero => intro n h; rw [lebU_last (by simpa using h)]; simp
 | succ k ih =>
  intro n h
  by_cases h1 : n < 128
  ·rw [lebU_last h1]; simp
  ·rw [lebU_more h1]
   have h2 := ih (n / 128) (by rw [Nat.div_lt_iff_lt_mul (by omega)]; rw [← Nat.pow_succ]; exact h)
   simp only [List.length_cons]
   omega
theorem lebU_10 {n : Nat} (h : n < 18446744073709551616) : 1 ≤ (lebU n).length ∧ (lebU n).length ≤ 10 := lebU_len 9 n (Nat.lt_of_lt_of_le h (by decide))
set_option maxRecDepth 100000 in
theorem or128 : ∀ y : Fin 256, bits .or .u8 ((y.val : Nat) : Int) 128 = ((y.val % 128 + 128 : Nat) : Int) := by decide +kernel
theorem or_128 {y : Int} (h : 0 ≤ y ∧ y < 256) : bits .or .u8 y 128 = y % 128 + 128 := by
 have := or128 ⟨y.toNat, by omega⟩
 simp only at this
 rw [show ((y.toNat : Nat) : Int) = y by omega] at this
 rw [this]
 omega
def nums (s : ByteArray) : List Int := s.data.toList.map fun x => (x.toNat : Int)
theorem nums_length (s : ByteArray) : (nums s).length = s.size := by unfold nums; rw [List.length_map, Array.length_toList]; rfl
theorem nums_byte (s : ByteArray) : ∀ x ∈ nums s, 0 ≤ x ∧ x ≤ 255 := by
 intro x hx
 obtain ⟨u, _, rfl⟩ := List.mem_map.1 hx
 have := u.toNat_lt
 omega
theorem strCells_nums (s : ByteArray) : Lib.strCells s = ints .u8 (nums s) := by
 unfold Lib.strCells ints nums
 rw [List.map_map]
 rfl
theorem strOf_nums (s : ByteArray) : strOfNums (nums s) = s := by
 apply ByteArray.ext
 show ((nums s).map fun n => UInt8.ofNat n.toNat).toArray = s.data
 unfold nums
 rw [List.map_map]
 have : (s.data.toList.map ((fun n : Int => UInt8.ofNat n.toNat) ∘ fun x : UInt8 => (x.toNat : Int))) = s.data.toList := by
  conv => rhs; rw [← List.map_id s.data.toList]
  refine List.map_congr_left (fun x _ => ?_)
  simp
 rw [this]
end Go.Proofs.YtendohnkhbgfbaaDoor
namespace Go.Proofs.YtendohnkhbgfbaaDoor
open Go.RowKit

def RdV (w : World) (A : Option Addr) (m s : Nat) (vs : List Value) : Prop :=
 vs.length = m * s ∧ (0 < m → ∃ b o, A = some ⟨b, o, none⟩ ∧ ∀ j u, vs[j]? = some u → w.cell? ⟨b, o + j, none⟩ = some u)
theorem RdV.below {w w' : World} {A : Option Addr} {m s : Nat} {vs : List Value} (h : RdV w A m s vs) (hb : Below w.heap.size w w') : RdV w' A m s vs :=
 ⟨h.1, fun hm => by obtain ⟨b, o, e, hc⟩ := h.2 hm; exact ⟨b, o, e, fun j u hu => kept_cell hb (hc j u hu)⟩⟩
theorem own_rdV {w : World} {base n s : Nat} {e : TypeId} {v : Value} {xs : List Value} (h : w.ownsRow base e s v n xs) : ∃ A c, v = .slice A n c ∧ n ≤ c ∧ RdV w A n s xs ∧ (A = none → n = 0 ∧ c = 0) := by
 have hl := h.1
 rcases h.2 with ⟨rfl, rfl⟩ | ⟨g, cap, cur, rfl, hb, hg, hc, _⟩
 ·exact ⟨none, 0, rfl, Nat.le_refl _, ⟨hl, fun h0 => by omega⟩, fun _ => ⟨rfl, rfl⟩⟩
 ·refine ⟨_, cap, rfl, hc, ⟨hl, fun _ => ⟨g, 0, rfl, fun j u hu => ?_⟩⟩, fun e => by cases e⟩
  have hj : j < xs.length := (List.getElem?_eq_some_iff.1 hu).1
  rw [Nat.zero_add, h.cellAt j (by rw [hl] at hj; exact hj)]
  exact hu
theorem wpList_appV {P : Program} {w : World} {ops : Array Oper} {rest : List Oper} {o : Oper} {a : Act} {Q : Exit → Act → World → Prop} (hgd : o.guard = none) (s x : Operand) {t : TypeId}
  (ho : o.op = .call { callee := .builtin .append, args := #[s, x], argTypes := #[t, t] })
  {base : Nat} {e : TypeId} {z : Value} {size bytes : Nat} (El : ElT P t e z size bytes) {v : Value} {n : Nat} {xs : List Value} (hown : w.ownsRow base e size v n xs) (hs : a.eval s = v)
  {A : Option Addr} {m c : Nat} {vs : List Value} (hx : a.eval x = .slice A m c) (hR : RdV w A m size vs) (hA : A = none → m = 0 ∧ c = 0) (h1 : vs.all (fun u => u.oneCell') = true) (hbytes : (n + m) * bytes ≤ 140737488355328) (hbase : base ≤ w.heap.size)
  (h : ∀ v' w', w'.ownsRow base e size v' (n + m) (xs ++ vs) → Fr w w' [v.ownBlock] → (v'.ownBlock = v.ownBlock ∨ ∀ k, v'.ownBlock = some k → w.heap.size ≤ k) → wpList P ops Q rest (a.put o.dst v') w') : wpList P ops Q (o :: rest) a w := by
 obtain ⟨i0, hi, hz0, hz1, hz2⟩ := info_parts El.info
 have hn : n + m ≤ maxLen := by
  have := Nat.mul_le_mul_left (n + m) El.bpos
  unfold maxLen
  omega
 have hl := hR.1
 cases A with
 | none =>
  obtain ⟨rfl, rfl⟩ := hA rfl
  have hz : vs = [] := List.length_eq_zero_iff.1 (by omega)
  subst hz
  refine wpList_append_own_none hgd s x t ho base e i0 size El.und hi v n _ hs hown hx (h v w ?_ (Fr.refl _ _) (.inl rfl))
  simpa using hown
 | some ad =>
  refine wpList_append_own_at _ hgd s x t ho base e i0 z size bytes El.und hi hz0 hz1 hz2 El.zs El.pos v n _ hs hown ad m c vs hx hl ?_ (fun u hu => List.all_eq_true.1 h1 u hu) hn hbytes hbase ?_
  ·intro j u hu
   have hj : j < vs.length := (List.getElem?_eq_some_iff.1 hu).1
   have hm : 0 < m := by
    rcases Nat.eq_zero_or_pos m with h0 | h0
    ·subst h0; omega
    ·exact h0
   obtain ⟨b, o', e', hc⟩ := hR.2 hm
   cases e'
   rw [addr_add]
   exact hc j u hu
  ·intro v' w' h2 h3 _ h5
   exact h v' w' h2 (Fr.ofGrown h3) (h5.imp id (fun e k hk => by rw [e] at hk; cases hk; exact Nat.le_refl _))
def strs (L : List ByteArray) : List Value := L.map Value.string
theorem strs_app (a b : List ByteArray) : strs (a ++ b) = strs a ++ strs b := List.map_append
theorem strs_length (L : List ByteArray) : (strs L).length = L.length := List.length_map ..
theorem strs_one (L : List ByteArray) : (strs L).all (fun u => u.oneCell') = true := by
 rw [List.all_eq_true]
 intro u hu
 obtain ⟨x, _, rfl⟩ := List.mem_map.1 hu
 rfl
def str (L : List ByteArray) (j : Nat) : ByteArray := L.getD j ByteArray.empty
theorem strs_get {L : List ByteArray} {j : Nat} (h : j < L.length) : (strs L)[j]? = some (.string (str L j)) := by
 simp [strs, str, List.getD_eq_getElem?_getD, List.getElem?_eq_getElem h]
def RdS (w : World) (A : Option Addr) (n : Nat) (L : List ByteArray) : Prop := L.length = n ∧ (0 < n → ∃ b o, A = some ⟨b, o, none⟩ ∧ ∀ j, j < n → w.cell? ⟨b, o + j, none⟩ = some (.string (str L j)))
theorem RdS.below {w w' : World} {A : Option Addr} {n : Nat} {L : List ByteArray} (h : RdS w A n L) (hb : Below w.heap.size w w') : RdS w' A n L :=
 ⟨h.1, fun hm => by obtain ⟨b, o, e, hc⟩ := h.2 hm; exact ⟨b, o, e, fun j hj => kept_cell hb (hc j hj)⟩⟩
theorem RdS.of {w : World} {A : Option Addr} {n : Nat} {L : List ByteArray} (h : RdV w A n 1 (strs L)) : RdS w A n L := by
 have hl := h.1
 rw [strs_length, Nat.mul_one] at hl
 refine ⟨hl, fun hn => ?_⟩
 obtain ⟨b, o, e, hc⟩ := h.2 hn
 exact ⟨b, o, e, fun j hj => hc j _ (strs_get (by omega))⟩
theorem RdS.toV {w : World} {A : Option Addr} {n : Nat} {L : List ByteArray} (h : RdS w A n L) : RdV w A n 1 (strs L) := by
 refine ⟨by rw [strs_length, Nat.mul_one]; exact h.1, fun hn => ?_⟩
 obtain ⟨b, o, e, hc⟩ := h.2 hn
 refine ⟨b, o, e, fun j u hu => ?_⟩
 have hj : j < L.length := by have := (List.getElem?_eq_some_iff.1 hu).1; rwa [strs_length] at this
 rw [strs_get hj] at hu
 cases hu
 exact hc j (by rw [← h.1]; exact hj)
theorem own_rdS {w : World} {base n : Nat} {e : TypeId} {v : Value} {L : List ByteArray} (h : w.ownsRow base e 1 v n (strs L)) : ∃ A c, v = .slice A n c ∧ n ≤ c ∧ RdS w A n L ∧ (A = none → n = 0 ∧ c = 0) := by
 obtain ⟨A, c, e, h1, h2, h3⟩ := own_rdV h
 exact ⟨A, c, e, h1, RdS.of h2, h3⟩
end Go.Proofs.YtendohnkhbgfbaaDoor
namespace Go.Proofs.YtendohnkhbgfbaaDoor
open Go.RowKit

theorem elU8b : ElT Tryd.prog 22 5 (.int .u8 0) 1 1 := ⟨Tryd.underlying22, by kernel_rfl, rfl, by decide, by decide⟩
theorem ints_all (k : IntKind) (l : List Int) : (ints k l).all (fun u => u.oneCell') = true := by
 rw [List.all_eq_true]
 intro u hu
 obtain ⟨x, _, rfl⟩ := List.mem_map.1 hu
 rfl
set_option maxHeartbeats 1000000 in set_option maxRecDepth 100000 in
theorem U_calls (n : Nat) (w : World) (hn : n < 18446744073709551616) :
  Calls Tryd.prog 17 #[.int .u64 n] w fun e w' => ∃ v, e = .returned v ∧ w'.ownsRow w.heap.size 5 1 v (lebU n).length (ints .u8 (lebU n)) ∧ Below w.heap.size w w' := by
 go_enter Tryd.func17, Tryd.ntmps17
 go_wp2_with fail
 go_loopw [0, 3] (fun x v wr => ∃ (q : Nat) (L : List Int), x = .int .u64 q ∧ q ≤ n ∧ Hid (L ++ lebU q = lebU n) ∧ L.length ≤ 10 ∧ Hid (wr.ownsRow w.heap.size 5 1 v L.length (ints .u8 L)) ∧ Hid (Below w.heap.size w wr)) (fun x _ _ => (intOf x).toNat)
 case atStart => exact ⟨n, [], rfl, by omega, Lib.hid rfl, by simp, World.ownsRow_nil _ _ _ _, Below.refl _ _⟩
 case round =>
  obtain ⟨q, L, rfl, hq, HL, hl10, HO, HB⟩ := hrel
  obtain ⟨W, hW⟩ : ∃ W, W = wr := ⟨_, rfl⟩
  subst hW
  obtain ⟨m, hm⟩ : ∃ m, m = L.length := ⟨_, rfl⟩
  rw [← hm] at HO hl10
  have Hm := Lib.hid hm
  obtain ⟨Av, cv, hv⟩ := own_slice HO.out
  subst hv
  have hsz := HB.out.size
  clear hm
  by_cases h1 : q < 128
  ·go_wp2_with (at_builtin; refine wpList_app3 rfl _ _ rfl elU8b HO.out rfl rfl rfl rfl rfl (by omega) hsz ?_; intro g4 cg w4 hown4 hfr4 hat4 hlt4; have Hown4 := Lib.hid hown4; have Hfr4 := Lib.hid hfr4; clear hown4 hfr4 hat4)
   go_ret
   have e9 : ints .u8 L ++ (#[Value.int .u8 (q : Int)] : Array Value).toList = ints .u8 (lebU n) := by rw [← HL.out, lebU_last h1, ints_append]; rfl
   have e5 : (lebU n).length = m + 1 := by rw [← HL.out, List.length_append, lebU_last h1, ← Hm.out]; rfl
   have h4 := Hown4.out
   rw [e9] at h4
   exact ⟨_, rfl, by rw [e5]; exact h4, HB.out.trans (Hfr4.out.below hsz (fun o ho i e => by simp at ho; subst ho; exact (HO.out.lt i e).1))⟩
  ·have hlen9 : m + 1 ≤ 10 := by
    have h2 := congrArg List.length HL.out
    rw [List.length_append, ← Hm.out] at h2
    have h3 := lebU_10 hn
    have h4 := lebU_10 (n := q) (by omega)
    omega
   have hor := or_128 (y := (q : Int) % 256) (by omega)
   go_wp2_with (at_builtin; refine wpList_app3 rfl _ _ rfl elU8b HO.out rfl rfl rfl rfl rfl (by omega) hsz ?_; intro g4 cg w4 hown4 hfr4 hat4 hlt4; have Hown4 := Lib.hid hown4; have Hfr4 := Lib.hid hfr4; clear hown4 hfr4 hat4)
   go_roundw
   case rel =>
    have ed : (q : Int) / 128 = ((q / 128 : Nat) : Int) := by omega
    have e9 : ints .u8 L ++ (#[Value.int .u8 ((q : Int) % 128 + 128)] : Array Value).toList = ints .u8 (L ++ [((q % 128 + 128 : Nat) : Int)]) := by
     rw [ints_append]
     have : (q : Int) % 128 + 128 = ((q % 128 + 128 : Nat) : Int) := by omega
     rw [this]; rfl
    have h4 := Hown4.out
    rw [e9] at h4
    refine ⟨q / 128, L ++ [((q % 128 + 128 : Nat) : Int)], by rw [ed], by omega, ?_, by rw [List.length_append, ← Hm.out]; exact hlen9, by rw [List.length_append, ← Hm.out]; exact h4, HB.out.trans (Hfr4.out.below hsz (fun o ho i e => by simp at ho; subst ho; exact (HO.out.lt i e).1))⟩
    rw [List.append_assoc]
    rw [← HL.out, lebU_more h1]
    rfl
   case measure => simp [intOf]; omega
set_option maxHeartbeats 1000000 in set_option maxRecDepth 100000 in
theorem rU_calls : ∀ (f n : Nat) (w : World), n < f → n < 18446744073709551616 →
  Calls Tryd.prog 20 #[.int .u64 n] w fun e w' => ∃ v, e = .returned v ∧ w'.ownsRow w.heap.size 5 1 v (lebU n).length (ints .u8 (lebU n)) ∧ Below w.heap.size w w' := by
 intro f
 induction f with
 | zero => intro n w h; omega
 | succ f ih =>
  intro n w hf hn
  go_enter Tryd.func20, Tryd.ntmps20
  by_cases h1 : n < 128
  ·go_wp2_with fail
   go_ret
   have hl := World.ownsRow_lit (base := w.heap.size) (size := 1) (e := 5) w #[.int .u8 (n : Int)] 1 (Nat.le_refl _) (by simp [maxLen]) rfl
   refine ⟨_, rfl, ?_, (Below.refl _ _).alloc (Nat.le_refl _) _⟩
   rw [lebU_last h1]
   exact hl
  ·have hl := World.ownsRow_lit (base := w.heap.size) (size := 1) (e := 5) w #[.int .u8 (128 + (n : Int) % 128)] 1 (Nat.le_refl _) (by simp [maxLen]) rfl
   have Hl := Lib.hid hl
   have h10 := lebU_10 (n := n / 128) (by omega)
   have H10 := Lib.hid h10
   clear hl h10
   go_wp2_with fail
   rw [show (n : Int) / 128 = ((n / 128 : Nat) : Int) by omega]
   refine (ih (n / 128) _ (by omega) (by omega)).mono ?_
   rintro e w2 ⟨v2, rfl, ho2, hb2⟩
   obtain ⟨A2, c2, rfl, _, hr2, hn2⟩ := own_rdV ho2
   obtain ⟨m, hm⟩ : ∃ m, m = (lebU (n / 128)).length := ⟨_, rfl⟩
   have hm10 : m ≤ 10 := by rw [hm]; exact H10.out.2
   rw [← hm] at hr2 hn2 ⊢
   have Hr2 := Lib.hid hr2
   have Hn2 := Lib.hid hn2
   have Hm := Lib.hid hm
   have Hl2 := Lib.hid (own_below Hl.out hb2)
   have HB2 := Lib.hid (((Below.refl w.heap.size w).alloc (Nat.le_refl _) _).trans (hb2.mono (by simp)))
   have hs2 := HB2.out.size
   clear ho2 hr2 hn2 hm hb2
   go_wp2_with (at_builtin; refine wpList_appV rfl _ _ rfl elU8b Hl2.out rfl rfl Hr2.out Hn2.out (ints_all _ _) (by omega) hs2 ?_; intro v4 w4 hown4 hfr4 hat4; have Hown4 := Lib.hid hown4; have Hfr4 := Lib.hid hfr4; clear hown4 hfr4 hat4)
   go_ret
   have e9 : (#[Value.int .u8 (128 + (n : Int) % 128)] : Array Value).toList ++ ints .u8 (lebU (n / 128)) = ints .u8 (lebU n) := by
    rw [lebU_more h1]
    have : 128 + (n : Int) % 128 = ((n % 128 + 128 : Nat) : Int) := by omega
    rw [this]; rfl
   have e5 : (lebU n).length = 1 + m := by rw [lebU_more h1, List.length_cons, ← Hm.out]; omega
   have h4 := Hown4.out
   rw [e9] at h4
   exact ⟨_, rfl, by rw [e5]; exact h4, HB2.out.trans (Hfr4.out.below hs2 (fun o ho i e => by simp at ho; subst ho; exact (Hl2.out.lt i e).1))⟩
end Go.Proofs.YtendohnkhbgfbaaDoor
namespace Go.Proofs.YtendohnkhbgfbaaDoor
open Go.RowKit

def IsSpan (b : List Int) (k : Nat) (e : Int) : Prop :=
 (e = 0 ∧ 1 ≤ k ∧ k ≤ 10 ∧ k ≤ b.length ∧ (∀ i, i + 1 < k → 128 ≤ rd b i) ∧ rd b (k - 1) < 128) ∨
 (k = 0 ∧ e = 3 ∧ 10 ≤ b.length ∧ ∀ i, i < 10 → 128 ≤ rd b i) ∨ (k = 0 ∧ e = 2 ∧ b.length < 10 ∧ ∀ i, i < b.length → 128 ≤ rd b i)
theorem IsSpan.same {b : List Int} {k k' : Nat} {e e' : Int} (h : IsSpan b k e) (g : IsSpan b k' e') : k = k' ∧ e = e' := by
 rcases h with ⟨rfl, h1, h2, h3, h4, h5⟩ | ⟨rfl, rfl, h1, h2⟩ | ⟨rfl, rfl, h1, h2⟩ <;>
  rcases g with ⟨rfl, g1, g2, g3, g4, g5⟩ | ⟨rfl, rfl, g1, g2⟩ | ⟨rfl, rfl, g1, g2⟩
 ·refine ⟨?_, rfl⟩
  rcases Nat.lt_trichotomy k k' with e | e | e
  ·have := g4 (k - 1) (by omega); omega
  ·exact e
  ·have := h4 (k' - 1) (by omega); omega
 ·have := g2 (k - 1) (by omega); omega
 ·have := g2 (k - 1) (by omega); omega
 ·have := h2 (k' - 1) (by omega); omega
 ·exact ⟨rfl, rfl⟩
 ·omega
 ·have := h2 (k' - 1) (by omega); omega
 ·omega
 ·exact ⟨rfl, rfl⟩
def valB : List Int → Nat
 | [] => 0
 | x :: l => (x % 128).toNat + 128 * valB l
theorem valB_app (a b : List Int) : valB (a ++ b) = valB a + 128 ^ a.length * valB b := by
 induction a with
 | nil => simp [valB]
 | cons x a ih =>
  rw [List.cons_append, valB, valB, ih, List.length_cons, Nat.pow_succ, Nat.mul_add, Nat.add_assoc, Nat.mul_left_comm, Nat.mul_assoc]
theorem valB_lt (a : List Int) : valB a < 128 ^ a.length := by
 induction a with
 | nil => simp [valB]
 | cons x a ih =>
  rw [valB, List.length_cons, Nat.pow_succ]
  have : (x % 128).toNat < 128 := by omega
  omega
theorem valB_leb : ∀ n : Nat, valB (lebU n) = n := by
 intro n
 induction n using Nat.strongRecOn with
 | ind n ih =>
  by_cases h : n < 128
  ·rw [lebU_last h]
   simp [valB]
   omega
  ·rw [lebU_more h, valB, ih (n / 128) (by omega)]
   omega
theorem leb_inj {n m : Nat} (h : lebU n = lebU m) : n = m := by rw [← valB_leb n, h, valB_leb]
theorem leb_of : ∀ (b : List Int), (∀ x ∈ b, 0 ≤ x ∧ x ≤ 255) → 1 ≤ b.length → (∀ i, i + 1 < b.length → 128 ≤ rd b i) → rd b (b.length - 1) < 128 → (lebU (valB b)).length = b.length → lebU (valB b) = b := by
 intro b
 induction b with
 | nil => intro _ h; simp at h
 | cons x b ih =>
  intro hb _ h1 h2 h3
  have hx := hb x (List.mem_cons_self ..)
  cases b with
  | nil =>
   have hx2 : x < 128 := h2
   have e : valB [x] = x.toNat := by simp [valB]; omega
   rw [e, lebU_last (by omega)]
   congr 1
   omega
  | cons y b =>
   have hx1 : 128 ≤ x := h1 0 (by simp)
   by_cases hn : valB (x :: y :: b) < 128
   ·rw [lebU_last hn] at h3
    simp at h3
   ·rw [lebU_more hn] at h3 ⊢
    have ed : valB (x :: y :: b) / 128 = valB (y :: b) := by rw [valB]; omega
    have em : valB (x :: y :: b) % 128 = (x % 128).toNat := by rw [valB]; omega
    rw [ed] at h3 ⊢
    rw [em, ih (fun z hz => hb z (List.mem_cons_of_mem _ hz)) (by simp) (fun i hi => h1 (i + 1) (by simp at hi ⊢; omega)) (show rd (y :: b) ((y :: b).length - 1) < 128 from h2) (by simpa using h3)]
    congr 1
    omega
theorem leb_last : ∀ n : Nat, rd (lebU n) ((lebU n).length - 1) < 128 ∧ ∀ i, i + 1 < (lebU n).length → 128 ≤ rd (lebU n) i := by
 intro n
 induction n using Nat.strongRecOn with
 | ind n ih =>
  by_cases h : n < 128
  ·rw [lebU_last h]
   exact ⟨by show (n : Int) < 128; omega, fun i hi => by simp at hi⟩
  ·obtain ⟨h1, h2⟩ := ih (n / 128) (by omega)
   rw [lebU_more h]
   have hl : 1 ≤ (lebU (n / 128)).length := by
    by_cases h9 : n / 128 < 128
    ·rw [lebU_last h9]; simp
    ·rw [lebU_more h9]; simp
   obtain ⟨q, hq⟩ : ∃ q, (lebU (n / 128)).length = q + 1 := ⟨_, (Nat.sub_add_cancel hl).symm⟩
   rw [hq] at h1 h2
   constructor
   ·rw [List.length_cons, hq]
    exact h1
   ·intro i hi
    cases i with
    | zero => show (128 : Int) ≤ ((n % 128 + 128 : Nat) : Int); omega
    | succ i => exact h2 i (by rw [List.length_cons, hq] at hi; omega)
theorem leb_ten {n : Nat} (hn : n < 18446744073709551616) (hl : (lebU n).length = 10) : rd (lebU n) 9 ≤ 1 := by
 have h1 := (leb_last n).1
 rw [hl] at h1
 have h1 : rd (lebU n) 9 < 128 := h1
 have e : lebU n = (lebU n).take 9 ++ [rd (lebU n) 9] := by
  have h := List.take_append_drop 9 (lebU n)
  rw [List.drop_eq_getElem_cons (by omega), List.drop_of_length_le (by omega)] at h
  rw [rd_getElem (by omega)]
  exact h.symm
 have hv := valB_leb n
 rw [e, valB_app, List.length_take, hl] at hv
 have hb := lebU_byte n (rd (lebU n) 9) (by rw [rd_getElem (by omega)]; exact List.getElem_mem _)
 have e9 : valB [rd (lebU n) 9] = (rd (lebU n) 9).toNat := by simp [valB]; omega
 rw [e9] at hv
 have : (128 : Nat) ^ min 9 10 = 9223372036854775808 := by decide
 rw [this] at hv
 omega
def IsGet (b : List Int) (n k : Nat) (e : Int) : Prop :=
 ∃ s f, IsSpan b s f ∧ ((f ≠ 0 ∧ n = 0 ∧ k = 0 ∧ e = f) ∨ (f = 0 ∧ n < 18446744073709551616 ∧ lebU n = b.take s ∧ k = s ∧ e = 0) ∨ (f = 0 ∧ (∀ m, m < 18446744073709551616 → lebU m ≠ b.take s) ∧ n = 0 ∧ k = 0 ∧ e = 3))
theorem IsGet.same {b : List Int} {n k n' k' : Nat} {e e' : Int} (h : IsGet b n k e) (g : IsGet b n' k' e') : n = n' ∧ k = k' ∧ e = e' := by
 obtain ⟨s, f, h0, h⟩ := h
 obtain ⟨s', f', g0, g⟩ := g
 obtain ⟨rfl, rfl⟩ := h0.same g0
 rcases h with ⟨h1, rfl, rfl, rfl⟩ | ⟨rfl, h1, h2, rfl, rfl⟩ | ⟨rfl, h1, rfl, rfl, rfl⟩ <;>
  rcases g with ⟨g1, rfl, rfl, rfl⟩ | ⟨g9, g1, g2, rfl, rfl⟩ | ⟨g9, g1, rfl, rfl, rfl⟩
 ·exact ⟨rfl, rfl, rfl⟩
 ·exact absurd g9 h1
 ·exact absurd g9 h1
 ·exact absurd rfl g1
 ·exact ⟨leb_inj (h2.trans g2.symm), rfl, rfl⟩
 ·exact absurd h2 (g1 _ h1)
 ·exact absurd rfl g1
 ·exact absurd g2 (h1 _ g1)
 ·exact ⟨rfl, rfl, rfl⟩
end Go.Proofs.YtendohnkhbgfbaaDoor
namespace Go.Proofs.YtendohnkhbgfbaaDoor
open Go.RowKit

def tailB (k : Int) (c : List Int) : List Int := k :: (lebU c.length ++ c)
def magicL : List Int := [133, 111, 74, 131]
def sumB (k : Int) (c : List Int) : List Int := (shaS (tailB k c)).take 4
def chunkB (k : Int) (c : List Int) : List Int := magicL ++ (sumB k c ++ tailB k c)
theorem sumB_length (k : Int) (c : List Int) : (sumB k c).length = 4 := by
 unfold sumB
 rw [List.length_take, shaS_length]
 rfl
theorem chunkB_length (k : Int) (c : List Int) : (chunkB k c).length = 9 + (lebU c.length).length + c.length := by
 unfold chunkB tailB
 rw [List.length_append, List.length_append, sumB_length, List.length_cons, List.length_append]
 show 4 + _ = _
 omega
def Begins (b : List Int) : Prop := ∀ i, i < 4 → i < b.length → rd b i = rd magicL i
def IsKind (b : List Int) : Prop := rd b 8 = 1 ∨ rd b 8 = 2
open Classical in
noncomputable def nextOf (b : List Int) (n k : Nat) (e : Int) : Int × List Int × Nat × Int :=
 if ¬ Begins b then (0, [], 0, 5) else
 if b.length < 9 then (0, [], 0, 2) else
 if ¬ IsKind b then (0, [], 0, 6) else
 if e ≠ 0 then (0, [], 0, e) else
 if 1048576 < n then (0, [], 0, 4) else
 if b.length < 9 + k + n then (0, [], 0, 2) else
 if sumB (rd b 8) ((b.drop (9 + k)).take n) ≠ (b.drop 4).take 4 then (0, [], 0, 7) else
 (rd b 8, (b.drop (9 + k)).take n, 9 + k + n, 0)
def IsNext (b : List Int) (K : Int) (C : List Int) (M : Nat) (E : Int) : Prop :=
 ∃ n k e, (Begins b → 9 ≤ b.length → IsKind b → IsGet (b.drop 9) n k e) ∧ (K, C, M, E) = nextOf b n k e
theorem IsNext.same {b : List Int} {K K' : Int} {C C' : List Int} {M M' : Nat} {E E' : Int} (h : IsNext b K C M E) (g : IsNext b K' C' M' E') : K = K' ∧ C = C' ∧ M = M' ∧ E = E' := by
 obtain ⟨n, k, e, h1, h2⟩ := h
 obtain ⟨n', k', e', g1, g2⟩ := g
 have hx : nextOf b n k e = nextOf b n' k' e' := by
  by_cases a1 : Begins b
  ·by_cases a2 : 9 ≤ b.length
   ·by_cases a3 : IsKind b
    ·obtain ⟨rfl, rfl, rfl⟩ := (h1 a1 a2 a3).same (g1 a1 a2 a3)
     rfl
    ·unfold nextOf
     rw [if_neg (not_not_intro a1), if_neg (by omega), if_pos a3, if_neg (not_not_intro a1), if_neg (by omega), if_pos a3]
   ·unfold nextOf
    rw [if_neg (not_not_intro a1), if_pos (by omega), if_neg (not_not_intro a1), if_pos (by omega)]
  ·unfold nextOf
   rw [if_pos a1, if_pos a1]
 rw [← h2, ← g2] at hx
 cases hx
 exact ⟨rfl, rfl, rfl, rfl⟩
theorem next_magic {b : List Int} (h : ¬ Begins b) : IsNext b 0 [] 0 5 := ⟨0, 0, 0, fun a => absurd a h, by rw [nextOf, if_pos h]⟩
theorem next_few {b : List Int} (h : Begins b) (hl : b.length < 9) : IsNext b 0 [] 0 2 := ⟨0, 0, 0, fun _ a => by omega, by rw [nextOf, if_neg (not_not_intro h), if_pos hl]⟩
theorem next_type {b : List Int} (h : Begins b) (hl : 9 ≤ b.length) (hk : ¬ IsKind b) : IsNext b 0 [] 0 6 := ⟨0, 0, 0, fun _ _ a => absurd a hk, by rw [nextOf, if_neg (not_not_intro h), if_neg (by omega), if_pos hk]⟩
theorem next_num {b : List Int} (h : Begins b) (hl : 9 ≤ b.length) (hk : IsKind b) {n k : Nat} {e : Int} (hg : IsGet (b.drop 9) n k e) (he : e ≠ 0) : IsNext b 0 [] 0 e :=
 ⟨n, k, e, fun _ _ _ => hg, by rw [nextOf, if_neg (not_not_intro h), if_neg (by omega), if_neg (not_not_intro hk), if_pos he]⟩
theorem next_long {b : List Int} (h : Begins b) (hl : 9 ≤ b.length) (hk : IsKind b) {n k : Nat} (hg : IsGet (b.drop 9) n k 0) (hn : 1048576 < n) : IsNext b 0 [] 0 4 :=
 ⟨n, k, 0, fun _ _ _ => hg, by rw [nextOf, if_neg (not_not_intro h), if_neg (by omega), if_neg (not_not_intro hk), if_neg (by simp), if_pos hn]⟩
theorem next_short {b : List Int} (h : Begins b) (hl : 9 ≤ b.length) (hk : IsKind b) {n k : Nat} (hg : IsGet (b.drop 9) n k 0) (hn : n ≤ 1048576) (hs : b.length < 9 + k + n) : IsNext b 0 [] 0 2 :=
 ⟨n, k, 0, fun _ _ _ => hg, by rw [nextOf, if_neg (not_not_intro h), if_neg (by omega), if_neg (not_not_intro hk), if_neg (by simp), if_neg (by omega), if_pos hs]⟩
theorem next_sum {b : List Int} (h : Begins b) (hl : 9 ≤ b.length) (hk : IsKind b) {n k : Nat} (hg : IsGet (b.drop 9) n k 0) (hn : n ≤ 1048576) (hs : 9 + k + n ≤ b.length) (hm : sumB (rd b 8) ((b.drop (9 + k)).take n) ≠ (b.drop 4).take 4) : IsNext b 0 [] 0 7 :=
 ⟨n, k, 0, fun _ _ _ => hg, by rw [nextOf, if_neg (not_not_intro h), if_neg (by omega), if_neg (not_not_intro hk), if_neg (by simp), if_neg (by omega), if_neg (by omega), if_pos hm]⟩
theorem next_ok {b : List Int} (h : Begins b) (hl : 9 ≤ b.length) (hk : IsKind b) {n k : Nat} (hg : IsGet (b.drop 9) n k 0) (hn : n ≤ 1048576) (hs : 9 + k + n ≤ b.length) (hm : sumB (rd b 8) ((b.drop (9 + k)).take n) = (b.drop 4).take 4) : IsNext b (rd b 8) ((b.drop (9 + k)).take n) (9 + k + n) 0 :=
 ⟨n, k, 0, fun _ _ _ => hg, by rw [nextOf, if_neg (not_not_intro h), if_neg (by omega), if_neg (not_not_intro hk), if_neg (by simp), if_neg (by omega), if_neg (by omega), if_neg (not_not_intro hm)]⟩
end Go.Proofs.YtendohnkhbgfbaaDoor
namespace Go.Proofs.YtendohnkhbgfbaaDoor
open Go.RowKit

set_option maxRecDepth 100000 in
theorem and127f : ∀ y : Fin 256, bits .and .u8 ((y.val : Nat) : Int) 127 = ((y.val % 128 : Nat) : Int) := by decide +kernel
theorem and_127 {y : Int} (h : 0 ≤ y ∧ y ≤ 255) : bits .and .u8 y 127 = y % 128 := by
 have := and127f ⟨y.toNat, by omega⟩
 simp only at this
 rw [show ((y.toNat : Nat) : Int) = y by omega] at this
 rw [this]
 omega
theorem or_comm64 (a b : Int) : bits .or .u64 a b = bits .or .u64 b a := by simp only [bits, BitVec.or_comm]
theorem wraps64 (n : Int) (h0 : 0 ≤ n) (h1 : n < 2 ^ 64) : IntKind.u64.wrap n = n := by rw [IntKind.wrap_u64]; omega
theorem or_step {k : Nat} (hk : k ≤ 9) {q : Nat} (hq : q < 128 ^ k) {y : Int} (hy : 0 ≤ y ∧ y < 128) : bits .or .u64 q (IntKind.u64.wrap (IntKind.u64.wrap y * 2 ^ (7 * k))) = (((q + 128 ^ k * y.toNat) % 18446744073709551616 : Nat) : Int) := by
 rw [or_comm64, wraps64 y hy.1 (by omega)]
 have hw : IntKind.u64.wrap (y * 2 ^ (7 * k)) = (y * 2 ^ (7 * k)) % 18446744073709551616 := by rw [IntKind.wrap_u64]
 rw [hw]
 rcases (show k = 0 ∨ k = 1 ∨ k = 2 ∨ k = 3 ∨ k = 4 ∨ k = 5 ∨ k = 6 ∨ k = 7 ∨ k = 8 ∨ k = 9 by omega) with rfl | rfl | rfl | rfl | rfl | rfl | rfl | rfl | rfl | rfl
 ·simp only [Nat.mul_zero, Int.pow_zero, Nat.pow_zero] at *
  rw [bits_join .u64 64 (by decide) wraps64 0 _ _ (by omega) (by omega) (by omega) (by omega) (by omega) (by omega)]
  omega
 all_goals
  simp only [Nat.reduceMul, Int.reducePow, Nat.reducePow] at *
 ·rw [bits_join .u64 64 (by decide) wraps64 7 _ _ (by omega) (by omega) (by omega) (by omega) (by omega) (by omega)]; omega
 ·rw [bits_join .u64 64 (by decide) wraps64 14 _ _ (by omega) (by omega) (by omega) (by omega) (by omega) (by omega)]; omega
 ·rw [bits_join .u64 64 (by decide) wraps64 21 _ _ (by omega) (by omega) (by omega) (by omega) (by omega) (by omega)]; omega
 ·rw [bits_join .u64 64 (by decide) wraps64 28 _ _ (by omega) (by omega) (by omega) (by omega) (by omega) (by omega)]; omega
 ·rw [bits_join .u64 64 (by decide) wraps64 35 _ _ (by omega) (by omega) (by omega) (by omega) (by omega) (by omega)]; omega
 ·rw [bits_join .u64 64 (by decide) wraps64 42 _ _ (by omega) (by omega) (by omega) (by omega) (by omega) (by omega)]; omega
 ·rw [bits_join .u64 64 (by decide) wraps64 49 _ _ (by omega) (by omega) (by omega) (by omega) (by omega) (by omega)]; omega
 ·rw [bits_join .u64 64 (by decide) wraps64 56 _ _ (by omega) (by omega) (by omega) (by omega) (by omega) (by omega)]; omega
 ·rw [bits_join .u64 64 (by decide) wraps64 63 _ _ (by omega) (by omega) (by omega) (by omega) (by omega) (by omega)]; omega
theorem take_rdl {l : List Int} {k j : Nat} (h : j < k) : rd (l.take k) j = rd l j := by
 unfold rd
 rw [List.getD_eq_getElem?_getD, List.getD_eq_getElem?_getD, List.getElem?_take_of_lt h]
theorem take_rdn {b : List Int} {k : Nat} (h : k < b.length) : b.take (k + 1) = b.take k ++ [rd b k] := by
 rw [List.take_succ_eq_append_getElem h, rd_getElem h]
theorem valB_next {b : List Int} {k : Nat} (h : k < b.length) : valB (b.take (k + 1)) = valB (b.take k) + 128 ^ k * (rd b k % 128).toNat := by
 rw [take_rdn h, valB_app, List.length_take, Nat.min_eq_left (by omega)]
 simp [valB]
theorem pow9 {k : Nat} (h : k ≤ 9) : 128 ^ k ≤ 9223372036854775808 := Nat.le_trans (Nat.pow_le_pow_right (by decide) h) (by decide)
theorem valB_take_lt (b : List Int) (k : Nat) : valB (b.take k) < 128 ^ k := Nat.lt_of_lt_of_le (valB_lt _) (Nat.pow_le_pow_right (by decide) (by rw [List.length_take]; omega))
theorem step_val {b : List Int} {k : Nat} (hk : k ≤ 9) (h : k < b.length) {x : Int} (hx : x = rd b k) (hx0 : 0 ≤ x ∧ x ≤ 255) {q : Nat} (hq : q = valB (b.take k) % 18446744073709551616) :
  bits .or .u64 q (IntKind.u64.wrap (IntKind.u64.wrap (bits .and .u8 x 127) * 2 ^ (7 * k))) = ((valB (b.take (k + 1)) % 18446744073709551616 : Nat) : Int) := by
 have h1 := valB_take_lt b k
 have h2 := pow9 hk
 have h3 : valB (b.take k) % 18446744073709551616 = valB (b.take k) := Nat.mod_eq_of_lt (by omega)
 rw [hq, h3, and_127 hx0, or_step hk h1 (by omega), valB_next h, hx]
theorem get_none {b : List Int} {s q : Nat} (hs : IsSpan b s 0) (hq : q = valB (b.take s) % 18446744073709551616) (hl : (lebU q).length ≠ s) : IsGet b 0 0 3 := by
 refine ⟨s, 0, hs, .inr (.inr ⟨rfl, fun m hm e => hl ?_, rfl, rfl, rfl⟩)⟩
 have hv := valB_leb m
 rw [e] at hv
 have : q = m := by rw [hq, hv]; exact Nat.mod_eq_of_lt hm
 rw [this, e, List.length_take]
 rcases hs with ⟨_, _, _, h, _⟩ | ⟨_, h, _⟩ | ⟨_, h, _⟩
 ·omega
 ·omega
 ·omega
theorem get_ten {b : List Int} (hs : IsSpan b 10 0) (h9 : 1 < rd b 9) : IsGet b 0 0 3 := by
 refine ⟨10, 0, hs, .inr (.inr ⟨rfl, fun m hm e => ?_, rfl, rfl, rfl⟩)⟩
 have hbl : 10 ≤ b.length := by
  rcases hs with ⟨_, _, _, h, _⟩ | ⟨_, h, _⟩ | ⟨_, h, _⟩ <;> omega
 have hl : (lebU m).length = 10 := by rw [e, List.length_take]; omega
 have h := leb_ten hm hl
 rw [e, take_rdl (by omega)] at h
 omega
theorem get_some {b : List Int} {s q : Nat} (hb : ∀ x ∈ b, 0 ≤ x ∧ x ≤ 255) (hs : IsSpan b s 0) (hq : q = valB (b.take s) % 18446744073709551616) (hl : (lebU q).length = s) (h9 : s = 10 → rd b 9 ≤ 1) : IsGet b q s 0 := by
 have hs' := hs
 rcases hs with ⟨_, h1, h2, h3, h4, h5⟩ | ⟨_, h, _⟩ | ⟨_, h, _⟩
 ·have hV : valB (b.take s) < 18446744073709551616 := by
   by_cases h10 : s = 10
   ·subst h10
    rw [valB_next (by omega)]
    have := valB_take_lt b 9
    have e : (128 : Nat) ^ 9 = 9223372036854775808 := by decide
    rw [e] at this ⊢
    have := h9 rfl
    have h0 := hb (rd b 9) (by rw [rd_getElem (by omega)]; exact List.getElem_mem _)
    omega
   ·have := valB_take_lt b s
    have := pow9 (k := s) (by omega)
    omega
  have hqV : q = valB (b.take s) := by rw [hq]; exact Nat.mod_eq_of_lt hV
  have htl : (b.take s).length = s := by rw [List.length_take]; omega
  refine ⟨s, 0, hs', .inr (.inl ⟨rfl, by omega, ?_, rfl, rfl⟩)⟩
  rw [hqV]
  refine leb_of _ (fun x hx => hb x (List.mem_of_mem_take hx)) (by omega) (fun i hi => ?_) ?_ (by rw [htl, ← hqV, hl])
  ·rw [take_rdl (by omega)]; exact h4 i (by omega)
  ·rw [htl, take_rdl (by omega)]; exact h5
 ·omega
 ·omega
theorem get_err {b : List Int} {s : Nat} {f : Int} (hs : IsSpan b s f) (hf : f ≠ 0) : IsGet b 0 0 f := ⟨s, f, hs, .inl ⟨hf, rfl, rfl, rfl⟩⟩
end Go.Proofs.YtendohnkhbgfbaaDoor
namespace Go.Proofs.YtendohnkhbgfbaaDoor
open Go.RowKit

theorem rd_app_l {a b : List Int} {i : Nat} (h : i < a.length) : rd (a ++ b) i = rd a i := by
 unfold rd
 rw [List.getD_eq_getElem?_getD, List.getD_eq_getElem?_getD, List.getElem?_append_left h]
theorem get_leb {n : Nat} (hn : n < 18446744073709551616) (R : List Int) : IsGet (lebU n ++ R) n (lebU n).length 0 := by
 obtain ⟨h1, h2⟩ := leb_last n
 have h3 := lebU_10 hn
 refine ⟨(lebU n).length, 0, .inl ⟨rfl, h3.1, h3.2, by rw [List.length_append]; omega, fun i hi => ?_, ?_⟩, .inr (.inl ⟨rfl, hn, ?_, rfl, rfl⟩)⟩
 ·rw [rd_app_l (by omega)]; exact h2 i hi
 ·rw [rd_app_l (by omega)]; exact h1
 ·rw [List.take_left]
theorem get_front {n : Nat} (hn : n < 18446744073709551616) {k : Nat} (hk : k < (lebU n).length) : IsGet ((lebU n).take k) 0 0 2 := by
 obtain ⟨h1, h2⟩ := leb_last n
 have h3 := lebU_10 hn
 refine ⟨0, 2, .inr (.inr ⟨rfl, rfl, by rw [List.length_take]; omega, fun i hi => ?_⟩), .inl ⟨by decide, rfl, rfl, rfl⟩⟩
 rw [List.length_take] at hi
 have : rd ((lebU n).take k) i = rd (lebU n) i := take_rdl (by omega)
 rw [this]
 exact h2 i (by omega)
theorem isGet_rng {b : List Int} {n k : Nat} (h : IsGet b n k 0) : 1 ≤ k ∧ k ≤ 10 ∧ k ≤ b.length ∧ n < 18446744073709551616 := by
 obtain ⟨s, f, h0, h⟩ := h
 rcases h with ⟨h1, _, _, h2⟩ | ⟨rfl, h1, _, rfl, _⟩ | ⟨_, _, _, _, h⟩
 ·exact absurd h2.symm h1
 ·rcases h0 with ⟨_, q1, q2, q3, _⟩ | ⟨_, q, _⟩ | ⟨_, q, _⟩
  ·exact ⟨q1, q2, q3, h1⟩
  ·omega
  ·omega
 ·omega
end Go.Proofs.YtendohnkhbgfbaaDoor
namespace Go.Proofs.YtendohnkhbgfbaaDoor
open Go.RowKit

def headB (k : Int) (s : List Int) : List Int := magicL ++ (s ++ [k])
theorem headB_length {k : Int} {s : List Int} (h : s.length = 4) : (headB k s).length = 9 := by
 unfold headB magicL
 simp [h]
theorem chunkB_eq (k : Int) (c : List Int) : chunkB k c = headB k (sumB k c) ++ (lebU c.length ++ c) := by
 unfold chunkB headB tailB
 simp
theorem headB_begins {k : Int} {s R : List Int} (j : Nat) : Begins ((headB k s ++ R).take j) := by
 intro i hi hl
 rw [List.length_take] at hl
 have e : rd ((headB k s ++ R).take j) i = rd (headB k s ++ R) i := take_rdl (by omega)
 rw [e]
 unfold headB
 rw [List.append_assoc]
 exact rd_app_l (by show i < 4; exact hi)
theorem headB_kind {k : Int} {s R : List Int} (h : s.length = 4) : rd (headB k s ++ R) 8 = k := by
 rw [rd_app_l (by rw [headB_length h]; decide)]
 unfold headB magicL
 obtain ⟨a, b, c, d, rfl⟩ : ∃ a b c d, s = [a, b, c, d] := by
  match s, h with
  | [a, b, c, d], _ => exact ⟨a, b, c, d, rfl⟩
 rfl
theorem headB_sum {k : Int} {s R : List Int} (h : s.length = 4) : ((headB k s ++ R).drop 4).take 4 = s := by
 unfold headB
 rw [List.append_assoc, List.drop_left' (show magicL.length = 4 from rfl), List.append_assoc, List.take_left' h]
theorem next_put {k : Int} {c : List Int} (R : List Int) (hk : k = 1 ∨ k = 2) (hc : c.length ≤ 1048576) : IsNext (chunkB k c ++ R) k c (chunkB k c).length 0 := by
 have hs := sumB_length k c
 have e : chunkB k c ++ R = headB k (sumB k c) ++ (lebU c.length ++ (c ++ R)) := by rw [chunkB_eq]; simp
 have hb : Begins (chunkB k c ++ R) := by
  have := headB_begins (k := k) (s := sumB k c) (R := lebU c.length ++ (c ++ R)) (headB k (sumB k c) ++ (lebU c.length ++ (c ++ R))).length
  rw [List.take_length] at this
  rw [e]
  exact this
 have h8 : rd (chunkB k c ++ R) 8 = k := by rw [e]; exact headB_kind hs
 have hg : IsGet ((chunkB k c ++ R).drop 9) c.length (lebU c.length).length 0 := by
  rw [e, List.drop_left' (headB_length hs)]
  exact get_leb (by omega) _
 have hl := chunkB_length k c
 have hcc : ((chunkB k c ++ R).drop (9 + (lebU c.length).length)).take c.length = c := by
  rw [← List.drop_drop, e, List.drop_left' (headB_length hs), List.drop_left, List.take_left]
 have h := next_ok hb (by rw [List.length_append]; omega) (by unfold IsKind; rw [h8]; exact hk) hg hc (by rw [List.length_append]; omega) (by rw [h8, hcc, e, headB_sum hs])
 rw [h8, hcc, ← hl] at h
 exact h
theorem next_front {k : Int} {c : List Int} (hk : k = 1 ∨ k = 2) (hc : c.length ≤ 1048576) {j : Nat} (hj : j < (chunkB k c).length) : IsNext ((chunkB k c).take j) 0 [] 0 2 := by
 have hs := sumB_length k c
 have hl := chunkB_length k c
 have hb : Begins ((chunkB k c).take j) := by rw [chunkB_eq]; exact headB_begins j
 have hlt : ((chunkB k c).take j).length = j := by rw [List.length_take]; omega
 by_cases h9 : j < 9
 ·exact next_few hb (by rw [hlt]; exact h9)
 have e : (chunkB k c).take j = headB k (sumB k c) ++ (lebU c.length ++ c).take (j - 9) := by
  rw [chunkB_eq, List.take_append, headB_length hs, List.take_of_length_le (by rw [headB_length hs]; omega)]
 have h8 : rd ((chunkB k c).take j) 8 = k := by rw [e]; exact headB_kind hs
 have hK : IsKind ((chunkB k c).take j) := by unfold IsKind; rw [h8]; exact hk
 have hd : ((chunkB k c).take j).drop 9 = (lebU c.length ++ c).take (j - 9) := by rw [e, List.drop_left' (headB_length hs)]
 by_cases h : j - 9 < (lebU c.length).length
 ·refine next_num (n := 0) (k := 0) hb (by rw [hlt]; omega) hK ?_ (by decide)
  rw [hd, List.take_append_of_le_length (by omega)]
  exact get_front (by omega) h
 ·refine next_short (n := c.length) (k := (lebU c.length).length) hb (by rw [hlt]; omega) hK ?_ hc (by rw [hlt]; omega)
  rw [hd, List.take_append, List.take_of_length_le (by omega)]
  exact get_leb (by omega) _
theorem rd_last4 {s : List Int} (h : s.length = 4) (x : Int) : rd (s ++ [x]) (8 - 4) = x := by
 match s, h with
 | [a, b, c, d], _ => rfl
theorem chunk_is {b : List Int} {n k : Nat} (hb : Begins b) (hl : 9 ≤ b.length) (hg : IsGet (b.drop 9) n k 0) (hs : 9 + k + n ≤ b.length) :
  chunkB (rd b 8) ((b.drop (9 + k)).take n) = b.take (9 + k + n) ↔ sumB (rd b 8) ((b.drop (9 + k)).take n) = (b.drop 4).take 4 := by
 have hn : ((b.drop (9 + k)).take n).length = n := by rw [List.length_take, List.length_drop]; omega
 have hleb : lebU n = (b.drop 9).take k := by
  obtain ⟨s, f, h0, h⟩ := hg
  rcases h with ⟨h1, _, _, h2⟩ | ⟨_, _, h1, rfl, _⟩ | ⟨_, _, _, _, h⟩
  ·exact absurd h2.symm h1
  ·exact h1
  ·omega
 have h4 : ((b.drop 4).take 4).length = 4 := by rw [List.length_take, List.length_drop]; omega
 have e9 : b.take 9 = headB (rd b 8) ((b.drop 4).take 4) := by
  apply ext_rd (by rw [headB_length h4, List.length_take]; omega)
  intro j hj
  rw [List.length_take] at hj
  rw [take_rdl (by omega)]
  unfold headB
  by_cases h1 : j < 4
  ·rw [rd_app_l (by show j < 4; exact h1)]
   exact hb j h1 (by omega)
  ·have r1 : rd (magicL ++ ((b.drop 4).take 4 ++ [rd b 8])) j = rd ((b.drop 4).take 4 ++ [rd b 8]) (j - 4) := by
    unfold rd
    rw [List.getD_eq_getElem?_getD, List.getD_eq_getElem?_getD, List.getElem?_append_right (by show 4 ≤ j; omega)]
    rfl
   rw [r1]
   by_cases h2 : j < 8
   ·rw [rd_app_l (by rw [h4]; omega), take_rdl (by omega)]
    unfold rd
    rw [List.getD_eq_getElem?_getD, List.getD_eq_getElem?_getD, List.getElem?_drop]
    congr 3
    omega
   ·obtain rfl : j = 8 := by omega
    exact (rd_last4 h4 _).symm
 have e : b.take (9 + k + n) = headB (rd b 8) ((b.drop 4).take 4) ++ (lebU n ++ (b.drop (9 + k)).take n) := by
  rw [← e9, hleb, ← List.drop_drop, Nat.add_assoc, List.take_add, List.take_add]
 rw [chunkB_eq, hn, e]
 constructor
 ·intro h
  have h1 := List.append_inj_left h (by rw [headB_length (sumB_length _ _), headB_length h4])
  unfold headB at h1
  exact List.append_inj_left (List.append_cancel_left h1) (by rw [sumB_length, h4])
 ·intro h
  rw [h]
end Go.Proofs.YtendohnkhbgfbaaDoor
namespace Go.Proofs.YtendohnkhbgfbaaDoor
open Go.RowKit

def LastQ (P : Program) (ops : Array Oper) (on : Oper) (Q : Exit → Act → World → Prop) : Exit → Act → World → Prop
 | .normal, a, w => wpList P ops Q [on] a w
 | .panic _, _, _ => False
 | e, a, w => Q e a w
theorem LastQ.imp {P : Program} {ops : Array Oper} {on : Oper} {Q : Exit → Act → World → Prop} : ∀ (e : Exit) (a : Act) (w : World), e ≠ .normal → LastQ P ops on Q e a w → Q e a w := fun e a w hn h => by
 cases e <;> first | exact absurd rfl hn | exact h | exact (h : False).elim
theorem upon_monoQ {P : Program} {o : Oper} {a : Act} {next : Act → World → Prop} {Q Q' : Exit → Act → World → Prop} (hQ : ∀ e a w, e ≠ .normal → Q' e a w → Q e a w) : ∀ r, o.upon P a next Q' r → o.upon P a next Q r := by
 intro r h
 rcases r with ⟨n, w'⟩ | ⟨hh, w'⟩
 ·cases n with
  | enter f args =>
   refine Calls.mono h fun e w'' he => ?_
   cases e with
   | returned u => exact he
   | panicked c => exact hQ _ _ _ (by simp) he
   | outgrown => obtain ⟨a, w, hq⟩ := he; exact ⟨a, w, hQ _ _ _ (by simp) hq⟩
  | _ => exact h
 ·cases hh with
  | panic v => exact hQ _ _ _ (by simp) h
  | _ => exact h
theorem wpOp_monoQ {P : Program} {ops : Array Oper} {i : Nat} {K : Act → World → Prop} {a : Act} {w : World} {Q Q' : Exit → Act → World → Prop} (hQ : ∀ e a w, e ≠ .normal → Q' e a w → Q e a w) (h : wpOp P ops Q' i K a w) : wpOp P ops Q i K a w := by
 unfold wpOp at *
 split
 ·simpa [*] using h
 ·rename_i o ho
  simp only [ho] at h
  split
  ·rename_i hw
   simp only [hw, if_true] at h
   rcases h with h | ⟨h1, a', w', h2⟩
   ·exact .inl (upon_monoQ hQ _ h)
   ·exact .inr ⟨h1, a', w', hQ _ _ _ (by simp) h2⟩
  ·rename_i hw
   simp only [hw] at h
   exact h
def lastB (md : Region.Mode) (ops : Array Oper) (n : Nat) : Bool :=
 decide (ops.size = n + 1) && (List.range ops.size).all (fun i => ((ops[i]?).map fun o => o.after.all fun e => !Region.binds md e || decide (e.on < i)).getD false) &&
  (List.range n).all (fun i => (List.range (n + 1)).any fun j => decide (i < j) && ((ops[j]?).map fun o => o.after.any fun e => Region.binds md e && e.on == i).getD false)
structure LastOk (md : Region.Mode) (ops : Array Oper) (n : Nat) (on : Oper) : Prop where
 hn : ops[n]? = some on
 size : ops.size = n + 1
 down : ∀ i o, ops[i]? = some o → ∀ e ∈ o.after, Region.binds md e = true → e.on < i
 all : ∀ i, i < n → ∃ j o, i < j ∧ j ≤ n ∧ ops[j]? = some o ∧ ∃ e ∈ o.after, Region.binds md e = true ∧ e.on = i
def Closed (md : Region.Mode) (ops : Array Oper) (listed : Array Bool) : Prop := ∀ j o, ops[j]? = some o → listed.getD j false = true → ∀ e ∈ o.after, Region.binds md e = true → listed.getD e.on false = true
theorem Closed.set {md : Region.Mode} {ops : Array Oper} {listed : Array Bool} (hc : Closed md ops listed) {i : Nat} (hi : i ∈ Region.ready md ops listed) : Closed md ops (listed.setIfInBounds i true) := by
 obtain ⟨_, oi, hoi, hall⟩ := mem_ready.1 hi
 intro j o hj hl e he hb
 by_cases hij : i = j
 ·subst hij
  have : o = oi := Option.some.inj (hj.symm.trans hoi)
  subst this
  exact getD_set_true (hall e he hb)
 ·rw [getD_set_ne false hij] at hl
  exact getD_set_true (hc j o hj hl e he hb)
theorem LastOk.of {md : Region.Mode} {ops : Array Oper} {n : Nat} {on : Oper} (hn : ops[n]? = some on) (h : lastB md ops n = true) : LastOk md ops n on := by
 unfold lastB at h
 simp only [Bool.and_eq_true, decide_eq_true_eq] at h
 obtain ⟨⟨h1, h2⟩, h3⟩ := h
 refine ⟨hn, h1, fun i o ho e he hb => ?_, fun i hi => ?_⟩
 ·have hlt : i < ops.size := (Array.getElem?_eq_some_iff.1 ho).1
  have q := List.all_eq_true.1 h2 i (List.mem_range.2 hlt)
  rw [ho, Option.map_some, Option.getD_some] at q
  have q2 := Array.all_eq_true_iff_forall_mem.1 q e he
  rw [hb] at q2
  simpa using q2
 ·have q := List.all_eq_true.1 h3 i (List.mem_range.2 hi)
  obtain ⟨j, hj, q1⟩ := List.any_eq_true.1 q
  simp only [Bool.and_eq_true, decide_eq_true_eq] at q1
  have hjn := List.mem_range.1 hj
  have ho : ops[j]? = some (ops[j]'(by omega)) := Array.getElem?_eq_getElem (by omega)
  have q3 := q1.2
  rw [ho, Option.map_some, Option.getD_some] at q3
  obtain ⟨e, he, q2⟩ := Array.any_eq_true'.1 q3
  simp only [Bool.and_eq_true, beq_iff_eq] at q2
  exact ⟨j, _, q1.1, by omega, ho, e, he, q2.1, q2.2⟩
theorem LastOk.listed {md : Region.Mode} {ops : Array Oper} {n : Nat} {on : Oper} (L : LastOk md ops n on) {listed : Array Bool} (hs : listed.size = ops.size) (hr : ∀ i ∈ Region.ready md ops listed, i = n) : ∀ i, i < n → listed.getD i false = true := by
 intro i
 induction i using Nat.strongRecOn with
 | _ i ih =>
  intro hi
  cases e : listed.getD i false with
  | true => rfl
  | false =>
   exfalso
   have hsz := L.size
   have ho : ops[i]? = some (ops[i]'(by omega)) := Array.getElem?_eq_getElem (by omega)
   have : i ∈ Region.ready md ops listed := by
    rw [mem_ready]
    refine ⟨?_, _, ho, fun e' he hb => ih e'.on (L.down i _ ho e' he hb) (by have := L.down i _ ho e' he hb; omega)⟩
    have hil : i < listed.size := by omega
    simp [hil] at e ⊢
    exact e
   have := hr i this
   omega
theorem LastOk.end' {md : Region.Mode} {ops : Array Oper} {n : Nat} {on : Oper} (L : LastOk md ops n on) {listed : Array Bool} (hs : listed.size = ops.size) (hn : listed.getD n true = false) (h : ∀ i, i < n → listed.getD i false = true) : Region.ready md ops listed = [n] ∧ Region.ready md ops (listed.setIfInBounds n true) = [] := by
 have hmem : ∀ j, j ∈ Region.ready md ops listed ↔ j = n := by
  intro j
  rw [mem_ready]
  constructor
  ·rintro ⟨h1, o, ho, _⟩
   have hlt : j < ops.size := (Array.getElem?_eq_some_iff.1 ho).1
   rcases Nat.lt_or_ge j n with h2 | h2
   ·have h3 := h j h2
    have hj : j < listed.size := by omega
    simp [hj] at h1 h3
    rw [h1] at h3
    cases h3
   ·have := L.size; omega
  ·rintro rfl
   exact ⟨hn, on, L.hn, fun e he hb => h _ (L.down _ _ L.hn e he hb)⟩
 constructor
 ·have hnd : (Region.ready md ops listed).Nodup := (List.nodup_range).sublist (by unfold Region.ready; exact List.filter_sublist)
  generalize Region.ready md ops listed = l at *
  match l, hmem, hnd with
  | [], hm, _ => exact absurd ((hm n).2 rfl) (by simp)
  | [x], hm, _ => rw [(hm x).1 (by simp)]
  | x :: y :: r, hm, hnd =>
   have e1 := (hm x).1 (by simp)
   have e2 := (hm y).1 (by simp)
   simp [e1, e2] at hnd
 ·rw [List.eq_nil_iff_forall_not_mem]
  intro j hj
  have h1 := hj
  rw [mem_ready] at h1
  obtain ⟨h1, o, ho, _⟩ := h1
  have hlt : j < ops.size := (Array.getElem?_eq_some_iff.1 ho).1
  have hjs : j < (listed.setIfInBounds n true).size := by simp; omega
  by_cases e : n = j
  ·subst e
   simp at h1
  ·rw [getD_set_ne true e] at h1
   have h3 := h j (by have := L.size; omega)
   have hj2 : j < listed.size := by omega
   simp [hj2] at h1 h3
   rw [h1] at h3
   cases h3
theorem wpAny_of_last {P : Program} {md : Region.Mode} {ops : Array Oper} {n : Nat} {on : Oper} {Q : Exit → Act → World → Prop} {S : World → Prop} (L : LastOk md ops n on) :
  ∀ (fuel : Nat) (listed : Array Bool) (a : Act) (w : World), listed.size = ops.size → listed.getD n true = false → Closed md ops listed → wpAnyH P md ops (LastQ P ops on Q) S fuel (listed.setIfInBounds n true) a w → wpAny P md ops Q (fuel + 1) listed a w := by
 have fin : ∀ (fuel : Nat) (listed : Array Bool) (a : Act) (w : World), listed.size = ops.size → listed.getD n true = false → (∀ i, i < n → listed.getD i false = true) → LastQ P ops on Q .normal a w → wpAny P md ops Q (fuel + 1) listed a w := by
  intro fuel listed a w hs hn hl h
  obtain ⟨r1, r2⟩ := L.end' hs hn hl
  refine ⟨fun h0 => (by rw [r1] at h0; cases h0), fun i hi => ?_⟩
  rw [r1] at hi
  have hin : i = n := by simpa using hi
  subst hin
  have hw : wpOp P ops Q i (wpList P ops Q []) a w := by unfold wpOp; simp only [L.hn]; exact h
  refine wpOp_mono (fun a' w' h' => ?_) hw
  cases fuel with
  | zero => exact ⟨r2, h'⟩
  | succ f => exact ⟨fun _ => h', fun j hj => by rw [r2] at hj; cases hj⟩
 have emp : ∀ (listed : Array Bool), listed.size = ops.size → Region.ready md ops (listed.setIfInBounds n true) = [] → ∀ i, i < n → listed.getD i false = true := by
  intro listed hs hr
  exact L.listed hs (fun i hi => by
   apply Classical.byContradiction
   intro hne
   have := ready_mono hi hne
   rw [hr] at this
   cases this)
 intro fuel
 induction fuel with
 | zero =>
  intro listed a w hs hn _ h
  exact fin 0 listed a w hs hn (emp listed hs h.1) h.2
 | succ fuel ih =>
  intro listed a w hs hn hc h
  by_cases hr : Region.ready md ops (listed.setIfInBounds n true) = []
  ·exact fin (fuel + 1) listed a w hs hn (emp listed hs hr) (h.1 hr)
  ·refine ⟨fun h0 => ?_, fun i hi => ?_⟩
   ·exfalso
    have hl := L.listed hs (fun i hi => by rw [h0] at hi; cases hi)
    rw [(L.end' hs hn hl).1] at h0
    cases h0
   ·by_cases hin : i = n
    ·subst hin
     exfalso
     have hl : ∀ d j, i - j = d → j < i → listed.getD j false = true := by
      intro d
      induction d using Nat.strongRecOn with
      | _ d ihd =>
       intro j hd hj
       obtain ⟨j', o, h1, h2, ho, e, he, hb, rfl⟩ := L.all j hj
       rcases Nat.lt_or_ge j' i with h3 | h3
       ·exact hc j' o ho (ihd (i - j') (by omega) j' rfl h3) e he hb
       ·obtain rfl : j' = i := by omega
        obtain ⟨_, o', ho', hall⟩ := mem_ready.1 hi
        have : o' = o := Option.some.inj (ho'.symm.trans ho)
        subst this
        exact hall e he hb
     exact hr (L.end' hs hn (fun j hj => hl _ j rfl hj)).2
    ·have h1 := wpOp_monoQ LastQ.imp (h.2 i (ready_mono hi hin))
     refine wpOp_mono (fun a' w' h' => ih (listed.setIfInBounds i true) a' w' (by simpa using hs) (by rw [getD_set_ne true hin]; exact hn) (hc.set hi) ?_) h1
     rw [Array.setIfInBounds_comm _ _ hin]
     exact h'.2
theorem wp_region_last {P : Program} {ops : Array Oper} {Q : Exit → Act → World → Prop} {S : World → Prop} {id n : Nat} {on : Oper} {a : Act} {w : World} (hm : P.follows .mixedOrders = true) (hn : ops[n]? = some on) (hB : lastB .any ops n = true) (hS : S w.drew)
  (h : S w.drew → wpAnyH P .any ops (LastQ P ops on Q) S n ((Array.replicate ops.size false).setIfInBounds n true) a w.drew) : (Code.region id ops true).wp P Q a w := by
 have L := LastOk.of hn hB
 refine wp_region_any hm ?_
 have h1 := wpAny_of_last L n (Array.replicate ops.size false) a w.drew (by simp) (by have := L.size; simp [show n < ops.size by omega]) (fun j o _ hl => (by
  rcases Nat.lt_or_ge j ops.size with h' | h'
  ·simp [h'] at hl
  ·simp [h'] at hl)) (h hS)
 rw [L.size] at h1 ⊢
 exact h1
end Go.Proofs.YtendohnkhbgfbaaDoor
