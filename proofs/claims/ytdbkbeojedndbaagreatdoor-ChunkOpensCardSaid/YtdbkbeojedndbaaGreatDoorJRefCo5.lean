/-
  Texts joined into one file: InfP, A, BitsN, Ref01, Fr, Rest, List, Ord, LaidO, GetQ.
-/
import Derived.Test.YtdbkbeojedndbaaGreatDoorJRefCo4
import Derived.Test.YtdbkbeojedndbaaGreatDoorJRefCo1
import Derived.Laws.AppendOwnNone
import Derived.Test.YtdbkbeojedndbaaGreatDoorJRefCo2
import Derived.Test.YtdbkbeojedndbaaGreatDoorJRefCo3
import Derived.OneCell
import Derived.Deep.AppendLies
import Derived.Deep.LoopGhost
import Derived.Laws.Slices
import Derived.Test.YtdbkbeojedndbaaGreatDoorRows
import Derived.ProofKit
import Derived.LaidMore
import Derived.OpenShut
import Derived.MakeChecks
namespace Go.Proofs.YtdbkbeojedndbaaGreatDoor
open Go.RowKit

def iter {σ ρ : Type} (step : σ → σ ⊕ ρ) : Nat → σ → Option ρ
 | 0, _ => none
 | f + 1, s => match step s with
  | .inr r => some r
  | .inl s' => iter step f s'
theorem iter_mono {σ ρ : Type} {step : σ → σ ⊕ ρ} : ∀ {f : Nat} {s : σ} {r : ρ}, iter step f s = some r → ∀ f', f ≤ f' → iter step f' s = some r := by
 intro f
 induction f with
 | zero => intro s r h; simp [iter] at h
 | succ f ih =>
  intro s r h f' hf
  obtain ⟨g, rfl⟩ : ∃ g, f' = g + 1 := ⟨f' - 1, by omega⟩
  unfold iter at h ⊢
  cases hs : step s with
  | inr r2 => rw [hs] at h; exact h
  | inl s2 => rw [hs] at h; exact ih h g (by omega)
theorem iter_inr {σ ρ : Type} {step : σ → σ ⊕ ρ} {s : σ} {r : ρ} (h : step s = .inr r) (f : Nat) : iter step (f + 1) s = some r := by unfold iter; rw [h]
theorem iter_inl {σ ρ : Type} {step : σ → σ ⊕ ρ} {s s' : σ} (h : step s = .inl s') (f : Nat) : iter step (f + 1) s = iter step f s' := by rw [iter, h]
theorem iter_total {σ ρ : Type} {step : σ → σ ⊕ ρ} (m : σ → Nat) (hm : ∀ s s', step s = .inl s' → m s' < m s) : ∀ f s, m s < f → ∃ r, iter step f s = some r := by
 intro f
 induction f with
 | zero => intro s h; omega
 | succ f ih =>
  intro s h
  cases hs : step s with
  | inr r => exact ⟨r, iter_inr hs f⟩
  | inl s' =>
   rw [iter_inl hs]
   exact ih s' (by have := hm s s' hs; omega)
abbrev Res := Except Int (Nat × List Int)
def numS (bs : List Int) (T q n : Nat) : Except Int (Nat × Nat) := if q + n ≤ T then .ok (numAt bs q n, q + n) else .error 2
def symN (xs bs : List Int) (T q : Nat) : Except Int (Nat × Nat) := match nextS xs bs q (T - q) with
 | some s => .ok (s, q + (rd xs s).toNat)
 | none => .error (if T - q < 15 then 2 else 3)
def copyT (d : Nat) : Nat → List Int → List Int
 | 0, o => o
 | n + 1, o => copyT d n (o ++ [rd o (o.length - d)])
theorem copyT_length (d : Nat) : ∀ n o, (copyT d n o).length = o.length + n := by
 intro n
 induction n with
 | zero => intro o; rfl
 | succ n ih => intro o; rw [copyT, ih, List.length_append]; simp; omega
theorem copyT_succ (d : Nat) : ∀ n o, copyT d (n + 1) o = copyT d n o ++ [rd (copyT d n o) ((copyT d n o).length - d)] := by
 intro n
 induction n with
 | zero => intro o; rfl
 | succ n ih => intro o; rw [copyT, ih (o ++ _)]; rfl
def rightT (b l d : Int) (n : Nat) : Bool := if l = 0 then decide (d = 0) else decide (b = 0 ∧ 3 ≤ l ∧ l ≤ 258 ∧ 1 ≤ d ∧ d ≤ 32768 ∧ d ≤ n)
def addT (b l d : Int) (o : List Int) : List Int := if l = 0 then o ++ [b] else copyT d.toNat l.toNat o
def addS (most : Int) (b l d : Int) (o : List Int) : Except Int (List Int) :=
 if rightT b l d o.length = false then .error 3 else if most < o.length + max l 1 then .error 4 else .ok (addT b l d o)
def addR (most : Int) (b l d : Int) (q : Nat) (o : List Int) : Res := match addS most b l d o with
 | .error e => .error e
 | .ok o' => .ok (q, o')
theorem addR_ok {most b l d : Int} {q : Nat} {o o' : List Int} (h : addS most b l d o = .ok o') : addR most b l d q o = .ok (q, o') := by unfold addR; rw [h]
theorem addR_err {most b l d : Int} {q : Nat} {o : List Int} {c : Int} (h : addS most b l d o = .error c) : addR most b l d q o = .error c := by unfold addR; rw [h]
def distL (bs : List Int) (T : Nat) (most L least : Int) (nb q : Nat) (o : List Int) : Res := match numS bs T q nb with
 | .error e => .error e
 | .ok (y, q3) => addR most 0 L (least + y) q3 o
def distS (bs : List Int) (T : Nat) (most : Int) (ys : List Int) (L : Int) (q : Nat) (o : List Int) : Res :=
 if rightB ys = false then .error 3 else
 match symN ys bs T q with
 | .error e => .error e
 | .ok (d, q2) => if 30 ≤ d then .error 3 else distL bs T most L (rowL dists d) (rowB dists d).toNat q2 o
def matchL (bs : List Int) (T : Nat) (most : Int) (ys : List Int) (least : Int) (nb q : Nat) (o : List Int) : Res := match numS bs T q nb with
 | .error e => .error e
 | .ok (x, q1) => distS bs T most ys (least + x) q1 o
def matchS (bs : List Int) (T : Nat) (most : Int) (ys : List Int) (s q : Nat) (o : List Int) : Res :=
 if s ≤ 256 ∨ 286 ≤ s then .error 3 else matchL bs T most ys (rowL lens (s - 257)) (rowB lens (s - 257)).toNat q o
theorem numS_ok {bs : List Int} {T q n : Nat} (h : q + n ≤ T) : numS bs T q n = .ok (numAt bs q n, q + n) := by unfold numS; rw [if_pos h]
theorem numS_no {bs : List Int} {T q n : Nat} (h : T < q + n) : numS bs T q n = .error 2 := by unfold numS; rw [if_neg (by omega)]
theorem matchL_ok {bs : List Int} {T : Nat} {most : Int} {ys : List Int} {least : Int} {nb q : Nat} {o : List Int} (h : q + nb ≤ T) : matchL bs T most ys least nb q o = distS bs T most ys (least + numAt bs q nb) (q + nb) o := by unfold matchL; rw [numS_ok h]
theorem matchL_no {bs : List Int} {T : Nat} {most : Int} {ys : List Int} {least : Int} {nb q : Nat} {o : List Int} (h : T < q + nb) : matchL bs T most ys least nb q o = .error 2 := by unfold matchL; rw [numS_no h]
theorem distL_ok {bs : List Int} {T : Nat} {most L least : Int} {nb q : Nat} {o : List Int} (h : q + nb ≤ T) : distL bs T most L least nb q o = addR most 0 L (least + numAt bs q nb) (q + nb) o := by unfold distL; rw [numS_ok h]
theorem distL_no {bs : List Int} {T : Nat} {most L least : Int} {nb q : Nat} {o : List Int} (h : T < q + nb) : distL bs T most L least nb q o = .error 2 := by unfold distL; rw [numS_no h]
theorem distS_nil {bs : List Int} {T : Nat} {most : Int} {ys : List Int} {L : Int} {q : Nat} {o : List Int} (h : rightB ys = false) : distS bs T most ys L q o = .error 3 := by unfold distS; rw [if_pos h]
theorem distS_err {bs : List Int} {T : Nat} {most : Int} {ys : List Int} {L : Int} {q : Nat} {o : List Int} {c : Int} (h : rightB ys = true) (hs : symN ys bs T q = .error c) : distS bs T most ys L q o = .error c := by unfold distS; rw [if_neg (by rw [h]; decide), hs]
theorem distS_far {bs : List Int} {T : Nat} {most : Int} {ys : List Int} {L : Int} {q d q2 : Nat} {o : List Int} (h : rightB ys = true) (hs : symN ys bs T q = .ok (d, q2)) (hd : 30 ≤ d) : distS bs T most ys L q o = .error 3 := by
 unfold distS
 rw [if_neg (by rw [h]; decide), hs]
 simp only [if_pos hd]
theorem distS_ok {bs : List Int} {T : Nat} {most : Int} {ys : List Int} {L : Int} {q d q2 : Nat} {o : List Int} (h : rightB ys = true) (hs : symN ys bs T q = .ok (d, q2)) (hd : d < 30) : distS bs T most ys L q o = distL bs T most L (rowL dists d) (rowB dists d).toNat q2 o := by
 unfold distS
 rw [if_neg (by rw [h]; decide), hs]
 simp only [if_neg (show ¬ 30 ≤ d by omega)]
def codeStep (bs : List Int) (T : Nat) (most : Int) (xs ys : List Int) (p : Nat × List Int) : (Nat × List Int) ⊕ Res :=
 match symN xs bs T p.1 with
 | .error e => .inr (.error e)
 | .ok (s, q) =>
  if s = 256 then .inr (.ok (q, p.2)) else
  if s < 256 then
   match addS most s 0 0 p.2 with
   | .error e => .inr (.error e)
   | .ok o => .inl (q, o)
  else
   match matchS bs T most ys s q p.2 with
   | .error e => .inr (.error e)
   | .ok r => .inl r
def codedS (bs : List Int) (T : Nat) (most : Int) (xs ys : List Int) (q : Nat) (o : List Int) : Res :=
 if rightB xs = false then .error 3 else
 if rightB ys = false ∧ ys.any (fun y => y != 0) = true then .error 3 else
 (iter (codeStep bs T most xs ys) (T + 1) (q, o)).getD (.error 0)
def upTo8 (q : Nat) : Nat := 8 * ((q + 7) / 8)
def storedS (bs : List Int) (T : Nat) (most : Int) (q : Nat) (o : List Int) : Res :=
 if T < upTo8 q + 32 then .error 2 else
 if numAt bs (upTo8 q) 16 ^^^ numAt bs (upTo8 q + 16) 16 ≠ 65535 then .error 3 else
 if most < o.length + numAt bs (upTo8 q) 16 then .error 4 else
 if T < upTo8 q + 32 + 8 * numAt bs (upTo8 q) 16 then .error 2 else
 .ok (upTo8 q + 32 + 8 * numAt bs (upTo8 q) 16, o ++ (bs.drop ((upTo8 q + 32) / 8)).take (numAt bs (upTo8 q) 16))
def blockS (bs : List Int) (T : Nat) (most : Int) (kind q : Nat) (o : List Int) : Res :=
 if kind = 0 then storedS bs T most q o else
 if kind = 1 then codedS bs T most fixA fixB q o else
 if kind = 2 then (match getS bs T q with
  | none => .error 3
  | some (xs, ys, q1) => codedS bs T most xs ys q1 o) else .error 3
def openStep (bs : List Int) (T : Nat) (most : Int) (p : Nat × List Int) : (Nat × List Int) ⊕ Res :=
 if T < p.1 + 3 then .inr (.error 2) else
 match blockS bs T most (numAt bs (p.1 + 1) 2) (p.1 + 3) p.2 with
 | .error e => .inr (.error e)
 | .ok r => if numAt bs p.1 1 = 0 then .inl r else .inr (.ok r)
def openS (bs : List Int) (most : Int) : Res := (iter (openStep bs (8 * bs.length) most) (8 * bs.length + 1) (0, [])).getD (.error 0)
end Go.Proofs.YtdbkbeojedndbaaGreatDoor
namespace Go.Proofs.YtdbkbeojedndbaaGreatDoor
open Go.RowKit

theorem addr_add (b o j : Nat) : (⟨b, o, none⟩ : Addr).add j = ⟨b, o + j, none⟩ := by unfold Addr.add; split <;> simp_all
theorem wpList_appRd {P : Program} {w : World} {ops : Array Oper} {rest : List Oper} {o : Oper} {a : Act} {Q : Exit → Act → World → Prop} (hgd : o.guard = none) (s x : Operand) {t : TypeId}
  (ho : o.op = .call { callee := .builtin .append, args := #[s, x], argTypes := #[t, t] })
  {base : Nat} {e : TypeId} {k : IntKind} {bytes : Nat} (El : ElT P t e (.int k 0) 1 bytes) {v : Value} {n : Nat} {ys : List Int} (hown : w.ownsRow base e 1 v n (ints k ys)) (hs : a.eval s = v)
  {A : Option Addr} {m c : Nat} {zs : List Int} (hx : a.eval x = .slice A m c) (hR : Rd w k A m zs) (hA : A = none → m = 0 ∧ c = 0) (hbytes : (n + m) * bytes ≤ 140737488355328) (hbase : base ≤ w.heap.size)
  (h : ∀ v' w', w'.ownsRow base e 1 v' (n + m) (ints k (ys ++ zs)) → w.grownBy w' v.ownBlock → wpList P ops Q rest (a.put o.dst v') w') : wpList P ops Q (o :: rest) a w := by
 obtain ⟨i0, hi, hz0, hz1, hz2⟩ := info_parts El.info
 have hn : n + m ≤ maxLen := by
  have := Nat.mul_le_mul_left (n + m) El.bpos
  unfold maxLen
  omega
 have hl := hR.1
 cases A with
 | none =>
  obtain ⟨rfl, rfl⟩ := hA rfl
  have hz : zs = [] := List.length_eq_zero_iff.1 hl
  subst hz
  refine wpList_append_own_none hgd s x t ho base e i0 1 El.und hi v n _ hs hown hx (h v w ?_ ?_)
  ·simpa using hown
  ·exact ⟨rfl, rfl, rfl, Nat.le_refl _, fun _ _ _ => rfl⟩
 | some ad =>
  refine wpList_append_own _ hgd s x t ho base e i0 (.int k 0) 1 bytes El.und hi hz0 hz1 hz2 El.zs El.pos v n _ hs hown ad m c (ints k zs) hx (by rw [ints_length]; omega) ?_ (fun u hu => ?_) hn hbytes hbase ?_
  ·intro j u hu
   have hj : j < zs.length := by
    have := (List.getElem?_eq_some_iff.1 hu).1
    rwa [ints_length] at this
   obtain ⟨b, o', e', hc⟩ := hR.2 (by omega)
   cases e'
   rw [ints_get hj] at hu
   cases hu
   rw [addr_add]
   exact hc j (by omega)
  ·unfold ints at hu
   obtain ⟨y, _, rfl⟩ := List.mem_map.1 hu
   rfl
  ·intro v' w' h2 h3 _
   rw [← ints_append] at h2
   exact h v' w' h2 h3
end Go.Proofs.YtdbkbeojedndbaaGreatDoor
namespace Go.Proofs.YtdbkbeojedndbaaGreatDoor
open Go.RowKit

theorem elU8 : ElT Tryz.prog 22 5 (.int .u8 0) 1 1 := ⟨Tryz.underlying22, by kernel_rfl, rfl, by decide, by decide⟩
theorem own_empty (w : World) (e : TypeId) : (w.alloc (.cells #[] e)).ownsRow w.heap.size e 1 (.slice (some ⟨w.heap.size, 0, none⟩) 0 0) 0 [] :=
 World.ownsRow_lit w #[] 0 (Nat.le_refl _) (by decide) rfl
set_option maxHeartbeats 1000000 in
theorem BNew_calls (A : Option Addr) (len cap : Nat) (bs : List Int) (w : World) (hB : Rd w .u8 A len bs) (hA : A = none → len = 0 ∧ cap = 0) (hlen : len ≤ 1000000) :
  Calls Tryz.prog 25 #[.slice A len cap] w fun e w' => ∃ r B c, e = .returned (.pointer (some ⟨r, 0, none⟩)) ∧ w.heap.size ≤ r ∧ RdrAt w' r B len c 0 ∧ w'.ownsRow w.heap.size 5 1 (.slice B len c) len (ints .u8 bs) ∧ Below w.heap.size w w' := by
 have HB := Lib.hid hB
 clear hB
 go_enter Tryz.func25, Tryz.ntmps25
 go_wp2_with (at_builtin; refine wpList_appRd rfl _ _ rfl elU8 (ys := []) (own_empty w _) rfl rfl (HB.out.alloc _) hA (by omega) (by simp) ?_; intro v' w' hown hg; rw [Nat.zero_add] at hown; obtain ⟨B, c, rfl⟩ := own_slice hown; have Hown := Lib.hid hown; have Hg := Lib.hid hg; clear hown hg)
 have hsz : w.heap.size ≤ w'.heap.size := by have := Hg.out.size; simp at this; omega
 have hb1 : Below w.heap.size w w' := ((Below.refl _ _).alloc (Nat.le_refl _) _).grown Hg.out (by simp) (fun k hk => by simp [Value.ownBlock] at hk; omega)
 go_ret
 exact ⟨w'.heap.size, B, c, rfl, hsz, heap_alloc_new w' _, Hown.out.alloc _, below_new hb1 (Nat.le_refl _) _⟩
end Go.Proofs.YtdbkbeojedndbaaGreatDoor
namespace Go.Proofs.YtdbkbeojedndbaaGreatDoor
open Go.RowKit

theorem elB : ElT Tryz.prog 22 5 (.int .u8 0) 1 1 := ⟨Tryz.underlying22, by kernel_rfl, rfl, by decide, by decide⟩
def lowOf (x n : Nat) : List Int := (List.range n).map fun i => ((x / 2 ^ i % 2 : Nat) : Int)
theorem lowOf_length (x n : Nat) : (lowOf x n).length = n := by simp [lowOf]
theorem lowOf_succ (x n : Nat) : lowOf x (n + 1) = lowOf x n ++ [((x / 2 ^ n % 2 : Nat) : Int)] := by simp [lowOf, List.range_succ]
set_option maxHeartbeats 1000000 in set_option maxRecDepth 100000 in
theorem Low_calls (x n : Nat) (w : World) (hx : x < 18446744073709551616) (hn : n ≤ 64) :
  Calls Tryz.prog 18 #[.int .u64 x, .int .i64 n] w fun e w' => ∃ v, e = .returned v ∧ w'.ownsRow w.heap.size 5 1 v n (ints .u8 (lowOf x n)) ∧ Below w.heap.size w w' := by
 go_enter Tryz.func18, Tryz.ntmps18
 go_wp2
 go_loopw [0, 5, 6] (fun y v i wr => ∃ k : Nat, k ≤ n ∧ i = .int .i64 k ∧ y = .int .u64 (x / 2 ^ k : Nat) ∧ Hid (wr.ownsRow w.heap.size 5 1 v k (ints .u8 (lowOf x k))) ∧ Hid (Below w.heap.size w wr)) (fun _ _ i _ => n - (intOf i).toNat)
 case atStart => exact ⟨0, by omega, rfl, by simp, World.ownsRow_nil _ _ _ _, Below.refl _ _⟩
 case round =>
  obtain ⟨k, hk, rfl, rfl, Hown, Hbel⟩ := hrel
  have hsz := Hbel.out.size
  by_cases hlt : k < n
  ·obtain ⟨y, hy⟩ : ∃ y : Nat, y = x / 2 ^ k := ⟨_, rfl⟩
   have hyx : y ≤ x := by rw [hy]; exact Nat.div_le_self _ _
   have hnx : x / 2 ^ (k + 1) = y / 2 := by rw [hy, Nat.div_div_eq_div_mul, Nat.pow_succ]
   have hlw := lowOf_succ x k
   rw [← hy] at hlw ⊢
   have Hnx := Lib.hid hnx
   have Hlw := Lib.hid hlw
   clear hnx hlw hy
   obtain ⟨A, c, rfl⟩ := own_slice Hown.out
   obtain ⟨z, hz, hz1, Hz⟩ : ∃ z : Nat, (y : Int) % 2 = (z : Int) ∧ z ≤ 1 ∧ Hid (y % 2 = z) := ⟨y % 2, by omega, by omega, rfl⟩
   rw [Hz.out] at Hlw
   go_wp2_with (at_builtin; refine wpList_app1 rfl _ _ rfl elB Hown.out rfl rfl rfl rfl (by omega) hsz ?_; intro v' w' hown' hbel' _)
   go_roundw
   case rel => exact ⟨k + 1, by omega, by go_num, by rw [Hnx.out]; go_num, by rw [Hlw.out, ints_append]; exact hown', Hbel.out.trans hbel'⟩
   case measure => simp [intOf]; omega
  ·obtain rfl : k = n := by omega
   go_wp2
   go_ret
   exact ⟨_, rfl, Hown.out, Hbel.out⟩
def bitsOf (bs : List Int) (p m : Nat) : List Int := (List.range m).map fun i => ((bitAt bs (p + i) : Nat) : Int)
theorem bitsOf_length (bs : List Int) (p m : Nat) : (bitsOf bs p m).length = m := by simp [bitsOf]
theorem rd_bitsOf {bs : List Int} {p m i : Nat} (h : i < m) : rd (bitsOf bs p m) i = ((bitAt bs (p + i) : Nat) : Int) := by
 rw [rd_getElem (by rw [bitsOf_length]; exact h)]
 simp [bitsOf]
theorem bitsOf_next (bs : List Int) (k : Nat) : bitsOf bs 0 (8 * (k + 1)) = bitsOf bs 0 (8 * k) ++ lowOf (rd bs k).toNat 8 := by
 apply ext_rd (by rw [List.length_append, bitsOf_length, bitsOf_length, lowOf_length]; omega)
 intro j hj
 rw [bitsOf_length] at hj
 rw [rd_bitsOf hj]
 rcases Nat.lt_or_ge j (8 * k) with g | g
 ·rw [rd_appL (by rw [bitsOf_length]; exact g), rd_bitsOf g]
 ·obtain ⟨i, rfl⟩ : ∃ i, j = 8 * k + i := ⟨j - 8 * k, by omega⟩
  have e : 8 * k + i = (bitsOf bs 0 (8 * k)).length + i := by rw [bitsOf_length]
  rw [e, rd_appR, ← e, rd_getElem (by rw [lowOf_length]; omega)]
  simp only [lowOf, List.getElem_map, List.getElem_range]
  unfold bitAt
  rw [show (0 + (8 * k + i)) / 8 = k from by omega, show (0 + (8 * k + i)) % 8 = i from by omega]
end Go.Proofs.YtdbkbeojedndbaaGreatDoor
namespace Go.Proofs.YtdbkbeojedndbaaGreatDoor
open Go.RowKit

structure Fr (w w' : World) (S : List (Option Nat)) : Prop where
 os : w'.os = w.os
 tape : w'.tape = w.tape
 output : w'.output = w.output
 size : w.heap.size ≤ w'.heap.size
 block : ∀ k, k < w.heap.size → (∀ o ∈ S, o ≠ some k) → w'.heap[k]? = w.heap[k]?
theorem Fr.refl (w : World) (S : List (Option Nat)) : Fr w w S := ⟨rfl, rfl, rfl, Nat.le_refl _, fun _ _ _ => rfl⟩
theorem Fr.trans {w w1 w2 : World} {S T : List (Option Nat)} (h : Fr w w1 S) (k : Fr w1 w2 T) (hT : ∀ o ∈ T, o ∈ S ∨ ∀ j, o = some j → w.heap.size ≤ j) : Fr w w2 S :=
 ⟨k.os.trans h.os, k.tape.trans h.tape, k.output.trans h.output, Nat.le_trans h.size k.size, fun j hj hS =>
  (k.block j (Nat.lt_of_lt_of_le hj h.size) (fun o ho e => by
   rcases hT o ho with h1 | h1
   ·exact hS o h1 e
   ·have := h1 j e; omega)).trans (h.block j hj hS)⟩
theorem Fr.ofBelow {w w' : World} (h : Below w.heap.size w w') (S : List (Option Nat)) : Fr w w' S := ⟨h.os, h.tape, h.output, h.size, fun k hk _ => h.block k hk⟩
theorem Fr.below {w w' : World} {S : List (Option Nat)} {B : Nat} (h : Fr w w' S) (hB : B ≤ w.heap.size) (hS : ∀ o ∈ S, ∀ j, o = some j → B ≤ j) : Below B w w' :=
 ⟨h.os, h.tape, h.output, h.size, fun k hk => h.block k (Nat.lt_of_lt_of_le hk hB) (fun o ho e => by have := hS o ho k e; omega)⟩
theorem Fr.ofGrown {w w' : World} {row : Option Nat} (h : w.grownBy w' row) : Fr w w' [row] := ⟨h.os, h.tape, h.output, h.size, fun k hk hS => h.block k hk (fun e => hS row (by simp) e.symm)⟩
theorem Fr.mono {w w' : World} {S T : List (Option Nat)} (h : Fr w w' S) (hS : ∀ o ∈ S, o ∈ T) : Fr w w' T := ⟨h.os, h.tape, h.output, h.size, fun k hk hT => h.block k hk (fun o ho => hT o (hS o ho))⟩
theorem Fr.set {w w' : World} {S : List (Option Nat)} (h : Fr w w' S) (a : Addr) (v : Value) (ha : some a.block ∈ S ∨ w.heap.size ≤ a.block) : Fr w (w'.setCell a v) S :=
 ⟨h.os, h.tape, h.output, by simpa using h.size, fun k hk hS => (heap_setCell_other w' a k v (by
  intro e
  rcases ha with h1 | h1
  ·exact hS _ h1 (by rw [e])
  ·omega)).trans (h.block k hk hS)⟩
theorem Fr.alloc {w w' : World} {S : List (Option Nat)} (h : Fr w w' S) (o : Obj) : Fr w (w'.alloc o) S :=
 ⟨h.os, h.tape, h.output, by have := h.size; simp; omega, fun k hk hS => (Below.heap_alloc _ _ _ (Nat.lt_of_lt_of_le hk h.size)).trans (h.block k hk hS)⟩
theorem Fr.drew {w w' : World} {S : List (Option Nat)} (h : Fr w w' S) : Fr w w'.drew S := ⟨h.os, h.tape, h.output, h.size, h.block⟩
def Apart (a b : Option Nat) : Prop := ∀ k, a = some k → b ≠ some k
theorem Apart.symm {a b : Option Nat} (h : Apart a b) : Apart b a := fun k e f => h k f e
theorem own_fr {w w' : World} {base : Nat} {e : TypeId} {size n : Nat} {v : Value} {xs : List Value} {S : List (Option Nat)} (h : w.ownsRow base e size v n xs) (hf : Fr w w' S) (hS : ∀ o ∈ S, Apart v.ownBlock o) : w'.ownsRow base e size v n xs := by
 refine ⟨h.1, ?_⟩
 rcases h.2 with h2 | ⟨g, cap, cur, rfl, hb, hg, r⟩
 ·exact .inl h2
 ·refine .inr ⟨g, cap, cur, rfl, hb, ?_, r⟩
  rw [hf.block g (Array.getElem?_eq_some_iff.1 hg).1 (fun o ho => hS o ho g rfl)]
  exact hg
theorem own_apart {w : World} {h : Nat} {cells : Array Value} {T e : TypeId} {fz : Nat × Nat} {base n size : Nat} {v : Value} {xs : List Value} (hh : w.heap[h]? = some (.cells cells T fz)) (hT : T ≠ e) (ho : w.ownsRow base e size v n xs) : Apart v.ownBlock (some h) := by
 intro k hk e2
 cases e2
 rcases ho.2 with ⟨rfl, _⟩ | ⟨g, cap, cur, rfl, _, hg, _⟩
 ·simp [Value.ownBlock] at hk
 ·simp [Value.ownBlock] at hk
  subst hk
  rw [hh] at hg
  simp at hg
  exact hT hg.2.1
theorem own_apart2 {w : World} {e e' : TypeId} {base base' n n' size size' : Nat} {v v' : Value} {xs xs' : List Value} (he : e ≠ e') (h : w.ownsRow base e size v n xs) (h' : w.ownsRow base' e' size' v' n' xs') : Apart v.ownBlock v'.ownBlock := by
 intro k hk e2
 rcases h'.2 with ⟨rfl, _⟩ | ⟨g, cap, cur, rfl, _, hg, _⟩
 ·simp [Value.ownBlock] at e2
 ·simp [Value.ownBlock] at e2
  subst e2
  exact own_apart hg (Ne.symm he) h g hk rfl
theorem own_base0 {w : World} {base n : Nat} {e : TypeId} {size : Nat} {v : Value} {xs : List Value} (h : w.ownsRow base e size v n xs) : w.ownsRow 0 e size v n xs := own_mono h (Nat.zero_le _)
theorem own_front {w : World} {base n : Nat} {e : TypeId} {A : Option Addr} {c : Nat} {xs : List Value} (h : w.ownsRow base e 1 (.slice A n c) n xs) (m : Nat) (hm : m ≤ n) : w.ownsRow base e 1 (.slice A m c) m (xs.take m) := by
 refine ⟨by rw [List.length_take, h.1]; omega, ?_⟩
 rcases h.2 with ⟨h1, h2⟩ | ⟨g, cap, cur, h1, hb, hg, h3, h4, h5, h6⟩
 ·simp at h1
  obtain ⟨rfl, rfl, rfl⟩ := h1
  exact .inl ⟨by rw [show m = 0 from by omega], by omega⟩
 ·simp at h1
  obtain ⟨rfl, rfl⟩ := h1
  refine .inr ⟨g, c, cur, rfl, hb, hg, by omega, h4, h5, ?_⟩
  rw [← h6, List.take_take]
  congr 1
  omega
theorem own_store {w : World} {base n : Nat} {e : TypeId} {size : Nat} {g c : Nat} {xs : List Value} (h : w.ownsRow base e size (.slice (some ⟨g, 0, none⟩) n c) n xs) (j : Nat) (u : Value) :
  (w.setCell ⟨g, j, none⟩ u).ownsRow base e size (.slice (some ⟨g, 0, none⟩) n c) n (xs.set j u) := by
 refine ⟨by rw [List.length_set, h.1], ?_⟩
 rcases h.2 with ⟨h1, h2⟩ | ⟨g', cap, cur, h1, hb, hg, h3, h4, h5, h6⟩
 ·cases h1
 ·simp at h1
  obtain ⟨rfl, rfl⟩ := h1
  refine .inr ⟨g, c, cur.setIfInBounds j u, rfl, hb, ?_, h3, h4, by rw [Array.size_setIfInBounds, h5], ?_⟩
  ·exact heap_setCell_same w g j _ _ _ hg
  ·rw [Array.toList_setIfInBounds, List.take_set, h6]
theorem wpList_app3 {P : Program} {wr : World} {ops : Array Oper} {rest : List Oper} {o : Oper} {a : Act} {Q : Exit → Act → World → Prop} (hgd : o.guard = none) (s x : Operand) {t : TypeId}
  (ho : o.op = .call { callee := .builtin .append, args := #[s, x], argTypes := #[t, t] })
  {base : Nat} {e : TypeId} {z : Value} {size bytes : Nat} (El : ElT P t e z size bytes) {v : Value} {n : Nat} {xs : List Value} (hown : wr.ownsRow base e size v n xs)
  (hs : a.eval s = v) {vs : Array Value} {T : TypeId} {bx : Nat} (hx : a.eval x = .slice (some ⟨bx, 0, none⟩) 1 1) (hbx : bx = wr.heap.size) (hl : vs.size = size) (h1 : vs.toList.all (fun u => u.oneCell') = true)
  (hbytes : (n + 1) * bytes ≤ 140737488355328) (hbase : base ≤ wr.heap.size)
  (h : ∀ g cap w', w'.ownsRow base e size (.slice (some ⟨g, 0, none⟩) (n + 1) cap) (n + 1) (xs ++ vs.toList) → Fr wr w' [v.ownBlock] → (v.ownBlock = some g ∨ wr.heap.size ≤ g) → g < w'.heap.size → wpList P ops Q rest (a.put o.dst (.slice (some ⟨g, 0, none⟩) (n + 1) cap)) w') : wpList P ops Q (o :: rest) a (wr.alloc (.cells vs T)) := by
 subst hbx
 obtain ⟨i0, hi, hz0, hz1, hz2⟩ := info_parts El.info
 have hn : n + 1 ≤ maxLen := by
  have := Nat.mul_le_mul_left (n + 1) El.bpos
  unfold maxLen
  omega
 refine wpList_append_lies _ hgd s x t ho base e i0 z size bytes El.und hi hz0 hz1 hz2 El.zs El.pos v n xs hs (hown.alloc _) ⟨wr.heap.size, 0, none⟩ 1 1 vs.toList hx (by simpa using hl) (news_at _ _ _) (fun u hu => List.all_eq_true.1 h1 u hu) (by omega) hn hbytes (by simp; omega) (wr.heap.size + 1) (by simp) ?_
 intro g cap w' h2 h3 h4 h5
 refine h g cap w' h2 (((Fr.refl wr [v.ownBlock]).alloc _).trans (Fr.ofGrown h3) (fun o ho => .inl ho)) ?_ h5
 rcases h4 with h4 | h4
 ·exact .inl h4
 ·exact .inr (by omega)
theorem Later.made {W0 W : World} (a : Addr) (u : Value) (ha : W0.heap.size ≤ a.block) (h : Later W0 W) : Later W0 (W.setCell a u) := ⟨h.bel.setCell ha u⟩
theorem Later.new {W0 W : World} (o : Obj) (h : Later W0 W) : Later W0 (W.alloc o) := h.alloc o
theorem Later.below {W0 W : World} (h : Later W0 W) : Below W0.heap.size W0 W := h.bel
end Go.Proofs.YtdbkbeojedndbaaGreatDoor
namespace Go.Proofs.YtdbkbeojedndbaaGreatDoor
open Go.RowKit

theorem Coder.below {w w1 : World} {base h : Nat} {xs : List Int} (hc : Coder w base h xs) (hb : Below w.heap.size w w1) : Coder w1 base h xs := by
 obtain ⟨m, v, h1, h2, h3, h4, h5⟩ := hc
 exact ⟨m, v, h1, h2, h3.below hb h3.lt, h4, own_below h5 hb⟩
theorem Coder.grown {w w1 : World} {base h r : Nat} {xs : List Int} {A : Option Addr} {len cap p : Nat} (hc : Coder w base h xs) (hR : RdrAt w r A len cap p) (hg : w.grownBy w1 (some r)) (hhr : h ≠ r) : Coder w1 base h xs := by
 obtain ⟨m, v, h1, h2, h3, h4, h5⟩ := hc
 exact ⟨m, v, h1, h2, (hg.block h h3.lt (by simpa using hhr)).trans h3, h4, h5.kept hg (.inr (own_ne hR (by decide) h5))⟩
theorem Coder.lt {w : World} {base h : Nat} {xs : List Int} (hc : Coder w base h xs) : h < w.heap.size := by
 obtain ⟨m, v, h1, h2, h3, h4, h5⟩ := hc
 exact h3.lt
def RestAt (w : World) (r : Nat) (A : Option Addr) (m : Nat) (bs : List Int) (p : Nat) : Prop := Rd w .u8 A m (bitsOf bs p m) ∧ ∀ b o, A = some ⟨b, o, none⟩ → b ≠ r
theorem RestAt.below {w w1 : World} {r : Nat} {A : Option Addr} {m : Nat} {bs : List Int} {p : Nat} (h : RestAt w r A m bs p) (hb : Below w.heap.size w w1) : RestAt w1 r A m bs p := ⟨h.1.below hb, h.2⟩
theorem RestAt.grown {w w1 : World} {r : Nat} {A : Option Addr} {m : Nat} {bs : List Int} {p : Nat} (h : RestAt w r A m bs p) (hg : w.grownBy w1 (some r)) : RestAt w1 r A m bs p := ⟨h.1.grown hg h.2, h.2⟩
theorem RestAt.next {w : World} {r b o m : Nat} {bs : List Int} {p : Nat} (h : RestAt w r (some ⟨b, o, none⟩) m bs p) (k : Nat) (hk : k ≤ m) : RestAt w r (some ⟨b, o + k, none⟩) (m - k) bs (p + k) := by
 refine ⟨⟨by rw [bitsOf_length], fun hm => ⟨b, o + k, rfl, fun j hj => ?_⟩⟩, fun b' o' e => ?_⟩
 ·obtain ⟨b', o', e, hc⟩ := h.1.2 (by omega)
  cases e
  have h9 := hc (k + j) (by omega)
  rw [rd_bitsOf (by omega)] at h9
  rw [rd_bitsOf hj, Nat.add_assoc, Nat.add_assoc]
  exact h9
 ·cases e
  exact h.2 b o rfl
theorem RestAt.empty {w : World} {r b o m : Nat} {bs : List Int} {p : Nat} (h : RestAt w r (some ⟨b, o, none⟩) m bs p) (p' : Nat) : RestAt w r (some ⟨b, o, none⟩) 0 bs p' := ⟨⟨by rw [bitsOf_length], fun h => by omega⟩, h.2⟩
theorem grown_fr {w wr w' : World} {row : Option Nat} {S : List (Option Nat)} (h : w.grownBy wr row) (hf : Fr wr w' S) (hS : ∀ o ∈ S, ∀ j, o = some j → w.heap.size ≤ j) : w.grownBy w' row :=
 ⟨hf.os.trans h.os, hf.tape.trans h.tape, hf.output.trans h.output, Nat.le_trans h.size hf.size, fun k hk hne => (hf.block k (Nat.lt_of_lt_of_le hk h.size) (fun o ho e => by
  have := hS o ho k e
  omega)).trans (h.block k hk hne)⟩
theorem RdrAt.fr {w w' : World} {r : Nat} {A : Option Addr} {len cap p : Nat} {S : List (Option Nat)} (h : RdrAt w r A len cap p) (hf : Fr w w' S) (hS : ∀ o ∈ S, o ≠ some r) : RdrAt w' r A len cap p := (hf.block r h.lt hS).trans h
theorem own_far {w : World} {base n : Nat} {e : TypeId} {size : Nat} {v : Value} {xs : List Value} (h : w.ownsRow base e size v n xs) {B : Nat} (hB : B ≤ base) : ∀ o ∈ [v.ownBlock], ∀ j, o = some j → B ≤ j := fun o ho j e => by
 simp at ho
 subst ho
 have := (h.lt _ e).1
 omega
theorem own_cap {w : World} {base n : Nat} {e : TypeId} {size : Nat} {v : Value} {xs : List Value} (h : w.ownsRow base e size v n xs) : ∀ A m c, v = .slice A m c → c ≤ 9223372036854775807 := fun A m c hv => by
 rcases h.2 with ⟨rfl, _⟩ | ⟨g, cap, cur, rfl, _, _, _, h4, _⟩
 ·cases hv; omega
 ·cases hv
  have : maxLen = 9223372036854775807 := by decide
  omega
end Go.Proofs.YtdbkbeojedndbaaGreatDoor
namespace Go.Proofs.YtdbkbeojedndbaaGreatDoor
open Go.RowKit

set_option maxHeartbeats 1000000 in
theorem again_calls (s : Nat) (w : World) (h : 16 ≤ s) (h2 : s ≤ 18) :
    Calls Tryz.prog 89 #[.int .i64 s] w fun e w' => e = .returned (.tuple #[.int .i64 (sizeS s), .int .i64 (leastS s)]) ∧ w = w' := by
  have hc : s = 16 ∨ s = 17 ∨ s = 18 := by omega
  rcases hc with rfl | rfl | rfl
  · go_enter Tryz.func89, Tryz.ntmps89
    go_wp2
    refine bodyPost_ret (v := .tuple #[.int .i64 2, .int .i64 3]) (by simp [results, Tryz.results89, go_sem]) rfl ⟨rfl, rfl⟩
  · go_enter Tryz.func89, Tryz.ntmps89
    go_wp2
    refine bodyPost_ret (v := .tuple #[.int .i64 3, .int .i64 3]) (by simp [results, Tryz.results89, go_sem]) rfl ⟨rfl, rfl⟩
  · go_enter Tryz.func89, Tryz.ntmps89
    go_wp2
    refine bodyPost_ret (v := .tuple #[.int .i64 7, .int .i64 11]) (by simp [results, Tryz.results89, go_sem]) rfl ⟨rfl, rfl⟩
set_option maxHeartbeats 4000000 in
set_option maxRecDepth 100000 in
theorem list_calls (h r base : Nat) (A : Option Addr) (len cap p n : Nat) (xs bs : List Int) (w : World) (hC : Coder w base h xs) (hxs : xs.length ≤ 19) (hR : RdrAt w r A len cap p) (hB : Rd w .u8 A len bs) (hb : ∀ j, j < len → 0 ≤ rd bs j ∧ rd bs j ≤ 255) (hne : ∀ b o, A = some ⟨b, o, none⟩ → b ≠ r) (hlen : len ≤ 1000000) (hp : p ≤ 8 * len) (hhr : h ≠ r) (hn : n ≤ 1000) :
    Calls Tryz.prog 63 #[.pointer (some ⟨r, 0, none⟩), .pointer (some ⟨h, 0, none⟩), .int .i64 n] w fun e w' =>
      ((∃ l q v, listS xs bs (8 * len) n (n + 1) p [] = some (l, q) ∧ e = .returned (.tuple #[v, .bool true]) ∧ w'.ownsRow w.heap.size 3 1 v n (ints .i64 l) ∧ RdrAt w' r A len cap q) ∨
       (listS xs bs (8 * len) n (n + 1) p [] = none ∧ e = .returned (.tuple #[.slice none 0 0, .bool false]) ∧ ∃ q, q ≤ 8 * len ∧ RdrAt w' r A len cap q)) ∧ w.grownBy w' (some r) := by
  have HC := Lib.hid hC
  have HR := Lib.hid hR
  have HB := Lib.hid hB
  have Hb := Lib.hid hb
  have hrl := hR.lt
  obtain ⟨R, hRR⟩ : ∃ R, listS xs bs (8 * len) n (n + 1) p [] = R := ⟨_, rfl⟩
  have HRl : Hid (∀ l q, R = some (l, q) → l.length = n) := fun l q e => (listS_len (out := []) (by simp) hp (hRR.trans e)).1
  rw [hRR]
  have HRR := Lib.hid hRR
  clear hC hR hB hb hRR
  go_enter Tryz.func63, Tryz.ntmps63
  go_wp2
  go_loopg [8] (n + 1) (fun g v wr => ∃ (out : List Int) (q : Nat), Hid (listS xs bs (8 * len) n g q out = R) ∧ out.length ≤ n ∧ n < out.length + g ∧ q ≤ 8 * len ∧ Hid (wr.ownsRow w.heap.size 3 1 v out.length (ints .i64 out)) ∧ Hid (RdrAt wr r A len cap q) ∧ Hid (w.grownBy wr (some r)))
  case atStart => exact ⟨[], p, HRR.out, by simp, by simp, hp, World.ownsRow_nil _ _ _ _, HR.out, grown_refl _ _⟩
  case round =>
    obtain ⟨out, q, HL, hol, hg, hq, Hown, HRd, Hg⟩ := hrel
    obtain ⟨g, hg'⟩ : ∃ g, gk = g + 1 := ⟨gk - 1, by omega⟩
    rw [hg'] at HL
    have hsz := Hg.out.size
    obtain ⟨A1, c1, rfl⟩ := own_slice Hown.out
    by_cases hlt : out.length < n
    · have hn0 : ¬ n ≤ out.length := by omega
      go_wp2_with fail
      refine (Next_hit h r base A len cap q xs bs _ (HC.out.grown HR.out Hg.out hhr) (by omega) HRd.out (HB.out.grown Hg.out hne) Hb.out hne hlen hq hhr).mono ?_
      rintro e wa ⟨hx, hga⟩
      have Hga := Lib.hid (grown_trans Hg.out hga)
      have Hown2 := Lib.hid (Hown.out.kept hga (.inr (own_ne HRd.out (by decide) Hown.out)))
      have hsza := Hga.out.size
      clear hga
      rcases hx with ⟨s, hs, rfl, hra⟩ | ⟨hno, rfl, q', hq', hra⟩
      · have Hra := Lib.hid hra
        have Hs := Lib.hid hs
        have hs19 : s < 19 := by have := hs.1; omega
        have hm := hs.2.2.2.1
        obtain ⟨L, hL⟩ : ∃ L, L = (rd xs s).toNat := ⟨_, rfl⟩
        rw [← hL] at Hra hm
        have HLn := Lib.hid hL
        clear hs hra hL
        by_cases h16 : s < 16
        · have HL2 := listS_low hn0 Hs.out h16 (f := g)
          rw [HL.out, ← HLn.out] at HL2
          have HL3 := Lib.hid HL2.symm
          clear HL2
          go_wp2_with (at_builtin; refine wpList_app3 rfl _ _ rfl elIntN Hown2.out rfl rfl rfl rfl rfl (by omega) hsza ?_; intro g7 cap7 w7 hown7 hfr7 hat7 hlt7)
          have hra7 := Hra.out.fr hfr7 (fun o ho e => by simp at ho; subst ho; exact own_ne Hra.out (by decide) Hown2.out e)
          have hg7 := grown_fr Hga.out hfr7 (own_far Hown2.out (Nat.le_refl _))
          go_roundg g
          case measure => omega
          case rel => exact ⟨out ++ [(s : Int)], q + L, HL3.out, by simp; omega, by simp; omega, by omega, by rw [List.length_append, ints_append]; exact hown7, hra7, hg7⟩
        · have hag : 16 ≤ s := by omega
          go_wp2_with fail
          refine (again_calls s _ hag (by omega)).mono ?_
          rintro e wb ⟨rfl, rfl⟩
          have hsz1 := sizeS_le s
          obtain ⟨Z, hZ⟩ : ∃ Z, Z = sizeS s := ⟨_, rfl⟩
          obtain ⟨M, hM⟩ : ∃ M, M = leastS s := ⟨_, rfl⟩
          have hM1 := leastS_le s
          rw [← hZ] at hsz1 ⊢
          rw [← hM] at hM1 ⊢
          have HZ := Lib.hid hZ
          have HM := Lib.hid hM
          clear hZ hM
          by_cases hT : q + L + Z ≤ 8 * len
          · go_wp2_with fail
            refine (Bits_calls r A len cap (q + L) Z bs _ Hra.out (HB.out.grown Hga.out hne) Hb.out hne (by omega) (by omega) (by omega) hT).mono ?_
            rintro e wc ⟨rfl, hrc, hgc⟩
            have Hgc := Lib.hid (grown_trans Hga.out hgc)
            have Hown3 := Lib.hid (Hown2.out.kept hgc (.inr (own_ne Hra.out (by decide) Hown2.out)))
            have Hrc := Lib.hid hrc
            have hszc := Hgc.out.size
            have hxm := numAt_size bs (q + L) s
            obtain ⟨X, hX⟩ : ∃ X, X = numAt bs (q + L) Z := ⟨_, rfl⟩
            rw [← HZ.out, ← hX] at hxm
            rw [← hX]
            have HX : Hid (manyS bs (q + L) s = M + X) := by
              show manyS bs (q + L) s = M + X
              unfold manyS
              rw [hX, HZ.out, HM.out]
            clear hX hgc hrc
            by_cases h0 : s = 16 ∧ out.length = 0
            · have hRn : R = none := by rw [← HL.out]; exact listS_first hn0 Hs.out h0.1 h0.2
              have HRn := Lib.hid hRn
              obtain ⟨rfl, h00⟩ := h0
              rw [h00] at hn0 hlt ⊢
              clear hRn
              go_wp2
              refine bodyPost_ret (v := .tuple #[.slice none 0 0, .bool false]) (by simp [results, Tryz.results63, go_sem]) rfl ⟨.inr ⟨HRn.out, rfl, _, hT, Hrc.out⟩, Hgc.out⟩
            · have hlo : (s = 16 ∧ 0 < out.length) ∨ s ≠ 16 := by omega
              by_cases hmany : n < out.length + (M + X)
              · have hRn : R = none := by rw [← HL.out]; exact listS_long hn0 Hs.out h16 (by rw [← HLn.out, HX.out]; exact hmany)
                have HRn := Lib.hid hRn
                clear hRn
                rcases hlo with ⟨rfl, h00⟩ | h00
                · obtain ⟨ga, ca, e7, _, _, _, hac, _⟩ := own_form Hown3.out (by omega)
                  cases e7
                  have z := hac (out.length - 1) _ (ints_get (by omega))
                  have s9 : ((out.length : Int) - 1).toNat = out.length - 1 := by omega
                  have hneq : ((out.length : Int) == 0) = false := by rw [beq_eq_false_iff_ne]; omega
                  clear hac
                  go_wp2
                  refine bodyPost_ret (v := .tuple #[.slice none 0 0, .bool false]) (by simp [results, Tryz.results63, go_sem]) rfl ⟨.inr ⟨HRn.out, rfl, _, hT, Hrc.out⟩, Hgc.out⟩
                · have hneq : ((s : Int) == 16) = false := by simp; omega
                  go_wp2
                  refine bodyPost_ret (v := .tuple #[.slice none 0 0, .bool false]) (by simp [results, Tryz.results63, go_sem]) rfl ⟨.inr ⟨HRn.out, rfl, _, hT, Hrc.out⟩, Hgc.out⟩
              · have HL2 := listS_more hn0 Hs.out h16 h0 (by rw [← HLn.out, ← HZ.out]; omega) (by rw [← HLn.out, HX.out]; exact hmany) (f := g)
                rw [HL.out, ← HLn.out, HX.out, ← HZ.out] at HL2
                have HL3 := Lib.hid HL2.symm
                clear HL2
                rcases hlo with ⟨h16e, h00⟩ | h00
                · obtain ⟨ga, ca, e7, _, _, _, hac, _⟩ := own_form Hown3.out (by omega)
                  cases e7
                  have z := hac (out.length - 1) _ (ints_get (by omega))
                  have s9 : ((out.length : Int) - 1).toNat = out.length - 1 := by omega
                  have hneq : ((out.length : Int) == 0) = false := by rw [beq_eq_false_iff_ne]; omega
                  have hv : rd out (out.length - 1) = valueS out s := by unfold valueS; rw [if_pos h16e]
                  obtain ⟨V, hV⟩ : ∃ V, V = valueS out s := ⟨_, rfl⟩
                  rw [hv, ← hV] at z
                  rw [← hV] at HL3
                  subst h16e
                  clear hac hv hV
                  go_wp2
                  go_loopg [8, 72] (M + X) (fun g2 v i wy => ∃ j : Nat, j + g2 = M + X ∧ i = .int .i64 j ∧ Hid (wy.ownsRow w.heap.size 3 1 v (out.length + j) (ints .i64 (out ++ List.replicate j V))) ∧ Hid (RdrAt wy r A len cap (q + L + Z)) ∧ Hid (w.grownBy wy (some r)))
                  case atStart => exact ⟨0, by omega, rfl, by rw [List.replicate_zero, List.append_nil]; exact Hown3.out, Hrc.out, Hgc.out⟩
                  case round =>
                    obtain ⟨j, hj, rfl, Hoy, Hry, Hgy⟩ := hrel
                    have hszy := Hgy.out.size
                    obtain ⟨A5, c5, rfl⟩ := own_slice Hoy.out
                    by_cases hlt5 : j < M + X
                    · go_wp2_with (at_builtin; refine wpList_app3 rfl _ _ rfl elIntN Hoy.out rfl rfl rfl rfl rfl (by omega) hszy ?_; intro g7 cap7 w7 hown7 hfr7 hat7 hlt7)
                      have hra7 := Hry.out.fr hfr7 (fun o ho e => by simp at ho; subst ho; exact own_ne Hry.out (by decide) Hoy.out e)
                      have hg7 := grown_fr Hgy.out hfr7 (own_far Hoy.out (Nat.le_refl _))
                      go_roundg (gk - 1)
                      case measure => omega
                      case rel => exact ⟨j + 1, by omega, by go_num, by rw [List.replicate_succ', ← List.append_assoc, ints_append]; exact hown7, hra7, hg7⟩
                    · obtain rfl : j = M + X := by omega
                      go_wp2
                      go_roundg g
                      case measure => omega
                      case rel => exact ⟨out ++ List.replicate (M + X) V, q + L + Z, HL3.out, by simp; omega, by simp; omega, hT, by rw [List.length_append, List.length_replicate]; exact Hoy.out, Hry.out, Hgy.out⟩
                · have hneq : ((s : Int) == 16) = false := by simp; omega
                  have hv : valueS out s = 0 := by unfold valueS; rw [if_neg h00]
                  rw [hv] at HL3
                  obtain ⟨V, hV⟩ : ∃ V : Int, V = 0 := ⟨_, rfl⟩
                  rw [← hV] at HL3
                  clear hv
                  go_wp2
                  go_loopg [8, 72] (M + X) (fun g2 v i wy => ∃ j : Nat, j + g2 = M + X ∧ i = .int .i64 j ∧ Hid (wy.ownsRow w.heap.size 3 1 v (out.length + j) (ints .i64 (out ++ List.replicate j V))) ∧ Hid (RdrAt wy r A len cap (q + L + Z)) ∧ Hid (w.grownBy wy (some r)))
                  case atStart => exact ⟨0, by omega, rfl, by rw [List.replicate_zero, List.append_nil]; exact Hown3.out, Hrc.out, Hgc.out⟩
                  case round =>
                    obtain ⟨j, hj, rfl, Hoy, Hry, Hgy⟩ := hrel
                    have hszy := Hgy.out.size
                    obtain ⟨A5, c5, rfl⟩ := own_slice Hoy.out
                    by_cases hlt5 : j < M + X
                    · go_wp2_with (at_builtin; refine wpList_app3 rfl _ _ rfl elIntN Hoy.out rfl rfl rfl rfl rfl (by omega) hszy ?_; intro g7 cap7 w7 hown7 hfr7 hat7 hlt7)
                      have hra7 := Hry.out.fr hfr7 (fun o ho e => by simp at ho; subst ho; exact own_ne Hry.out (by decide) Hoy.out e)
                      have hg7 := grown_fr Hgy.out hfr7 (own_far Hoy.out (Nat.le_refl _))
                      go_roundg (gk - 1)
                      case measure => omega
                      case rel => exact ⟨j + 1, by omega, by go_num, by rw [List.replicate_succ', ← List.append_assoc, ints_append]; rw [hV] at hown7 ⊢; exact hown7, hra7, hg7⟩
                    · obtain rfl : j = M + X := by omega
                      go_wp2
                      go_roundg g
                      case measure => omega
                      case rel => exact ⟨out ++ List.replicate (M + X) V, q + L + Z, HL3.out, by simp; omega, by simp; omega, hT, by rw [List.length_append, List.length_replicate]; exact Hoy.out, Hry.out, Hgy.out⟩
          · have hRn : R = none := by rw [← HL.out]; exact listS_short hn0 Hs.out h16 (by rw [← HLn.out, ← HZ.out]; omega)
            have HRn := Lib.hid hRn
            clear hRn
            go_wp2_with fail
            refine (BitsShort_calls r A len cap (q + L) Z _ Hra.out (by omega) (by omega) (by omega) (by omega)).mono ?_
            rintro e wc ⟨rfl, hbc⟩
            have Hgc := Lib.hid (grown_below Hga.out hbc)
            have Hrc := Lib.hid (Hra.out.keep hbc)
            have Hown3 := Lib.hid (own_below Hown2.out hbc)
            clear hbc
            have hlo : (s = 16 ∧ out.length = 0) ∨ (s = 16 ∧ 0 < out.length) ∨ s ≠ 16 := by omega
            rcases hlo with ⟨rfl, h00⟩ | ⟨rfl, h00⟩ | h00
            · rw [h00] at hn0 hlt ⊢
              go_wp2
              refine bodyPost_ret (v := .tuple #[.slice none 0 0, .bool false]) (by simp [results, Tryz.results63, go_sem]) rfl ⟨.inr ⟨HRn.out, rfl, q + L, by omega, Hrc.out⟩, Hgc.out⟩
            · obtain ⟨ga, ca, e7, _, _, _, hac, _⟩ := own_form Hown3.out (by omega)
              cases e7
              have z := hac (out.length - 1) _ (ints_get (by omega))
              have s9 : ((out.length : Int) - 1).toNat = out.length - 1 := by omega
              have hneq : ((out.length : Int) == 0) = false := by rw [beq_eq_false_iff_ne]; omega
              clear hac
              go_wp2
              refine bodyPost_ret (v := .tuple #[.slice none 0 0, .bool false]) (by simp [results, Tryz.results63, go_sem]) rfl ⟨.inr ⟨HRn.out, rfl, q + L, by omega, Hrc.out⟩, Hgc.out⟩
            · have hneq : ((s : Int) == 16) = false := by simp; omega
              go_wp2
              refine bodyPost_ret (v := .tuple #[.slice none 0 0, .bool false]) (by simp [results, Tryz.results63, go_sem]) rfl ⟨.inr ⟨HRn.out, rfl, q + L, by omega, Hrc.out⟩, Hgc.out⟩
      · have hRn : R = none := by rw [← HL.out]; exact listS_no hn0 hno
        have HRn := Lib.hid hRn
        clear hRn
        go_wp2
        refine bodyPost_ret (v := .tuple #[.slice none 0 0, .bool false]) (by simp [results, Tryz.results63, go_sem]) rfl ⟨.inr ⟨HRn.out, rfl, q', hq', hra⟩, Hga.out⟩
    · have hRn : R = some (out, q) := by rw [← HL.out]; exact listS_done (by omega) (by omega)
      have HRn := Lib.hid hRn
      obtain rfl : n = out.length := by omega
      clear hRn
      go_wp2
      refine bodyPost_ret (v := .tuple #[.slice A1 out.length c1, .bool true]) (by simp [results, Tryz.results63, go_sem]) rfl ⟨.inl ⟨out, q, _, HRn.out, rfl, Hown.out, HRd.out⟩, Hg.out⟩
end Go.Proofs.YtdbkbeojedndbaaGreatDoor
namespace Go.Proofs.YtdbkbeojedndbaaGreatDoor
open Go.RowKit

theorem ord_slice (W : World) (k : IntKind) (h : Int) (m : Nat) (e : h = m) (hm : m ≤ 19) : (Instr.sliceAt 107 (.pointer (some ⟨0, 0, none⟩)) none (some (.int k h)) none).run Tryz.prog W = .ok (.slice (some ⟨0, 0, none⟩) m 19) W := by
 have ha : Tryz.prog.arrayLen 107 = 19 := by simp [Program.arrayLen, Tryz.underlying107]
 have hu : Tryz.prog.underlying 107 = some (.array (Tryz.prog.arrayLen 107) (Tryz.prog.elem 107)) := by simp [Program.arrayLen, Program.elem, Tryz.underlying107]
 subst e
 rw [run_sliceAt_array_h W _ _ hu k (m : Int) (by omega) (by rw [ha]; omega), ha]
 simp [Program.elem, Tryz.underlying107, go_sem]
end Go.Proofs.YtdbkbeojedndbaaGreatDoor
namespace Go.Proofs.YtdbkbeojedndbaaGreatDoor
open Go.RowKit

def OrdAt (w : World) : Prop := ∀ j, j < 19 → w.cell? ⟨0, j, none⟩ = some (.int .i64 (ordL.getD j 0 : Nat))
theorem ints_of_trod {H : Type} {enc : TypeId × Value → H} {P : Program} {w : World} {base : Nat} {sp : Nat → Bool} {held : Bool} {fuel t e n : Nat} {cs : List Value} {nums : List Int} {p : List MemPlace}
  (ht : P.underlying t = some (.array n e)) (k0 : P.underlying e = some (.int .i64)) (ce : P.cellsOf e = 1)
  (h : DataW.trod enc P w base sp held fuel t cs = some (.agg (nums.map fun r => .lit (.int .i64 r)), p)) :
  ∀ j, j < nums.length → cs[j]? = some (.int .i64 (rd nums j)) := by
 obtain ⟨xs, m, rfl, hx, hlen, hn, hel⟩ := DataW.trod_array ht h
 simp only [Prod.mk.injEq, DataW.agg.injEq] at hx
 intro j hj
 have hxl : xs.length = nums.length := by have := congrArg List.length hx.1; simpa using this.symm
 have hz := hel j (by omega)
 obtain ⟨x, hxj⟩ : ∃ x, xs[j]? = some x := ⟨xs[j]'(by omega), by simp [List.getElem?_eq_getElem (show j < xs.length by omega)]⟩
 rw [hxj, ce, Nat.mul_one] at hz
 obtain ⟨r0, e0, f0', _⟩ := DataW.trod_int k0 hz
 have hx1 : x.1 = (DataW.lit (.int .i64 (rd nums j)) : DataW H) := by
  have := congrArg (·[j]?) hx.1
  simp only [List.getElem?_map, hxj, Option.map_some, List.getElem?_eq_getElem hj] at this
  rw [rd_getElem hj]
  exact (Option.some.inj this).symm
 rw [f0'] at hx1
 simp at hx1
 subst hx1
 have g0 := congrArg (·[0]?) e0
 simp [List.getElem?_drop] at g0
 exact g0
theorem gOrd : Tryz.prog.globalNamed "inkwell/codes.order" = some 0 := by kernel_rfl
theorem tOrd : (Tryz.prog.globals[0]?).map (·.type) = some 107 := by kernel_rfl
def ordI : List Int := [16, 17, 18, 0, 8, 7, 9, 6, 10, 5, 11, 4, 12, 3, 13, 2, 14, 1, 15]
theorem rd_ordI : ∀ j, j < 19 → rd ordI j = ((ordL.getD j 0 : Nat) : Int) := by decide
theorem ord_of_laid {W : World} (h : laidMetH Tryz.prog [("inkwell/codes.order", Rows.laid_inkwell_codes_order)] W) : OrdAt W := by
 rw [MakeChecks.laidMetH_plain _ _ _ (by kernel_rfl)] at h
 obtain ⟨ps, ⟨g0, t0, cs0, n0, p0, q0, hg0, ht0, hv0, hd0, _, _⟩, _, _⟩ := h
 obtain rfl := Option.some.inj (gOrd.symm.trans hg0)
 obtain rfl := Option.some.inj (tOrd.symm.trans ht0)
 have u0 := ints_of_trod (nums := ordI) Tryz.underlying107 Tryz.underlying3 (by kernel_rfl) hd0
 intro j hj
 have := u0 j hj
 simp only [Array.getElem?_toList] at this
 rw [World.var?_cell hg0 hv0, this, rd_ordI j hj]
end Go.Proofs.YtdbkbeojedndbaaGreatDoor
namespace Go.Proofs.YtdbkbeojedndbaaGreatDoor
open Go.RowKit

theorem rd_takeL {l : List Int} {n j : Nat} (h : j < n) : rd (l.take n) j = rd l j := by
 unfold rd
 rw [List.getD_eq_getElem?_getD, List.getD_eq_getElem?_getD, List.getElem?_take_of_lt h]
theorem rd_dropL {l : List Int} {n j : Nat} : rd (l.drop n) j = rd l (n + j) := by
 unfold rd
 rw [List.getD_eq_getElem?_getD, List.getD_eq_getElem?_getD, List.getElem?_drop]
theorem rd_front {w : World} {k : IntKind} {b o n : Nat} {l : List Int} (h : Rd w k (some ⟨b, o, none⟩) n l) (m : Nat) (hm : m ≤ n) : Rd w k (some ⟨b, o, none⟩) m (l.take m) :=
 ⟨by rw [List.length_take, h.1]; omega, fun hm0 => ⟨b, o, rfl, fun j hj => by
  obtain ⟨b', o', e, hc⟩ := h.2 (by omega)
  cases e
  rw [rd_takeL hj]
  exact hc j (by omega)⟩⟩
theorem rd_back {w : World} {k : IntKind} {b o n : Nat} {l : List Int} (h : Rd w k (some ⟨b, o, none⟩) n l) (m : Nat) (hm : m ≤ n) : Rd w k (some ⟨b, o + m, none⟩) (n - m) (l.drop m) :=
 ⟨by rw [List.length_drop, h.1], fun hm0 => ⟨b, o + m, rfl, fun j hj => by
  obtain ⟨b', o', e, hc⟩ := h.2 (by omega)
  cases e
  rw [rd_dropL, Nat.add_assoc]
  exact hc (m + j) (by omega)⟩⟩
theorem getS_short {bs : List Int} {T p : Nat} (h : T < p + 14) : getS bs T p = none := by unfold getS; rw [if_pos h]
theorem getS_big {bs : List Int} {T p : Nat} (h : 29 < numAt bs p 5 ∨ 29 < numAt bs (p + 5) 5) : getS bs T p = none := by
 unfold getS
 split
 ·rfl
 ·first | rfl | rw [if_pos h]
theorem getS_few {bs : List Int} {T p : Nat} (h : T < p + 14 + 3 * (numAt bs (p + 10) 4 + 4)) : getS bs T p = none := by
 unfold getS
 split
 ·rfl
 ·split
  ·rfl
  ·first | rfl | rw [if_pos h]
theorem getS_bad {bs : List Int} {T p : Nat} (h : rightB (lensS bs (p + 14) (numAt bs (p + 10) 4 + 4)) = false) : getS bs T p = none := by
 unfold getS
 split
 ·rfl
 ·split
  ·rfl
  ·split
   ·rfl
   ·first | rfl | rw [if_pos h]
theorem getS_list {bs : List Int} {T p a d m : Nat} (h1 : p + 14 + 3 * (m + 4) ≤ T) (ha : numAt bs p 5 = a) (hd : numAt bs (p + 5) 5 = d) (hm : numAt bs (p + 10) 4 = m) (h2 : a ≤ 29) (h3 : d ≤ 29) (h4 : rightB (lensS bs (p + 14) (m + 4)) = true) :
  getS bs T p = match listS (lensS bs (p + 14) (m + 4)) bs T (a + 257 + (d + 1)) (a + 257 + (d + 1) + 1) (p + 14 + 3 * (m + 4)) [] with
   | none => none
   | some (l, q) => if rd l 256 = 0 then none else some (l.take (a + 257), l.drop (a + 257), q) := by
 subst ha hd hm
 unfold getS
 rw [if_neg (by omega), if_neg (by omega), if_neg (by omega), if_neg (by rw [h4]; decide)]
 rfl
end Go.Proofs.YtdbkbeojedndbaaGreatDoor
