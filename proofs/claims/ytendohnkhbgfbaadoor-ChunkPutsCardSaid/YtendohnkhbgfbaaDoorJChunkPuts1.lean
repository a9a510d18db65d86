/-
  Texts joined into one file: RootP, DigP, Times, Fits, RefCh, RootW, Primes.
-/
import Derived.Test.YtendohnkhbgfbaaDoorJRefPk1
import Derived.IntWalk
import Derived.Deep.LoopGhost
import Derived.Test.YtendohnkhbgfbaaDoorJRefPk9
import Derived.Test.YtendohnkhbgfbaaDoorJRefPk2
import Derived.Deep.Cut
import Derived.Deep.CutRange
import Derived.Deep.CutBlock
import Derived.Deep.RegionWith
import Derived.Test.YtendohnkhbgfbaaDoorJRefPk22
namespace Go.Proofs.YtendohnkhbgfbaaDoor
open Go.RowKit

def digV : List Nat → Nat
 | [] => 0
 | d :: l => d + 65536 * digV l
def Digs (l : List Nat) : Prop := ∀ d ∈ l, d < 65536
theorem digV_app (l m : List Nat) : digV (l ++ m) = digV l + 65536 ^ l.length * digV m := by
 induction l with
 | nil => simp [digV]
 | cons d l ih => rw [List.cons_append, digV, digV, ih, List.length_cons, Nat.pow_succ, Nat.mul_add, Nat.mul_comm (65536 ^ l.length) 65536, Nat.mul_assoc, Nat.add_assoc]
theorem digV_lt {l : List Nat} (h : Digs l) : digV l < 65536 ^ l.length := by
 induction l with
 | nil => simp [digV]
 | cons d l ih =>
  have h1 := h d List.mem_cons_self
  have h2 := ih (fun x hx => h x (List.mem_cons_of_mem _ hx))
  rw [digV, List.length_cons, Nat.pow_succ]
  omega
theorem digV_zeros (n : Nat) : digV (List.replicate n 0) = 0 := by
 induction n with
 | zero => rfl
 | succ n ih => rw [List.replicate_succ, digV, ih]
theorem digV_one (d : Nat) : digV [d] = d := by simp [digV]
theorem digV_take {l : List Nat} {i : Nat} (h : i < l.length) : digV (l.take (i + 1)) = digV (l.take i) + 65536 ^ i * l.getD i 0 := by
 rw [List.take_add_one, List.getElem?_eq_getElem h, digV_app, List.length_take, Nat.min_eq_left (by omega)]
 simp [digV_one, List.getD_eq_getElem?_getD, List.getElem?_eq_getElem h]
theorem digV_cmp {a b : List Nat} (hl : a.length = b.length) (ha : Digs a) (hb : Digs b) {i : Nat} (hi : i < a.length) (hs : ∀ j, i < j → j < a.length → a.getD j 0 = b.getD j 0) (hlt : a.getD i 0 < b.getD i 0) : digV a < digV b := by
 induction i generalizing a b with
 | zero =>
  cases a with
  | nil => simp at hi
  | cons x a =>
   cases b with
   | nil => simp at hl
   | cons y b =>
    have e : a = b := by
     refine List.ext_getElem (by simpa using hl) (fun j h1 h2 => ?_)
     have := hs (j + 1) (by omega) (by simpa using h1)
     rw [List.getD_cons_succ, List.getD_cons_succ, List.getD_eq_getElem?_getD, List.getD_eq_getElem?_getD, List.getElem?_eq_getElem h1, List.getElem?_eq_getElem h2] at this
     exact this
    rw [List.getD_cons_zero, List.getD_cons_zero] at hlt
    rw [digV, digV, e]
    omega
 | succ i ih =>
  cases a with
  | nil => simp at hi
  | cons x a =>
   cases b with
   | nil => simp at hl
   | cons y b =>
    rw [List.getD_cons_succ, List.getD_cons_succ] at hlt
    have := ih (a := a) (b := b) (by simpa using hl) (fun d hd => ha d (List.mem_cons_of_mem _ hd)) (fun d hd => hb d (List.mem_cons_of_mem _ hd)) (by simpa using hi) (fun j h1 h2 => by have := hs (j + 1) (by omega) (by simp; omega); rwa [List.getD_cons_succ, List.getD_cons_succ] at this) hlt
    have h1 := ha x List.mem_cons_self
    rw [digV, digV]
    omega
theorem digV_eq {a b : List Nat} (hl : a.length = b.length) (hs : ∀ j, j < a.length → a.getD j 0 = b.getD j 0) : a = b := by
 refine List.ext_getElem hl (fun j h1 h2 => ?_)
 have := hs j h1
 rw [List.getD_eq_getElem?_getD, List.getD_eq_getElem?_getD, List.getElem?_eq_getElem h1, List.getElem?_eq_getElem h2] at this
 exact this
def rootsTwo : List Nat := [6074000999, 7439101573, 9603838834, 11363415354, 14244795007, 15485724812, 17708603819, 18721328409]
def rootsThree : List Nat := [5411319704, 6194414737, 7344290767, 8215976869, 9551921755, 10098905585, 11043570340, 11460697813, 12214315672, 13195500289, 13492127166, 14311783875, 14809980276, 15046980094, 15499789991, 16133124468, 16720292289, 16907126662, 17444216262, 17784676812, 17950125167, 18429019306, 18734950876, 19175934170, 19734090066, 20001703533, 20132865992, 20390182855, 20516441075, 20764397895, 21588763473, 21813078375, 22141143685, 22248366392, 22769593852, 22871018771, 23170020180, 23461497531, 23651862830, 23931792517, 24205322401, 24295138891, 24734567280, 24820601251, 24990902297, 25075189284, 25569408389, 26045227120, 26200031510, 26276752392, 26428864332, 26653801653, 26727943347, 27092625994, 27306805839, 27517677555, 27725365998, 27793908591, 27997534228, 28131656200, 28198240250, 28526537963, 28973835255, 29099129074]
def primeL : List Nat := [2, 3, 5, 7, 11, 13, 17, 19, 23, 29, 31, 37, 41, 43, 47, 53, 59, 61, 67, 71, 73, 79, 83, 89, 97, 101, 103, 107, 109, 113, 127, 131, 137, 139, 149, 151, 157, 163, 167, 173, 179, 181, 191, 193, 197, 199, 211, 223, 227, 229, 233, 239, 241, 251, 257, 263, 269, 271, 277, 281, 283, 293, 307, 311]
def primeN (j : Nat) : Nat := primeL.getD j 0
def IsRoot (p k r : Nat) : Prop := r ^ k ≤ p * 65536 ^ (2 * k) ∧ p * 65536 ^ (2 * k) < (r + 1) ^ k
theorem IsRoot.same {p k r s : Nat} (h : IsRoot p k r) (g : IsRoot p k s) : r = s := by
 rcases Nat.lt_trichotomy r s with h1 | h1 | h1
 ·have := Nat.pow_le_pow_left (show r + 1 ≤ s by omega) k
  have := h.2
  have := g.1
  omega
 ·exact h1
 ·have := Nat.pow_le_pow_left (show s + 1 ≤ r by omega) k
  have := g.2
  have := h.1
  omega
theorem root_two {j : Nat} (h : j < 8) : IsRoot (primeN j) 2 (rootsTwo.getD j 0) ∧ (((rootsTwo.getD j 0) % 4294967296 : Nat) : Int) = rd firstL j := by
 have h1 : ∀ j, j < 8 → (rootsTwo.getD j 0 ^ 2 ≤ primeN j * 65536 ^ (2 * 2) ∧ primeN j * 65536 ^ (2 * 2) < (rootsTwo.getD j 0 + 1) ^ 2) ∧ (((rootsTwo.getD j 0) % 4294967296 : Nat) : Int) = rd firstL j := by decide
 exact h1 j h
theorem root_three {j : Nat} (h : j < 64) : IsRoot (primeN j) 3 (rootsThree.getD j 0) ∧ (((rootsThree.getD j 0) % 4294967296 : Nat) : Int) = rd keyL j := by
 have h1 : ∀ j, j < 64 → (rootsThree.getD j 0 ^ 3 ≤ primeN j * 65536 ^ (2 * 3) ∧ primeN j * 65536 ^ (2 * 3) < (rootsThree.getD j 0 + 1) ^ 3) ∧ (((rootsThree.getD j 0) % 4294967296 : Nat) : Int) = rd keyL j := by decide
 exact h1 j h
def sieve : Nat → List Nat
 | 0 => []
 | n + 1 => if (sieve n).all (fun q => (n + 2) % q != 0) then sieve n ++ [n + 2] else sieve n
theorem sieve_step (n : Nat) : (sieve n).length ≤ (sieve (n + 1)).length := by
 rw [sieve]
 split
 ·simp
 ·exact Nat.le_refl _
theorem sieve_mono {m n : Nat} (h : m ≤ n) : (sieve m).length ≤ (sieve n).length := by
 induction h with
 | refl => exact Nat.le_refl _
 | step _ ih => exact Nat.le_trans ih (sieve_step _)
def sieveF : Nat → List Nat → Nat → List Nat
 | 0, l, _ => l
 | n + 1, l, x => sieveF n (if l.all (fun q => x % q != 0) then l ++ [x] else l) (x + 1)
theorem sieve_run : sieveF 310 (sieve 0) (0 + 2) = primeL := by decide +kernel
theorem sieve_all : sieve 310 = primeL := by
 have h : ∀ n k, sieveF n (sieve k) (k + 2) = sieve (k + n) := by
  intro n
  induction n with
  | zero => intro k; rfl
  | succ n ih =>
   intro k
   rw [sieveF]
   have e : (if (sieve k).all (fun q => (k + 2) % q != 0) then sieve k ++ [k + 2] else sieve k) = sieve (k + 1) := rfl
   rw [e, show k + 2 + 1 = (k + 1) + 2 by omega, ih (k + 1)]
   congr 1
   omega
 have h0 := h 310 0
 rw [Nat.zero_add] at h0
 rw [← h0]
 exact sieve_run
theorem sieve_309 : (sieve 309).length = 63 := by
 have h : sieve 310 = if (sieve 309).all (fun q => (309 + 2) % q != 0) then sieve 309 ++ [309 + 2] else sieve 309 := rfl
 rw [sieve_all] at h
 split at h
 ·have := congrArg List.length h
  rw [List.length_append] at this
  have e : primeL.length = 64 := rfl
  rw [e] at this
  simp at this
  omega
 ·exfalso
  have h2 : 311 ∈ sieve 309 := by rw [← h]; decide
  have h3 : ∀ n, ∀ x ∈ sieve n, x < n + 2 := by
   intro n
   induction n with
   | zero => intro x hx; cases hx
   | succ n ih =>
    intro x hx
    rw [sieve] at hx
    split at hx
    ·rcases List.mem_append.1 hx with h | h
     ·have := ih x h; omega
     ·simp at h; omega
    ·have := ih x hx; omega
  have := h3 309 311 h2
  omega
end Go.Proofs.YtendohnkhbgfbaaDoor
namespace Go.Proofs.YtendohnkhbgfbaaDoor
open Go.RowKit

def nz (D : List Nat) : List Int := D.map fun (d : Nat) => (d : Int)
theorem nz_length (D : List Nat) : (nz D).length = D.length := List.length_map ..
theorem nz_app (D E : List Nat) : nz (D ++ E) = nz D ++ nz E := List.map_append
theorem nz_rd (D : List Nat) (j : Nat) : rd (nz D) j = ((D.getD j 0 : Nat) : Int) := by
 unfold rd nz
 rw [List.getD_eq_getElem?_getD, List.getD_eq_getElem?_getD, List.getElem?_map]
 cases D[j]? <;> rfl
theorem getD_digs {D : List Nat} (h : Digs D) (j : Nat) : D.getD j 0 < 65536 := by
 rw [List.getD_eq_getElem?_getD]
 cases hj : D[j]? with
 | none => simp
 | some d => exact h d (List.mem_of_getElem? hj)
theorem digs_app {D : List Nat} (h : Digs D) {d : Nat} (hd : d < 65536) : Digs (D ++ [d]) := by
 intro x hx
 rcases List.mem_append.1 hx with h1 | h1
 ·exact h x h1
 ·simp at h1; omega
theorem dig_step {O L : List Nat} {x c i : Nat} (hl : O.length = i) (hi : i < L.length) (h : digV O + 65536 ^ i * c = digV (L.take i) * x) :
  digV (O ++ [(L.getD i 0 * x + c) % 65536]) + 65536 ^ (i + 1) * ((L.getD i 0 * x + c) / 65536) = digV (L.take (i + 1)) * x := by
 rw [digV_app, digV_one, digV_take hi, hl, Nat.add_mul, ← h, Nat.pow_succ]
 generalize 65536 ^ i = P
 generalize hn : L.getD i 0 * x + c = n
 have h1 : P * (n % 65536) + P * 65536 * (n / 65536) = P * n := by
  rw [Nat.mul_assoc, ← Nat.mul_add]
  congr 1
  omega
 have h2 : P * n = P * (L.getD i 0 * x) + P * c := by rw [← hn, Nat.mul_add]
 have h3 : P * L.getD i 0 * x = P * (L.getD i 0 * x) := Nat.mul_assoc ..
 omega
theorem dig_rest {O : List Nat} {c V : Nat} (h : digV O + 65536 ^ O.length * c = V) : digV (O ++ [c % 65536]) + 65536 ^ (O ++ [c % 65536]).length * (c / 65536) = V := by
 rw [digV_app, digV_one, List.length_append, List.length_singleton, Nat.pow_succ, ← h, Nat.mul_assoc]
 generalize 65536 ^ O.length = P
 have : P * (c % 65536) + P * (65536 * (c / 65536)) = P * c := by
  rw [← Nat.mul_add]
  congr 1
  omega
 omega
theorem carry_le {d x c : Nat} (hd : d < 65536) (hc : c ≤ x) : (d * x + c) / 65536 ≤ x := by
 have : d * x ≤ 65535 * x := Nat.mul_le_mul_right x (by omega)
 omega
end Go.Proofs.YtendohnkhbgfbaaDoor
namespace Go.Proofs.YtendohnkhbgfbaaDoor
open Go.RowKit

theorem nz_snoc (O : List Nat) (d : Nat) : ints .u64 (nz O) ++ #[Value.int .u64 (d : Int)].toList = ints .u64 (nz (O ++ [d])) := by
 rw [nz_app, ints_append]
 rfl
set_option maxHeartbeats 1000000 in set_option maxRecDepth 100000 in
theorem times_calls (A : Option Addr) (n c : Nat) (D : List Nat) (x : Nat) (w : World) (hR : Rd w .u64 A n (nz D)) (hD : Digs D) (hx : x ≤ 1099511627775) (hn : n ≤ 1000) :
  Calls Tryd.prog 119 #[.slice A n c, .int .u64 x] w fun e w' => ∃ (v : Value) (E : List Nat), e = .returned v ∧ Hid (w'.ownsRow w.heap.size 49 1 v E.length (ints .u64 (nz E))) ∧ Hid (Digs E ∧ digV E = digV D * x ∧ E.length ≤ n + 3) ∧ Below w.heap.size w w' := by
 have HR := Lib.hid hR
 have HD := Lib.hid hD
 have Hl : Hid (D.length = n) := Lib.hid (by have := hR.1; rwa [nz_length] at this)
 clear hR hD
 go_enter Tryd.func119, Tryd.ntmps119
 go_wp2_with fail
 go_loopw [5, 6, 7] (fun v cv i wr => ∃ (j : Nat) (O : List Nat) (cy : Nat), j ≤ n ∧ i = .int .i64 j ∧ cv = .int .u64 cy ∧ cy ≤ x ∧ Hid (O.length = j ∧ Digs O ∧ digV O + 65536 ^ j * cy = digV (D.take j) * x) ∧ Hid (wr.ownsRow w.heap.size 49 1 v j (ints .u64 (nz O))) ∧ Hid (Below w.heap.size w wr)) (fun _ _ i _ => n - (intOf i).toNat)
 case atStart => exact ⟨0, [], 0, by omega, rfl, rfl, by omega, Lib.hid ⟨rfl, fun d hd => (by cases hd), by simp [digV]⟩, Lib.hid (World.ownsRow_nil _ _ _ _), Lib.hid (Below.refl _ _)⟩
 case round =>
  obtain ⟨j, O, cy, hj, rfl, rfl, hcx, HI, HO, HB⟩ := hrel
  obtain ⟨W, hW⟩ : ∃ W, W = wr := ⟨_, rfl⟩
  subst hW
  have hszW : w.heap.size ≤ W.heap.size := HB.out.size
  obtain ⟨Av, pv, hvv⟩ := own_slice HO.out
  subst hvv
  by_cases hlt : j < n
  ·obtain ⟨b0, o0, rfl, hx0⟩ := (HR.out.below HB.out).2 (by omega)
   have z := hx0 j hlt
   rw [nz_rd] at z
   have hd := getD_digs HD.out j
   have hst := dig_step (x := x) (c := cy) HI.out.1 (by rw [Hl.out]; exact hlt) HI.out.2.2
   have hcl := carry_le hd hcx
   obtain ⟨d, hde⟩ : ∃ d, d = D.getD j 0 := ⟨_, rfl⟩
   rw [← hde] at z hd hst hcl
   have hpm : d * x ≤ 65535 * 1099511627775 := Nat.mul_le_mul (by omega) hx
   obtain ⟨p, hp⟩ : ∃ p, p = d * x := ⟨_, rfl⟩
   rw [← hp] at hst hcl hpm
   have hpi : IntKind.u64.wrap ((d : Int) * (x : Int)) = (p : Int) := by
    have e : ((d : Int) * (x : Int)) = (p : Int) := by rw [hp]; simp
    rw [e, IntKind.wrap_u64]
    omega
   have hps : IntKind.u64.wrap ((p : Int) + (cy : Int)) = ((p + cy : Nat) : Int) := by
    rw [IntKind.wrap_u64]
    omega
   obtain ⟨y, hy⟩ : ∃ y, y = p + cy := ⟨_, rfl⟩
   rw [← hy] at hst hcl hps
   have hy1 : y ≤ 65536 * 1099511627775 := by omega
   have Hst := Lib.hid hst
   have Hcl := Lib.hid hcl
   clear hx0 hde hst hcl hp hy hpm
   go_wp2_with (at_builtin; refine wpList_app1 rfl _ _ rfl elU64 HO.out rfl rfl rfl rfl (by omega) hszW ?_; intro v5 w5 hown5 hbel5 _; have Hown5 := Lib.hid hown5; have Hbel5 := Lib.hid hbel5; clear hown5 hbel5)
   go_roundw
   case rel =>
    have h5 := Hown5.out
    rw [show ((y : Int) % 65536) = ((y % 65536 : Nat) : Int) by omega, nz_snoc] at h5
    exact ⟨j + 1, O ++ [y % 65536], y / 65536, by omega, by go_num, by go_num, Hcl.out, Lib.hid ⟨by rw [List.length_append, HI.out.1]; rfl, digs_app HI.out.2.1 (by omega), Hst.out⟩, Lib.hid h5, Lib.hid (HB.out.trans Hbel5.out)⟩
   case measure => simp [intOf]; omega
  ·obtain rfl : j = n := by omega
   have hV : Hid (digV O + 65536 ^ O.length * cy = digV D * x) := by
    have h1 := HI.out.2.2
    rw [List.take_of_length_le (by rw [Hl.out]; exact Nat.le_refl _)] at h1
    rw [HI.out.1]
    exact Lib.hid h1
   have hDg := HI.out.2.1
   have hOl := HI.out.1
   have HDg := Lib.hid hDg
   have HOl := Lib.hid hOl
   clear hDg hOl
   go_wp2
   go_loopg [5, 6] 3 (fun g v cv wr => ∃ (O2 : List Nat) (c2 : Nat), cv = .int .u64 c2 ∧ c2 ≤ 1099511627775 ∧ Hid (c2 < 65536 ^ g) ∧ Hid (O2.length + g = j + 3) ∧ Hid (Digs O2) ∧ Hid (digV O2 + 65536 ^ O2.length * c2 = digV D * x) ∧ Hid (wr.ownsRow w.heap.size 49 1 v O2.length (ints .u64 (nz O2))) ∧ Hid (Below w.heap.size w wr))
   case atStart =>
    refine ⟨O, cy, rfl, by omega, Lib.hid (by have : (65536 : Nat) ^ 3 = 281474976710656 := rfl; omega), Lib.hid (by rw [HOl.out]), HDg, hV, ?_, HB⟩
    rw [HOl.out]
    exact HO
   case round =>
    obtain ⟨O2, c2, rfl, hc2, Hg, HL2, HD2, HV2, HO2, HB2⟩ := hrel
    obtain ⟨W2, hW2⟩ : ∃ W, W = wr := ⟨_, rfl⟩
    subst hW2
    have hsz2 : w.heap.size ≤ W2.heap.size := HB2.out.size
    obtain ⟨Av, pv, hvv⟩ := own_slice HO2.out
    subst hvv
    obtain ⟨m, hm⟩ : ∃ m, m = O2.length := ⟨_, rfl⟩
    have Hm := Lib.hid hm
    have hm3 : m ≤ 1003 := by have := HL2.out; omega
    rw [← hm] at HO2 ⊢
    clear hm
    by_cases hpos : 0 < c2
    ·have hg0 : 0 < gk := by
      rcases Nat.eq_zero_or_pos gk with h | h
      ·have := Hg.out
       rw [h] at this
       simp at this
       omega
      ·exact h
     go_wp2_with (at_builtin; refine wpList_app1 rfl _ _ rfl elU64 HO2.out rfl rfl rfl rfl (by omega) hsz2 ?_; intro v5 w5 hown5 hbel5 _; have Hown5 := Lib.hid hown5; have Hbel5 := Lib.hid hbel5; clear hown5 hbel5)
     go_roundg (gk - 1)
     case measure => omega
     case rel =>
      have h5 := Hown5.out
      rw [show ((c2 : Int) % 65536) = ((c2 % 65536 : Nat) : Int) by omega, nz_snoc] at h5
      refine ⟨O2 ++ [c2 % 65536], c2 / 65536, by go_num, by omega, Lib.hid ?_, Lib.hid (by rw [List.length_append]; have := HL2.out; simp only [List.length_singleton]; omega), Lib.hid (digs_app HD2.out (by omega)), Lib.hid (dig_rest HV2.out), Lib.hid ?_, Lib.hid (HB2.out.trans Hbel5.out)⟩
      ·have h1 := Hg.out
       obtain ⟨g', rfl⟩ : ∃ g', gk = g' + 1 := ⟨gk - 1, by omega⟩
       rw [Nat.pow_succ] at h1
       show c2 / 65536 < 65536 ^ (g' + 1 - 1)
       rw [Nat.add_sub_cancel]
       exact Nat.div_lt_of_lt_mul (by rw [Nat.mul_comm]; exact h1)
      ·rw [List.length_append, List.length_singleton, ← Hm.out]
       exact h5
    ·obtain rfl : c2 = 0 := by omega
     go_wp2
     go_ret
     have h2 := HV2.out
     rw [Nat.mul_zero, Nat.add_zero] at h2
     refine ⟨_, O2, rfl, ?_, Lib.hid ⟨HD2.out, h2, by have := HL2.out; omega⟩, HB2.out⟩
     rw [← Hm.out]
     exact HO2
end Go.Proofs.YtendohnkhbgfbaaDoor
namespace Go.Proofs.YtendohnkhbgfbaaDoor
open Go.RowKit

theorem digV_pad (D : List Nat) (m : Nat) : digV (D ++ List.replicate m 0) = digV D := by rw [digV_app, digV_zeros]; simp
theorem digs_pad {D : List Nat} (h : Digs D) (m : Nat) : Digs (D ++ List.replicate m 0) := fun d hd => by
 rcases List.mem_append.1 hd with h1 | h1
 ·exact h d h1
 ·have := List.eq_of_mem_replicate h1; omega
theorem pad_next (D : List Nat) (m : Nat) : D ++ List.replicate (m + 1) 0 = D ++ List.replicate m 0 ++ [0] := by rw [List.replicate_succ', List.append_assoc]
structure Two (w W : World) (va : Value) (la : Nat) (DA : List Nat) (vb : Value) (lb : Nat) (DB : List Nat) (X Y : Nat) : Prop where
 a : W.ownsRow w.heap.size 49 1 va la (ints .u64 (nz DA))
 b : W.ownsRow w.heap.size 49 1 vb lb (ints .u64 (nz DB))
 apart : Apart va.ownBlock vb.ownBlock
 da : Digs DA ∧ digV DA = X
 db : Digs DB ∧ digV DB = Y
 bel : Below w.heap.size w W
theorem digs_snoc0 {D : List Nat} {X : Nat} (h : Digs D ∧ digV D = X) : Digs (D ++ [0]) ∧ digV (D ++ [0]) = X := by
 have h1 := digs_pad h.1 1
 have h2 := digV_pad D 1
 exact ⟨h1, h2.trans h.2⟩
theorem Two.swap {w W : World} {va vb : Value} {la lb X Y : Nat} {DA DB : List Nat} (h : Two w W va la DA vb lb DB X Y) : Two w W vb lb DB va la DA Y X := ⟨h.b, h.a, h.apart.symm, h.db, h.da, h.bel⟩
theorem Two.grow {w W W' : World} {va vb : Value} {la lb X Y : Nat} {DA DB : List Nat} (h : Two w W va la DA vb lb DB X Y) {g cap : Nat} (ho : W'.ownsRow w.heap.size 49 1 (.slice (some ⟨g, 0, none⟩) (la + 1) cap) (la + 1) (ints .u64 (nz DA) ++ #[Value.int .u64 0].toList)) (hf : Fr W W' [va.ownBlock]) (hat : va.ownBlock = some g ∨ W.heap.size ≤ g) :
  Two w W' (.slice (some ⟨g, 0, none⟩) (la + 1) cap) (la + 1) (DA ++ [0]) vb lb DB X Y := by
 refine ⟨?_, own_fr h.b hf (fun o ho => by simp at ho; subst ho; exact h.apart.symm), ?_, digs_snoc0 h.da, h.db, h.bel.trans (hf.below h.bel.size (fun o ho j e => by simp at ho; subst ho; exact (h.a.lt j e).1))⟩
 ·rw [← nz_snoc]
  exact ho
 ·intro q hq e
  simp [Value.ownBlock] at hq
  subst hq
  rcases hat with h1 | h1
  ·exact h.apart g h1 e
  ·have := (h.b.lt g e).2
   omega
theorem own_lit1 (w : World) (k : IntKind) (z : Int) (T : TypeId) : (w.alloc (.cells #[.int k z] T)).ownsRow w.heap.size T 1 (.slice (some ⟨w.heap.size, 0, none⟩) 1 1) 1 (ints k [z]) :=
 World.ownsRow_lit w #[.int k z] 1 (Nat.le_refl _) (by decide) rfl
theorem nz_cons0 (D : List Nat) : ([0] : List Int) ++ nz D = nz (0 :: D) := rfl
set_option maxHeartbeats 1000000 in set_option maxRecDepth 100000 in
theorem fits_calls (x p k : Nat) (w : World) (hx : x ≤ 1099511627775) (hp : p < 65536) (hk : k ≤ 3) :
  Calls Tryd.prog 101 #[.int .u64 x, .int .u64 p, .int .i64 k] w fun e w' => ∃ t : Bool, e = .returned (.bool t) ∧ Hid (t = true ↔ x ^ k ≤ p * 65536 ^ (2 * k)) ∧ Below w.heap.size w w' := by
 obtain ⟨k2, hk2⟩ : ∃ k2, k2 = 2 * k := ⟨_, rfl⟩
 have h2k : IntKind.i64.wrap (2 * (k : Int)) = (k2 : Int) := by rw [IntWalk.i64_in _ (by omega)]; omega
 have hk26 : k2 ≤ 6 := by omega
 have Hk2 := Lib.hid hk2
 clear hk2
 go_enter Tryd.func101, Tryd.ntmps101
 go_wp2_with fail
 go_loopw [7, 8] (fun v i wr => ∃ (j : Nat) (D : List Nat), j ≤ k ∧ i = .int .i64 j ∧ Hid (wr.ownsRow w.heap.size 49 1 v D.length (ints .u64 (nz D))) ∧ Hid (Digs D ∧ digV D = x ^ j ∧ D.length ≤ 1 + 3 * j) ∧ Hid (Below w.heap.size w wr)) (fun _ i _ => k - (intOf i).toNat)
 case atStart => exact ⟨0, [1], by omega, rfl, Lib.hid (World.ownsRow_lit w #[.int .u64 1] 1 (Nat.le_refl _) (by decide) rfl), Lib.hid ⟨fun d hd => by simp at hd; omega, by simp [digV], by simp⟩, Lib.hid ((Below.refl _ _).alloc (Nat.le_refl _) _)⟩
 case round =>
  obtain ⟨j, D, hj, rfl, HO, HD, HB⟩ := hrel
  obtain ⟨W, hW⟩ : ∃ W, W = wr := ⟨_, rfl⟩
  subst hW
  obtain ⟨A1, c1, e1, hc1, hr1⟩ := own_rd HO.out
  subst e1
  have Hr1 := Lib.hid hr1
  have hDl := HD.out.2.2
  clear hr1
  by_cases hlt : j < k
  ·go_wp2_with fail
   refine (times_calls A1 D.length c1 D x W Hr1.out HD.out.1 hx (by omega)).mono ?_
   rintro e w2 ⟨v2, E, rfl, HO2, HE, hb2⟩
   have Hb2 := Lib.hid hb2
   have hszW : w.heap.size ≤ W.heap.size := HB.out.size
   clear hb2
   go_wp2_with fail
   go_roundw
   case rel =>
    exact ⟨j + 1, E, by omega, by go_num, Lib.hid (own_mono HO2.out hszW), Lib.hid ⟨HE.out.1, by rw [HE.out.2.1, HD.out.2.1, Nat.pow_succ], by have := HE.out.2.2; omega⟩, Lib.hid (below_seq HB.out (Nat.le_refl _) Hb2.out)⟩
   case measure => simp [intOf]; omega
  ·obtain rfl : j = k := by omega
   go_wp2_with fail
   go_loopw [9, 10] (fun v i wr => ∃ q : Nat, q ≤ k2 ∧ i = .int .i64 q ∧ Hid (wr.ownsRow W.heap.size 49 1 v (q + 1) (ints .u64 (nz (List.replicate q 0 ++ [p])))) ∧ Hid (Below W.heap.size W wr)) (fun _ i _ => k2 - (intOf i).toNat)
   case atStart => exact ⟨0, by omega, rfl, Lib.hid (own_lit1 W .u64 p _), Lib.hid ((Below.refl _ _).alloc (Nat.le_refl _) _)⟩
   case round =>
    obtain ⟨q, hq, rfl, HO2, HB2⟩ := hrel
    obtain ⟨W2, hW2⟩ : ∃ W, W = wr := ⟨_, rfl⟩
    subst hW2
    obtain ⟨A2, c2, e2, hc2, hr2⟩ := own_rd HO2.out
    subst e2
    have Hr2 := Lib.hid hr2
    have Hn2 := Lib.hid (own_none HO2.out)
    have hsz2 : W.heap.size ≤ W2.heap.size := HB2.out.size
    clear hr2
    by_cases hlt2 : q < k2
    ·go_wp2_with (at_builtin; refine wpList_appRd rfl _ _ rfl elU64 (own_lit1 W2 .u64 0 _) rfl rfl (Hr2.out.alloc _) Hn2.out (by omega) (by simp) ?_; intro v3 w3 ho3 hg3; rw [nz_cons0] at ho3; have hb3 : Below W2.heap.size W2 w3 := ((Below.refl _ _).alloc (Nat.le_refl _) _).grown hg3 (by simp) (fun k hk => by simp [Value.ownBlock] at hk; omega); have HO3 := Lib.hid ho3; have HB3 := Lib.hid hb3; clear ho3 hg3 hb3)
     go_roundw
     case rel =>
      refine ⟨q + 1, by omega, by go_num, ?_, Lib.hid (below_seq HB2.out (Nat.le_refl _) HB3.out)⟩
      have h3 := own_mono HO3.out hsz2
      rw [Nat.add_comm 1 (q + 1)] at h3
      exact Lib.hid h3
     case measure => simp [intOf]; omega
    ·obtain rfl : q = k2 := by omega
     go_wp2_with fail
     refine (times_calls A2 (q + 1) c2 (List.replicate q 0 ++ [p]) 1 W2 Hr2.out (fun d hd => by
      rcases List.mem_append.1 hd with h | h
      ·have := List.eq_of_mem_replicate h; omega
      ·simp at h; omega) (by omega) (by omega)).mono ?_
     rintro e w3 ⟨v3, E, rfl, HO3, HE, hb3⟩
     have HOa := Lib.hid (own_below HO.out (below_seq HB2.out (Nat.le_refl _) hb3))
     have HOb := Lib.hid (own_mono HO3.out hsz2)
     have HEv : Hid (digV E = p * 65536 ^ (2 * j)) := Lib.hid (by
      rw [HE.out.2.1, digV_app, digV_zeros, digV_one, List.length_replicate, Hk2.out, Nat.mul_one, Nat.zero_add, Nat.mul_comm])
     have HEd := Lib.hid HE.out.1
     have hEl := HE.out.2.2
     have HB3 := Lib.hid (below_seq HB.out (Nat.le_refl _) (below_seq HB2.out (Nat.le_refl _) hb3))
     have hapt : Apart (Value.slice A1 D.length c1).ownBlock v3.ownBlock := fun g hg e => by
      have h1 := (HO.out.lt g hg).2
      have h2 := (HOb.out.lt g e).1
      omega
     have HAp := Lib.hid hapt
     clear HO HO2 HB2 HO3 HE hb3 hapt Hr2 Hn2 Hr1
     obtain ⟨A3, c3, rfl⟩ := own_slice HOb.out
     obtain ⟨la, hla⟩ : ∃ la, la = D.length := ⟨_, rfl⟩
     obtain ⟨lb, hlb⟩ : ∃ lb, lb = E.length := ⟨_, rfl⟩
     have h2 : Two w w3 (.slice A1 la c1) la D (.slice A3 lb c3) lb E (x ^ j) (p * 65536 ^ (2 * j)) := by
      have ha := HOa.out
      have hb := HOb.out
      have hc := HAp.out
      rw [← hla] at ha hc
      rw [← hlb] at hb hc
      have hb := own_mono hb HB.out.size
      exact ⟨ha, hb, hc, ⟨HD.out.1, HD.out.2.1⟩, ⟨HEd.out, HEv.out⟩, HB3.out⟩
     have H2 := Lib.hid h2
     rw [← hla, ← hlb]
     rw [← hla] at hDl
     rw [← hlb] at hEl
     clear HOa HOb HAp HD HEd HEv HB3 hla hlb h2 h2k HB hc1 hc2 hsz2
     go_wp2
     go_loopg [7] lb (fun g va wr => ∃ (A1 : Option Addr) (c1 la : Nat) (D : List Nat), va = .slice A1 la c1 ∧ lb ≤ la + g ∧ la ≤ 20 ∧ Hid (Two w wr (.slice A1 la c1) la D (.slice A3 lb c3) lb E (x ^ j) (p * 65536 ^ (2 * j))))
     case atStart => exact ⟨A1, c1, la, D, rfl, by omega, by omega, H2⟩
     case round =>
      obtain ⟨A1, c1, la, D, rfl, hg, hla, H2⟩ := hrel
      obtain ⟨W4, hW4⟩ : ∃ W, W = wr := ⟨_, rfl⟩
      subst hW4
      have hs4 : w.heap.size ≤ W4.heap.size := H2.out.bel.size
      by_cases hlt3 : la < lb
      ·go_wp2_with (at_builtin; refine wpList_app3 rfl _ _ rfl elU64 H2.out.a rfl rfl rfl rfl rfl (by omega) hs4 ?_; intro g5 c5 w5 ho5 hf5 hat5 _; have H5 := Lib.hid (H2.out.grow ho5 hf5 hat5); clear ho5 hf5 hat5)
       go_roundg (gk - 1)
       case measure => omega
       case rel => exact ⟨_, c5, la + 1, D ++ [0], rfl, by omega, by omega, H5⟩
      ·go_wp2
       go_loopg [9] la (fun g vb wr => ∃ (A3 : Option Addr) (c3 lb : Nat) (E : List Nat), vb = .slice A3 lb c3 ∧ la ≤ lb + g ∧ lb ≤ la ∧ Hid (Two w wr (.slice A3 lb c3) lb E (.slice A1 la c1) la D (p * 65536 ^ (2 * j)) (x ^ j)))
       case atStart => exact ⟨A3, c3, lb, E, rfl, by omega, by omega, Lib.hid H2.out.swap⟩
       case round =>
        obtain ⟨A3, c3, lb, E, rfl, hg, hlb, H2⟩ := hrel
        obtain ⟨W5, hW5⟩ : ∃ W, W = wr := ⟨_, rfl⟩
        subst hW5
        have hs5 : w.heap.size ≤ W5.heap.size := H2.out.bel.size
        by_cases hlt4 : lb < la
        ·go_wp2_with (at_builtin; refine wpList_app3 rfl _ _ rfl elU64 H2.out.a rfl rfl rfl rfl rfl (by omega) hs5 ?_; intro g5 c5 w5 ho5 hf5 hat5 _; have H5 := Lib.hid (H2.out.grow ho5 hf5 hat5); clear ho5 hf5 hat5)
         go_roundg (gk - 1)
         case measure => omega
         case rel => exact ⟨_, c5, lb + 1, E ++ [0], rfl, by omega, by omega, H5⟩
        ·obtain rfl : lb = la := by omega
         go_wp2
         have hDl2 : D.length = lb := by have h := H2.out.b.1; rwa [ints_length, nz_length, Nat.mul_one] at h
         have hEl2 : E.length = lb := by have h := H2.out.a.1; rwa [ints_length, nz_length, Nat.mul_one] at h
         have HDl2 := Lib.hid hDl2
         have HEl2 := Lib.hid hEl2
         have hra : Rd W5 .u64 A1 lb (nz D) := by obtain ⟨_, _, ea, _, hr⟩ := own_rd H2.out.b; cases ea; exact hr
         have hrb : Rd W5 .u64 A3 lb (nz E) := by obtain ⟨_, _, ea, _, hr⟩ := own_rd H2.out.a; cases ea; exact hr
         have HRa := Lib.hid hra
         have HRb := Lib.hid hrb
         clear hDl2 hEl2 hra hrb
         go_loopg [11] lb (fun g i wr => ∃ (r : Nat) (y : Int), r ≤ g ∧ r ≤ lb ∧ i = .int .i64 y ∧ y = (r : Int) - 1 ∧ Hid (∀ q, r ≤ q → q < lb → D.getD q 0 = E.getD q 0) ∧ Hid (Below W5.heap.size W5 wr))
         case atStart => exact ⟨lb, (lb : Int) - 1, Nat.le_refl _, Nat.le_refl _, rfl, rfl, Lib.hid (fun q h1 h2 => by omega), Lib.hid (Below.refl _ _)⟩
         case round =>
          obtain ⟨r, y, hrg, hrl, rfl, hy, HQ, HB6⟩ := hrel
          obtain ⟨W6, hW6⟩ : ∃ W, W = wr := ⟨_, rfl⟩
          subst hW6
          rcases Nat.eq_zero_or_pos r with h0 | h0
          ·subst h0
           go_wp2_with fail
           go_ret
           refine ⟨true, rfl, Lib.hid ⟨fun _ => ?_, fun _ => rfl⟩, below_seq H2.out.bel (Nat.le_refl _) HB6.out⟩
           have e : D = E := digV_eq (by rw [HDl2.out, HEl2.out]) (fun q hq => HQ.out q (Nat.zero_le _) (by rw [← HDl2.out]; exact hq))
           have h1 := H2.out.da.2
           have h2 := H2.out.db.2
           rw [← e] at h1
           rw [← h1, ← h2]
           exact Nat.le_refl _
          ·obtain ⟨s, rfl⟩ : ∃ s, r = s + 1 := ⟨r - 1, by omega⟩
           obtain rfl : y = (s : Int) := by omega
           obtain ⟨ba, oa, rfl, hxa⟩ := (HRa.out.below HB6.out).2 (by omega)
           obtain ⟨bb, ob, rfl, hxb⟩ := (HRb.out.below HB6.out).2 (by omega)
           have za := hxa s (by omega)
           have zb := hxb s (by omega)
           rw [nz_rd] at za zb
           obtain ⟨da, hda⟩ : ∃ da, da = D.getD s 0 := ⟨_, rfl⟩
           obtain ⟨db, hdb⟩ : ∃ db, db = E.getD s 0 := ⟨_, rfl⟩
           rw [← hda] at za
           rw [← hdb] at zb
           have Hda := Lib.hid hda
           have Hdb := Lib.hid hdb
           clear hxa hxb hda hdb hy
           by_cases hab : da = db
           ·have hq : ((da : Int) != (db : Int)) = false := by simp [hab]
            have Hab := Lib.hid hab
            clear hab
            go_wp2
            go_region
            go_wp2
            go_roundg (gk - 1)
            case measure => omega
            case rel =>
             refine ⟨s, (s : Int) - 1, by omega, by omega, rfl, rfl, Lib.hid (fun q h1 h2 => ?_), Lib.hid HB6.out.drew⟩
             rcases Nat.lt_or_ge s q with h | h
             ·exact HQ.out q h h2
             ·obtain rfl : q = s := by omega
              rw [← Hda.out, ← Hdb.out]
              exact Hab.out
           ·have hq : ((da : Int) != (db : Int)) = true := by simp; omega
            have Hab := Lib.hid hab
            clear hab
            go_wp2
            go_region
            go_wp2
            go_region
            go_wp2
            go_ret
            refine ⟨_, rfl, Lib.hid ?_, below_seq H2.out.bel (Nat.le_refl _) HB6.out.drew.drew⟩
            rw [← H2.out.da.2, ← H2.out.db.2, decide_eq_true_iff]
            rcases Nat.lt_trichotomy da db with h | h | h
            ·have := digV_cmp (by rw [HDl2.out, HEl2.out]) H2.out.db.1 H2.out.da.1 (i := s) (by rw [HDl2.out]; omega) (fun q h1 h2 => HQ.out q h1 (by rw [← HDl2.out]; exact h2)) (by rw [← Hda.out, ← Hdb.out]; exact h)
             exact ⟨fun _ => Nat.le_of_lt this, fun _ => by omega⟩
            ·exact absurd h Hab.out
            ·have := digV_cmp (by rw [HDl2.out, HEl2.out]) H2.out.da.1 H2.out.db.1 (i := s) (by rw [HEl2.out]; omega) (fun q h1 h2 => (HQ.out q h1 (by rw [← HEl2.out]; exact h2)).symm) (by rw [← Hda.out, ← Hdb.out]; exact h)
             exact ⟨fun h9 => by omega, fun h9 => by omega⟩
end Go.Proofs.YtendohnkhbgfbaaDoor
namespace Go.Proofs.YtendohnkhbgfbaaDoor
open Go.RowKit

def RPlain : Prop := ∀ (A : Option Addr) (n c : Nat) (bs : List Int) (w : World), Rd w .u8 A n bs → (A = none → n = 0 ∧ c = 0) → (∀ x ∈ bs, 0 ≤ x ∧ x ≤ 255) → n ≤ 100000000 →
 Calls Tryd.prog 21 #[.slice A n c] w fun e w' => e = .returned (.agg (ints .u8 (shaS bs)).toArray) ∧ Below w.heap.size w w'
set_option maxHeartbeats 1000000 in set_option maxRecDepth 100000 in
theorem rChPut_calls (hP : RPlain) (k : Int) (A : Option Addr) (n c : Nat) (cs : List Int) (w : World) (hk : 0 ≤ k ∧ k ≤ 255) (hR : Rd w .u8 A n cs) (hA : A = none → n = 0 ∧ c = 0) (hcs : ∀ x ∈ cs, 0 ≤ x ∧ x ≤ 255) (hn : n ≤ 90000000) :
  Calls Tryd.prog 12 #[.int .i64 k, .slice A n c] w fun e w' => ∃ v, e = .returned v ∧ Hid (w'.ownsRow w.heap.size 5 1 v (chunkB k cs).length (ints .u8 (chunkB k cs))) ∧ Below w.heap.size w w' := by
 have HR := Lib.hid hR
 have HA := Lib.hid hA
 have Hcs := Lib.hid hcs
 have Hl := Lib.hid hR.1
 have HP := Lib.hid hP
 have hl10 := lebU_10 (n := n) (by omega)
 obtain ⟨ln, hln⟩ : ∃ ln, ln = (lebU n).length := ⟨_, rfl⟩
 rw [← hln] at hl10
 have Hln := Lib.hid hln
 clear hR hA hcs hP hln
 go_enter Tryd.func12, Tryd.ntmps12
 have hwk : IntKind.u8.wrap k = k := by rw [IntKind.wrap_u8]; omega
 go_wp2_with fail
 refine (rU_calls (n + 1) n _ (by omega) (by omega)).mono ?_
 rintro e w1 ⟨v1, rfl, ho1, hb1⟩
 obtain ⟨A1, c1, e1, hc1, hr1⟩ := own_rd ho1
 subst e1
 have hnn1 := own_none ho1
 rw [← Hln.out] at hr1 hnn1 hc1 ⊢
 have hbk : Below w.heap.size w w1 := below_seq ((Below.refl _ _).alloc (Nat.le_refl _) _) (Nat.le_refl _) hb1
 have hol := own_below (own_lit1 w .u8 k 5) hb1
 have Hr1 := Lib.hid hr1
 have Hnn1 := Lib.hid hnn1
 have HB1 := Lib.hid hbk
 have HOl := Lib.hid hol
 have hs1 := hbk.size
 clear ho1 hb1 hr1 hnn1 hbk hol
 go_wp2_with (first
  | (at_builtin; refine wpList_appRd rfl _ _ rfl elBy HOl.out rfl rfl Hr1.out Hnn1.out (by omega) hs1 ?_; intro v2 w2 ho2 hg2; have hb2 : Below w.heap.size w w2 := HB1.out.grown hg2 hs1 (fun k hk => (HOl.out.lt k hk).1); have hs2 := hb2.size; have HO2 := Lib.hid ho2; have HB2 := Lib.hid hb2; clear ho2 hg2 hb2)
  | (at_builtin; refine wpList_appRd rfl _ _ rfl elBy HO2.out rfl rfl (HR.out.below HB2.out) HA.out (by omega) hs2 ?_; intro v3 w3 ho3 hg3; have hb3 : Below w.heap.size w w3 := HB2.out.grown hg3 hs2 (fun k hk => (HO2.out.lt k hk).1); have HO3 := Lib.hid ho3; have HB3 := Lib.hid hb3; obtain ⟨A3, c3, rfl⟩ := own_slice ho3; clear ho3 hg3 hb3))
 have htl : [k] ++ lebU n ++ cs = tailB k cs := by unfold tailB; rw [Hl.out]; simp
 obtain ⟨M, hM⟩ : ∃ M, M = 1 + ln + n := ⟨_, rfl⟩
 rw [htl, ← hM] at HO3
 rw [← hM]
 obtain ⟨_, _, ea, hc3, hr3⟩ := own_rd HO3.out
 cases ea
 have htb : ∀ x ∈ tailB k cs, 0 ≤ x ∧ x ≤ 255 := fun x hx => by
  unfold tailB at hx
  rcases List.mem_cons.1 hx with h | h
  ·subst h; exact hk
  ·rcases List.mem_append.1 h with h | h
   ·exact lebU_byte _ x h
   ·exact Hcs.out x h
 have Hr3 := Lib.hid hr3
 have Hnn3 := Lib.hid (own_none HO3.out)
 have HM := Lib.hid hM
 have hM9 : M ≤ 100000000 := by omega
 have Htb := Lib.hid htb
 clear htl hM hr3 htb
 go_wp2_with fail
 refine (HP.out A3 M c3 (tailB k cs) w3 Hr3.out Hnn3.out Htb.out hM9).mono ?_
 rintro e w4 ⟨rfl, hb4⟩
 have hdl := shaS_length (tailB k cs)
 obtain ⟨D, hD⟩ : ∃ D, D = shaS (tailB k cs) := ⟨_, rfl⟩
 rw [← hD] at hdl ⊢
 have hsum : sumB k cs = [rd D 0, rd D 1, rd D 2, rd D 3] := by
  unfold sumB
  rw [← hD]
  match D, hdl with
  | a :: b :: c :: d :: _, _ => rfl
 have Hsum := Lib.hid hsum
 have Hdl := Lib.hid hdl
 have HB4 := Lib.hid (below_seq HB3.out (Nat.le_refl _) hb4)
 have Hr4 := Lib.hid (Hr3.out.below hb4)
 clear hD hdl hsum hb4
 go_upto_region 4 with (refine wpList_store_row rfl 52 _ _ rfl w4.heap.size _ rfl rfl 52 _ (heap_alloc_new _ _) (by rw [ints_size, Hdl.out]; kernel_rfl) (by rw [ints_size, Hdl.out]; rfl) (ints_one _ _) ?_)
 obtain ⟨w5, hw5⟩ : ∃ X, X = (w4.alloc (.cells #[.int .u8 0, .int .u8 0, .int .u8 0, .int .u8 0, .int .u8 0, .int .u8 0, .int .u8 0, .int .u8 0, .int .u8 0, .int .u8 0, .int .u8 0, .int .u8 0, .int .u8 0, .int .u8 0, .int .u8 0, .int .u8 0, .int .u8 0, .int .u8 0, .int .u8 0, .int .u8 0, .int .u8 0, .int .u8 0, .int .u8 0, .int .u8 0, .int .u8 0, .int .u8 0, .int .u8 0, .int .u8 0, .int .u8 0, .int .u8 0, .int .u8 0, .int .u8 0] 52)).setRow w4.heap.size (ints .u8 D).toArray := ⟨_, rfl⟩
 obtain ⟨g5, hg5⟩ : ∃ g, g = w4.heap.size := ⟨_, rfl⟩
 have hB5 : Blk w5 g5 52 .u8 D := by
  rw [hw5, hg5]
  exact setRow_heap _ w4.heap.size (ints .u8 (List.replicate 32 0)).toArray (ints .u8 D).toArray 52 _ (heap_alloc_new w4 _)
 have hb5 : Below w4.heap.size w4 w5 := by
  rw [hw5]
  exact ((Below.refl _ _).alloc (Nat.le_refl _) _).trans ⟨rfl, rfl, rfl, by simp, fun i hi => setRow_other _ w4.heap.size i _ (by omega)⟩
 rw [← hw5, ← hg5]
 have z0 := hB5.cell (j := 0) (by rw [Hdl.out]; omega)
 have z1 := hB5.cell (j := 1) (by rw [Hdl.out]; omega)
 have z2 := hB5.cell (j := 2) (by rw [Hdl.out]; omega)
 have z3 := hB5.cell (j := 3) (by rw [Hdl.out]; omega)
 have HB5 := Lib.hid (below_seq HB4.out (Nat.le_refl _) hb5)
 have Hr5 := Lib.hid (Hr4.out.below hb5)
 have hs5 : w.heap.size ≤ w5.heap.size := HB5.out.size
 clear hw5 hg5 hB5 hb5
 go_wp2_with (at_builtin; refine wpList_appRd rfl _ _ rfl elBy (ys := [133, 111, 74, 131, rd D 0, rd D 1, rd D 2, rd D 3]) (World.ownsRow_lit w5 #[.int .u8 133, .int .u8 111, .int .u8 74, .int .u8 131, .int .u8 (rd D 0), .int .u8 (rd D 1), .int .u8 (rd D 2), .int .u8 (rd D 3)] 8 (Nat.le_refl _) (by decide) rfl) rfl rfl (Hr5.out.alloc _) Hnn3.out (by omega) (by simp) ?_; intro v6 w6 ho6 hg6; have hb6 : Below w5.heap.size w5 w6 := ((Below.refl _ _).alloc (Nat.le_refl _) _).grown hg6 (by simp) (fun k hk => by simp [Value.ownBlock] at hk; omega); have HO6 := Lib.hid ho6; have HB6 := Lib.hid (below_seq HB5.out (Nat.le_refl _) hb6); clear ho6 hg6 hb6)
 go_ret
 have h9 := own_mono HO6.out hs5
 have e9 : [133, 111, 74, 131, rd D 0, rd D 1, rd D 2, rd D 3] ++ tailB k cs = chunkB k cs := by
  unfold chunkB
  rw [Hsum.out]
  rfl
 have l9 := h9.1
 rw [ints_length, e9, Nat.mul_one] at l9
 rw [e9, ← l9] at h9
 exact ⟨_, rfl, Lib.hid h9, HB6.out⟩
end Go.Proofs.YtendohnkhbgfbaaDoor
namespace Go.Proofs.YtendohnkhbgfbaaDoor
open Go.RowKit

set_option maxHeartbeats 1000000 in set_option maxRecDepth 100000 in
theorem root_calls (p k r : Nat) (w : World) (hp : p < 65536) (hk : k ≤ 3) (hk1 : 1 ≤ k) (hlo : p * 65536 ^ (2 * k) < 68719476736 ^ k) (hr : IsRoot p k r) :
  Calls Tryd.prog 68 #[.int .u64 p, .int .i64 k] w fun e w' => e = .returned (.int .u32 ((r % 4294967296 : Nat) : Int)) ∧ Below w.heap.size w w' := by
 have Hlo := Lib.hid hlo
 have Hr := Lib.hid hr
 clear hlo hr
 go_enter Tryd.func68, Tryd.ntmps68
 go_wp2_with fail
 go_loopw [5, 6] (fun lo hi wr => ∃ a b : Nat, lo = .int .u64 a ∧ hi = .int .u64 b ∧ a < b ∧ b ≤ 68719476736 ∧ Hid (a ^ k ≤ p * 65536 ^ (2 * k)) ∧ Hid (p * 65536 ^ (2 * k) < b ^ k) ∧ Hid (Below w.heap.size w wr)) (fun lo hi _ => (intOf hi - intOf lo).toNat)
 case atStart => exact ⟨0, 68719476736, rfl, rfl, by omega, Nat.le_refl _, Lib.hid (by rw [Nat.zero_pow (by omega)]; exact Nat.zero_le _), Hlo, Lib.hid (Below.refl _ _)⟩
 case round =>
  obtain ⟨a, b, rfl, rfl, hab, hb, Ha, Hb, HB⟩ := hrel
  obtain ⟨W, hW⟩ : ∃ W, W = wr := ⟨_, rfl⟩
  subst hW
  by_cases hlt : 1 < b - a
  ·have h1 : 1 < (b : Int) - (a : Int) := by omega
   obtain ⟨m, hm⟩ : ∃ m, m = (a + b) / 2 := ⟨_, rfl⟩
   have hmi : ((a : Int) + (b : Int)) / 2 = (m : Int) := by omega
   have hm1 : a < m ∧ m < b := by omega
   clear hm
   go_wp2_with fail
   refine (fits_calls m p k W (by omega) hp hk).mono ?_
   rintro e w2 ⟨t, rfl, Ht, hb2⟩
   have HB2 := Lib.hid (below_seq HB.out (Nat.le_refl _) hb2)
   clear hb2
   cases t
   ·have hno : p * 65536 ^ (2 * k) < m ^ k := by
     rcases Nat.lt_or_ge (p * 65536 ^ (2 * k)) (m ^ k) with h | h
     ·exact h
     ·have := Ht.out.2 h; cases this
    have Hno := Lib.hid hno
    clear hno Ht
    go_wp2_with fail
    go_roundw
    case rel =>
     exact ⟨a, m, rfl, rfl, hm1.1, by omega, Ha, Hno, HB2⟩
    case measure => simp [intOf]; omega
   ·have Hyes := Lib.hid (Ht.out.1 rfl)
    clear Ht
    go_wp2_with fail
    go_roundw
    case rel => exact ⟨m, b, rfl, rfl, hm1.2, hb, Hyes, Hb, HB2⟩
    case measure => simp [intOf]; omega
  ·obtain rfl : b = a + 1 := by omega
   have hra : a = r := IsRoot.same ⟨Ha.out, Hb.out⟩ Hr.out
   go_wp2_with fail
   go_ret
   refine ⟨?_, HB.out⟩
   rw [← hra]
   simp
set_option maxHeartbeats 1000000 in set_option maxRecDepth 100000 in
theorem turn_calls (x : W32) (n : Nat) (w : World) (hn : n ≤ 31) :
  Calls Tryd.prog 69 #[.int .u32 (wv x), .int .i64 n] w fun e w' => e = .returned (.int .u32 (wv (rotr x n))) ∧ w' = w := by
 go_enter Tryd.func69, Tryd.ntmps69
 go_wp2_with fail
 go_loopw [0, 5] (fun v i wr => ∃ (j : Nat) (y : W32), j ≤ n ∧ i = .int .i64 j ∧ v = .int .u32 (wv y) ∧ Hid (y = rotr x j) ∧ wr = w) (fun _ i _ => n - (intOf i).toNat)
 case atStart => exact ⟨0, x, by omega, rfl, rfl, Lib.hid (rotr_zero x).symm, rfl⟩
 case round =>
  obtain ⟨j, y, hj, rfl, rfl, HY, rfl⟩ := hrel
  by_cases hlt : j < n
  ·have hy := wv_rng y
   have ht := turn_one y
   have htr := wv_rng (rotr y 1)
   go_wp2_with fail
   go_roundw
   case rel => exact ⟨j + 1, rotr y 1, by omega, by go_num, rfl, Lib.hid (by rw [HY.out, rotr_step x (by omega)]), trivial⟩
   case measure => simp [intOf]; omega
  ·obtain rfl : j = n := by omega
   have hY := HY.out
   subst hY
   go_wp2_with fail
   go_ret
   exact ⟨rfl, rfl⟩
set_option maxHeartbeats 1000000 in set_option maxRecDepth 100000 in
theorem shift_calls (x : W32) (n : Nat) (w : World) (hn : n ≤ 31) :
  Calls Tryd.prog 70 #[.int .u32 (wv x), .int .i64 n] w fun e w' => e = .returned (.int .u32 (wv (x >>> n))) ∧ w' = w := by
 go_enter Tryd.func70, Tryd.ntmps70
 go_wp2_with fail
 go_loopw [0, 5] (fun v i wr => ∃ (j : Nat) (y : W32), j ≤ n ∧ i = .int .i64 j ∧ v = .int .u32 (wv y) ∧ Hid (y = x >>> j) ∧ wr = w) (fun _ i _ => n - (intOf i).toNat)
 case atStart => exact ⟨0, x, by omega, rfl, rfl, Lib.hid (by simp), rfl⟩
 case round =>
  obtain ⟨j, y, hj, rfl, rfl, HY, rfl⟩ := hrel
  by_cases hlt : j < n
  ·have hy := wv_rng y
   have ht : wv y / (2 : Int) = wv (y >>> 1) := wv_shr y 1
   go_wp2_with fail
   go_roundw
   case rel => exact ⟨j + 1, y >>> 1, by omega, by go_num, rfl, Lib.hid (by rw [HY.out, ← BitVec.shiftRight_add]), trivial⟩
   case measure => simp [intOf]; omega
  ·obtain rfl : j = n := by omega
   have hY := HY.out
   subst hY
   go_wp2_with fail
   go_ret
   exact ⟨rfl, rfl⟩
end Go.Proofs.YtendohnkhbgfbaaDoor
namespace Go.Proofs.YtendohnkhbgfbaaDoor
open Go.RowKit

theorem sieve_in : ∀ n, ∀ x ∈ sieve n, 2 ≤ x ∧ x < n + 2 := by
 intro n
 induction n with
 | zero => intro x hx; cases hx
 | succ n ih =>
  intro x hx
  rw [sieve] at hx
  split at hx
  ·rcases List.mem_append.1 hx with h | h
   ·have := ih x h; omega
   ·simp at h; omega
  ·have := ih x hx; omega
def noneD (L : List Nat) (x j : Nat) : Bool := (L.take j).all (fun q => x % q != 0)
theorem noneD_next {L : List Nat} {x j : Nat} (h : j < L.length) : noneD L x (j + 1) = (noneD L x j && (x % L.getD j 0 != 0)) := by
 unfold noneD
 rw [List.take_succ_eq_append_getElem h, List.all_append, List.getD_eq_getElem?_getD, List.getElem?_eq_getElem h]
 simp
theorem noneD_all (L : List Nat) (x : Nat) : noneD L x L.length = L.all (fun q => x % q != 0) := by unfold noneD; rw [List.take_length]
set_option maxHeartbeats 1000000 in set_option maxRecDepth 100000 in
theorem primes_calls (w : World) :
  Calls Tryd.prog 67 #[.int .i64 64] w fun e w' => ∃ v, e = .returned v ∧ Hid (w'.ownsRow w.heap.size 49 1 v 64 (ints .u64 (nz primeL))) ∧ Below w.heap.size w w' := by
 go_enter Tryd.func67, Tryd.ntmps67
 go_wp2_with fail
 go_loopg [3, 4] 400 (fun g v i wr => ∃ (m x ln : Nat), m + g = 400 ∧ m ≤ 310 ∧ x = m + 2 ∧ i = .int .u64 x ∧ Hid (ln = (sieve m).length) ∧ ln ≤ 64 ∧ Hid (wr.ownsRow w.heap.size 49 1 v ln (ints .u64 (nz (sieve m)))) ∧ Hid (Below w.heap.size w wr))
 case atStart => exact ⟨0, 2, 0, by omega, by omega, rfl, rfl, Lib.hid rfl, by omega, Lib.hid (World.ownsRow_nil _ _ _ _), Lib.hid (Below.refl _ _)⟩
 case round =>
  obtain ⟨m, x, ln, hm, hm2, hx, rfl, HL, hln, HO, HB⟩ := hrel
  obtain ⟨W, hW⟩ : ∃ W, W = wr := ⟨_, rfl⟩
  subst hW
  obtain ⟨A1, c1, e1, hc1, hr1⟩ := own_rd HO.out
  subst e1
  have hszW : w.heap.size ≤ W.heap.size := HB.out.size
  by_cases hlt : ln < 64
  ·have hm9 : m ≤ 309 := by
    rcases Nat.lt_or_ge m 310 with h | h
    ·omega
    ·have h1 := HL.out
     obtain rfl : m = 310 := by omega
     rw [sieve_all] at h1
     have : primeL.length = 64 := rfl
     omega
   have Hx := Lib.hid hx
   have Hr1 := Lib.hid hr1
   have hx3 : x ≤ 311 := by omega
   clear hr1 hx
   go_wp2_with fail
   go_loopw [5, 6] (fun t i wx => ∃ (j : Nat) (q : Bool), j ≤ ln ∧ i = .int .i64 j ∧ t = .bool q ∧ Hid (q = noneD (sieve m) x j) ∧ Hid (wx = W)) (fun _ i _ => ln - (intOf i).toNat)
   case atStart => exact ⟨0, true, by omega, rfl, rfl, Lib.hid rfl, Lib.hid rfl⟩
   case round =>
    obtain ⟨j, q, hj, rfl, rfl, HQ, HW⟩ := hrel
    have hW := HW.out
    subst hW
    obtain ⟨W, hW⟩ : ∃ W, W = wr := ⟨_, rfl⟩
    subst hW
    by_cases hlt2 : j < ln
    ·obtain ⟨b0, o0, rfl, hx0⟩ := Hr1.out.2 (by omega)
     have z := hx0 j hlt2
     rw [nz_rd] at z
     have hjl : j < (sieve m).length := by rw [← HL.out]; exact hlt2
     have hnx := noneD_next (x := x) hjl
     have hin := sieve_in m ((sieve m).getD j 0) (by rw [List.getD_eq_getElem?_getD, List.getElem?_eq_getElem hjl]; exact List.getElem_mem hjl)
     obtain ⟨d, hd⟩ : ∃ d, d = (sieve m).getD j 0 := ⟨_, rfl⟩
     rw [← hd] at z hnx hin
     have hd0 : 2 ≤ d := hin.1
     obtain ⟨y, hy⟩ : ∃ y, y = x % d := ⟨_, rfl⟩
     have hyi : (x : Int).tmod (d : Int) = (y : Int) := by rw [hy]; exact (Int.ofNat_tmod x d).symm
     have hyi2 : (x : Int) % (d : Int) = (y : Int) := by rw [hy]; simp
     rw [← hy] at hnx
     have Hnx := Lib.hid hnx
     clear hx0 hnx hin hd hy hjl
     cases q
     ·go_wp2_with fail
      go_roundw
      case rel => exact ⟨j + 1, false, by omega, by go_num, rfl, Lib.hid (by rw [Hnx.out, ← HQ.out]; rfl), Lib.hid (by trivial)⟩
      case measure => simp [intOf]; omega
     ·by_cases hy0 : y = 0
      ·have hq : ((y : Int) != 0) = false := by simp [hy0]
       have Hy0 := Lib.hid hy0
       clear hy0
       go_wp2_with fail
       go_roundw
       case rel => exact ⟨j + 1, false, by omega, by go_num, rfl, Lib.hid (by rw [Hnx.out, Hy0.out]; simp), Lib.hid (by trivial)⟩
       case measure => simp [intOf]; omega
      ·have hq : ((y : Int) != 0) = true := by simp [hy0]
       have Hy0 := Lib.hid hy0
       clear hy0
       go_wp2_with fail
       go_roundw
       case rel => exact ⟨j + 1, true, by omega, by go_num, rfl, Lib.hid (by rw [Hnx.out, ← HQ.out]; simp; exact Hy0.out), Lib.hid (by trivial)⟩
       case measure => simp [intOf]; omega
    ·obtain rfl : j = ln := by omega
     have hqa : q = (sieve m).all (fun d => (m + 2) % d != 0) := by rw [HQ.out, HL.out, noneD_all, Hx.out]
     have hnx : sieve (m + 1) = if q = true then sieve m ++ [m + 2] else sieve m := by rw [sieve, ← hqa]
     have Hnx := Lib.hid hnx
     have hmono := sieve_mono (show m + 1 ≤ 310 by omega)
     have h64 : (sieve 310).length = 64 := by rw [sieve_all]; rfl
     rw [h64] at hmono
     have Hmono := Lib.hid hmono
     clear hqa hnx hmono h64
     cases q
     ·have hs : sieve (m + 1) = sieve m := by rw [Hnx.out]; rfl
      have Hs := Lib.hid hs
      clear hs
      go_wp2_with fail
      go_roundg (gk - 1)
      case measure => omega
      case rel => exact ⟨m + 1, x + 1, j, by omega, by omega, by have := Hx.out; omega, by go_num, Lib.hid (by rw [Hs.out]; exact HL.out), hln, by rw [Hs.out]; exact HO, HB⟩
     ·have hs : sieve (m + 1) = sieve m ++ [x] := by rw [Hnx.out, Hx.out]; rfl
      have Hs := Lib.hid hs
      clear hs
      go_wp2_with (at_builtin; refine wpList_app1 rfl _ _ rfl elU64 HO.out rfl rfl rfl rfl (by omega) hszW ?_; intro v5 w5 hown5 hbel5 _; have Hown5 := Lib.hid hown5; have Hbel5 := Lib.hid hbel5; clear hown5 hbel5)
      go_roundg (gk - 1)
      case measure => omega
      case rel =>
       have h5 := Hown5.out
       rw [nz_snoc, ← Hs.out] at h5
       exact ⟨m + 1, x + 1, j + 1, by omega, by omega, by have := Hx.out; omega, by go_num, Lib.hid (by rw [Hs.out, List.length_append, ← HL.out]; rfl), by omega, Lib.hid h5, Lib.hid (HB.out.trans Hbel5.out)⟩
  ·obtain rfl : ln = 64 := by omega
   have hs : sieve m = primeL := by
    have h1 := HL.out
    rcases Nat.lt_or_ge m 310 with h | h
    ·have h2 := sieve_mono (show m ≤ 309 by omega)
     rw [sieve_309] at h2
     omega
    ·obtain rfl : m = 310 := by omega
     exact sieve_all
   rw [hs] at HO
   clear hs hr1 hx
   go_wp2_with fail
   go_ret
   exact ⟨_, rfl, HO, HB.out⟩
end Go.Proofs.YtendohnkhbgfbaaDoor
