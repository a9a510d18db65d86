/-
  Texts joined into one file: RootP, DigP, Times, Fits, RootW, Primes, Tabs4, Loops.
-/
import Derived.Test.YtendohnkhbgfbaaDoorJShaO1
import Derived.Test.YtendohnkhbgfbaaDoorJBytZ1
import Derived.IntWalk
import Derived.Deep.LoopGhost
import Derived.Test.YtendohnkhbgfbaaDoorJBytZ4
import Derived.Test.YtendohnkhbgfbaaDoorJBytZ2
import Derived.Deep.Cut
import Derived.Deep.CutRange
import Derived.Deep.CutBlock
import Derived.Deep.RegionWith
/-
  Digits to the base 65536; roots; primes (no program).
-/
namespace Go.Proofs.YtendohnkhbgfbaaDoor
open Go.RowKit

/-- The number that digits tell, the lowest first. -/
def digV : List Nat → Nat
  | [] => 0
  | d :: l => d + 65536 * digV l
def Digs (l : List Nat) : Prop := ∀ d ∈ l, d < 65536
theorem digV_app (l m : List Nat) : digV (l ++ m) = digV l + 65536 ^ l.length * digV m := by
  induction l with
  | nil => simp [digV]
  | cons d l ih => rw [List.cons_append, digV, digV, ih, List.length_cons, Nat.pow_succ, Nat.mul_add, Nat.mul_comm (65536 ^ l.length) 65536, Nat.mul_assoc, Nat.add_assoc]
theorem digV_lt {l : List Nat} (h : Digs l) : digV l < 65536 ^ l.length := by
  induction l with
  | nil => simp [digV]
  | cons d l ih =>
    have h1 := h d List.mem_cons_self
    have h2 := ih (fun x hx => h x (List.mem_cons_of_mem _ hx))
    rw [digV, List.length_cons, Nat.pow_succ]
    omega
theorem digV_zeros (n : Nat) : digV (List.replicate n 0) = 0 := by
  induction n with
  | zero => rfl
  | succ n ih => rw [List.replicate_succ, digV, ih]
theorem digV_one (d : Nat) : digV [d] = d := by simp [digV]
/-- The digits of a list up to a place, and from it on. -/
theorem digV_take {l : List Nat} {i : Nat} (h : i < l.length) : digV (l.take (i + 1)) = digV (l.take i) + 65536 ^ i * l.getD i 0 := by
  rw [List.take_add_one, List.getElem?_eq_getElem h, digV_app, List.length_take, Nat.min_eq_left (by omega)]
  simp [digV_one, List.getD_eq_getElem?_getD, List.getElem?_eq_getElem h]
/-- Two lists of digits, alike from a place on, are compared there. -/
theorem digV_cmp {a b : List Nat} (hl : a.length = b.length) (ha : Digs a) (hb : Digs b) {i : Nat} (hi : i < a.length) (hs : ∀ j, i < j → j < a.length → a.getD j 0 = b.getD j 0) (hlt : a.getD i 0 < b.getD i 0) : digV a < digV b := by
  induction i generalizing a b with
  | zero =>
    cases a with
    | nil => simp at hi
    | cons x a =>
      cases b with
      | nil => simp at hl
      | cons y b =>
        have e : a = b := by
          refine List.ext_getElem (by simpa using hl) (fun j h1 h2 => ?_)
          have := hs (j + 1) (by omega) (by simpa using h1)
          rw [List.getD_cons_succ, List.getD_cons_succ, List.getD_eq_getElem?_getD, List.getD_eq_getElem?_getD, List.getElem?_eq_getElem h1, List.getElem?_eq_getElem h2] at this
          exact this
        rw [List.getD_cons_zero, List.getD_cons_zero] at hlt
        rw [digV, digV, e]
        omega
  | succ i ih =>
    cases a with
    | nil => simp at hi
    | cons x a =>
      cases b with
      | nil => simp at hl
      | cons y b =>
        rw [List.getD_cons_succ, List.getD_cons_succ] at hlt
        have := ih (a := a) (b := b) (by simpa using hl) (fun d hd => ha d (List.mem_cons_of_mem _ hd)) (fun d hd => hb d (List.mem_cons_of_mem _ hd)) (by simpa using hi) (fun j h1 h2 => by have := hs (j + 1) (by omega) (by simp; omega); rwa [List.getD_cons_succ, List.getD_cons_succ] at this) hlt
        have h1 := ha x List.mem_cons_self
        rw [digV, digV]
        omega
theorem digV_eq {a b : List Nat} (hl : a.length = b.length) (hs : ∀ j, j < a.length → a.getD j 0 = b.getD j 0) : a = b := by
  refine List.ext_getElem hl (fun j h1 h2 => ?_)
  have := hs j h1
  rw [List.getD_eq_getElem?_getD, List.getD_eq_getElem?_getD, List.getElem?_eq_getElem h1, List.getElem?_eq_getElem h2] at this
  exact this
/-- The roots, with what stands ahead of the point. -/
def rootsTwo : List Nat := [6074000999, 7439101573, 9603838834, 11363415354, 14244795007, 15485724812, 17708603819, 18721328409]
def rootsThree : List Nat := [5411319704, 6194414737, 7344290767, 8215976869, 9551921755, 10098905585, 11043570340, 11460697813, 12214315672, 13195500289, 13492127166, 14311783875, 14809980276, 15046980094, 15499789991, 16133124468, 16720292289, 16907126662, 17444216262, 17784676812, 17950125167, 18429019306, 18734950876, 19175934170, 19734090066, 20001703533, 20132865992, 20390182855, 20516441075, 20764397895, 21588763473, 21813078375, 22141143685, 22248366392, 22769593852, 22871018771, 23170020180, 23461497531, 23651862830, 23931792517, 24205322401, 24295138891, 24734567280, 24820601251, 24990902297, 25075189284, 25569408389, 26045227120, 26200031510, 26276752392, 26428864332, 26653801653, 26727943347, 27092625994, 27306805839, 27517677555, 27725365998, 27793908591, 27997534228, 28131656200, 28198240250, 28526537963, 28973835255, 29099129074]
def primeL : List Nat := [2, 3, 5, 7, 11, 13, 17, 19, 23, 29, 31, 37, 41, 43, 47, 53, 59, 61, 67, 71, 73, 79, 83, 89, 97, 101, 103, 107, 109, 113, 127, 131, 137, 139, 149, 151, 157, 163, 167, 173, 179, 181, 191, 193, 197, 199, 211, 223, 227, 229, 233, 239, 241, 251, 257, 263, 269, 271, 277, 281, 283, 293, 307, 311]
def primeN (j : Nat) : Nat := primeL.getD j 0
/-- Is r the greatest number whose k-th power is at most p times 2^(32k)? -/
def IsRoot (p k r : Nat) : Prop := r ^ k ≤ p * 65536 ^ (2 * k) ∧ p * 65536 ^ (2 * k) < (r + 1) ^ k
theorem IsRoot.same {p k r s : Nat} (h : IsRoot p k r) (g : IsRoot p k s) : r = s := by
  rcases Nat.lt_trichotomy r s with h1 | h1 | h1
  · have := Nat.pow_le_pow_left (show r + 1 ≤ s by omega) k
    have := h.2
    have := g.1
    omega
  · exact h1
  · have := Nat.pow_le_pow_left (show s + 1 ≤ r by omega) k
    have := g.2
    have := h.1
    omega
theorem root_two {j : Nat} (h : j < 8) : IsRoot (primeN j) 2 (rootsTwo.getD j 0) ∧ (((rootsTwo.getD j 0) % 4294967296 : Nat) : Int) = rd firstL j := by
  have h1 : ∀ j, j < 8 → (rootsTwo.getD j 0 ^ 2 ≤ primeN j * 65536 ^ (2 * 2) ∧ primeN j * 65536 ^ (2 * 2) < (rootsTwo.getD j 0 + 1) ^ 2) ∧ (((rootsTwo.getD j 0) % 4294967296 : Nat) : Int) = rd firstL j := by decide
  exact h1 j h
theorem root_three {j : Nat} (h : j < 64) : IsRoot (primeN j) 3 (rootsThree.getD j 0) ∧ (((rootsThree.getD j 0) % 4294967296 : Nat) : Int) = rd keyL j := by
  have h1 : ∀ j, j < 64 → (rootsThree.getD j 0 ^ 3 ≤ primeN j * 65536 ^ (2 * 3) ∧ primeN j * 65536 ^ (2 * 3) < (rootsThree.getD j 0 + 1) ^ 3) ∧ (((rootsThree.getD j 0) % 4294967296 : Nat) : Int) = rd keyL j := by decide
  exact h1 j h
/-- The numbers from 2 up to below x that none of those ahead divides. -/
def sieve : Nat → List Nat
  | 0 => []
  | n + 1 => if (sieve n).all (fun q => (n + 2) % q != 0) then sieve n ++ [n + 2] else sieve n
theorem sieve_step (n : Nat) : (sieve n).length ≤ (sieve (n + 1)).length := by
  rw [sieve]
  split
  · simp
  · exact Nat.le_refl _
theorem sieve_mono {m n : Nat} (h : m ≤ n) : (sieve m).length ≤ (sieve n).length := by
  induction h with
  | refl => exact Nat.le_refl _
  | step _ ih => exact Nat.le_trans ih (sieve_step _)
def sieveF : Nat → List Nat → Nat → List Nat
  | 0, l, _ => l
  | n + 1, l, x => sieveF n (if l.all (fun q => x % q != 0) then l ++ [x] else l) (x + 1)
theorem sieve_run : sieveF 310 (sieve 0) (0 + 2) = primeL := by decide +kernel
theorem sieve_all : sieve 310 = primeL := by
  have h : ∀ n k, sieveF n (sieve k) (k + 2) = sieve (k + n) := by
    intro n
    induction n with
    | zero => intro k; rfl
    | succ n ih =>
      intro k
      rw [sieveF]
      have e : (if (sieve k).all (fun q => (k + 2) % q != 0) then sieve k ++ [k + 2] else sieve k) = sieve (k + 1) := rfl
      rw [e, show k + 2 + 1 = (k + 1) + 2 by omega, ih (k + 1)]
      congr 1
      omega
  have h0 := h 310 0
  rw [Nat.zero_add] at h0
  rw [← h0]
  exact sieve_run
theorem sieve_309 : (sieve 309).length = 63 := by
  have h : sieve 310 = if (sieve 309).all (fun q => (309 + 2) % q != 0) then sieve 309 ++ [309 + 2] else sieve 309 := rfl
  rw [sieve_all] at h
  split at h
  · have := congrArg List.length h
    rw [List.length_append] at this
    have e : primeL.length = 64 := rfl
    rw [e] at this
    simp at this
    omega
  · exfalso
    have h2 : 311 ∈ sieve 309 := by rw [← h]; decide
    have h3 : ∀ n, ∀ x ∈ sieve n, x < n + 2 := by
      intro n
      induction n with
      | zero => intro x hx; cases hx
      | succ n ih =>
        intro x hx
        rw [sieve] at hx
        split at hx
        · rcases List.mem_append.1 hx with h | h
          · have := ih x h; omega
          · simp at h; omega
        · have := ih x hx; omega
    have := h3 309 311 h2
    omega
end Go.Proofs.YtendohnkhbgfbaaDoor
/-
  Digits times a number (no program).
-/
namespace Go.Proofs.YtendohnkhbgfbaaDoor
open Go.RowKit

def nz (D : List Nat) : List Int := D.map fun (d : Nat) => (d : Int)
theorem nz_length (D : List Nat) : (nz D).length = D.length := List.length_map ..
theorem nz_app (D E : List Nat) : nz (D ++ E) = nz D ++ nz E := List.map_append
theorem nz_rd (D : List Nat) (j : Nat) : rd (nz D) j = ((D.getD j 0 : Nat) : Int) := by
  unfold rd nz
  rw [List.getD_eq_getElem?_getD, List.getD_eq_getElem?_getD, List.getElem?_map]
  cases D[j]? <;> rfl
theorem getD_digs {D : List Nat} (h : Digs D) (j : Nat) : D.getD j 0 < 65536 := by
  rw [List.getD_eq_getElem?_getD]
  cases hj : D[j]? with
  | none => simp
  | some d => exact h d (List.mem_of_getElem? hj)
theorem digs_app {D : List Nat} (h : Digs D) {d : Nat} (hd : d < 65536) : Digs (D ++ [d]) := by
  intro x hx
  rcases List.mem_append.1 hx with h1 | h1
  · exact h x h1
  · simp at h1; omega
theorem dig_step {O L : List Nat} {x c i : Nat} (hl : O.length = i) (hi : i < L.length) (h : digV O + 65536 ^ i * c = digV (L.take i) * x) :
    digV (O ++ [(L.getD i 0 * x + c) % 65536]) + 65536 ^ (i + 1) * ((L.getD i 0 * x + c) / 65536) = digV (L.take (i + 1)) * x := by
  rw [digV_app, digV_one, digV_take hi, hl, Nat.add_mul, ← h, Nat.pow_succ]
  generalize 65536 ^ i = P
  generalize hn : L.getD i 0 * x + c = n
  have h1 : P * (n % 65536) + P * 65536 * (n / 65536) = P * n := by
    rw [Nat.mul_assoc, ← Nat.mul_add]
    congr 1
    omega
  have h2 : P * n = P * (L.getD i 0 * x) + P * c := by rw [← hn, Nat.mul_add]
  have h3 : P * L.getD i 0 * x = P * (L.getD i 0 * x) := Nat.mul_assoc ..
  omega
theorem dig_rest {O : List Nat} {c V : Nat} (h : digV O + 65536 ^ O.length * c = V) : digV (O ++ [c % 65536]) + 65536 ^ (O ++ [c % 65536]).length * (c / 65536) = V := by
  rw [digV_app, digV_one, List.length_append, List.length_singleton, Nat.pow_succ, ← h, Nat.mul_assoc]
  generalize 65536 ^ O.length = P
  have : P * (c % 65536) + P * (65536 * (c / 65536)) = P * c := by
    rw [← Nat.mul_add]
    congr 1
    omega
  omega
/-- Carries become less. -/
theorem carry_le {d x c : Nat} (hd : d < 65536) (hc : c ≤ x) : (d * x + c) / 65536 ≤ x := by
  have : d * x ≤ 65535 * x := Nat.mul_le_mul_right x (by omega)
  omega
end Go.Proofs.YtendohnkhbgfbaaDoor
/-
  The walk of the reference's times (digits times a number).
-/
namespace Go.Proofs.YtendohnkhbgfbaaDoor
open Go.RowKit

theorem nz_snoc (O : List Nat) (d : Nat) : ints .u64 (nz O) ++ #[Value.int .u64 (d : Int)].toList = ints .u64 (nz (O ++ [d])) := by
  rw [nz_app, ints_append]
  rfl
set_option maxHeartbeats 1000000 in
set_option maxRecDepth 100000 in
theorem times_calls (A : Option Addr) (n c : Nat) (D : List Nat) (x : Nat) (w : World) (hR : Rd w .u64 A n (nz D)) (hD : Digs D) (hx : x ≤ 1099511627775) (hn : n ≤ 1000) :
    Calls Tryd.prog 119 #[.slice A n c, .int .u64 x] w fun e w' => ∃ (v : Value) (E : List Nat), e = .returned v ∧ Hid (w'.ownsRow w.heap.size 49 1 v E.length (ints .u64 (nz E))) ∧ Hid (Digs E ∧ digV E = digV D * x ∧ E.length ≤ n + 3) ∧ Below w.heap.size w w' := by
  have HR := Lib.hid hR
  have HD := Lib.hid hD
  have Hl : Hid (D.length = n) := Lib.hid (by have := hR.1; rwa [nz_length] at this)
  clear hR hD
  go_enter Tryd.func119, Tryd.ntmps119
  go_wp2_with fail
  go_loopw [5, 6, 7] (fun v cv i wr => ∃ (j : Nat) (O : List Nat) (cy : Nat), j ≤ n ∧ i = .int .i64 j ∧ cv = .int .u64 cy ∧ cy ≤ x ∧ Hid (O.length = j ∧ Digs O ∧ digV O + 65536 ^ j * cy = digV (D.take j) * x) ∧ Hid (wr.ownsRow w.heap.size 49 1 v j (ints .u64 (nz O))) ∧ Hid (Below w.heap.size w wr)) (fun _ _ i _ => n - (intOf i).toNat)
  case atStart => exact ⟨0, [], 0, by omega, rfl, rfl, by omega, Lib.hid ⟨rfl, fun d hd => (by cases hd), by simp [digV]⟩, Lib.hid (World.ownsRow_nil _ _ _ _), Lib.hid (Below.refl _ _)⟩
  case round =>
    obtain ⟨j, O, cy, hj, rfl, rfl, hcx, HI, HO, HB⟩ := hrel
    obtain ⟨W, hW⟩ : ∃ W, W = wr := ⟨_, rfl⟩
    subst hW
    have hszW : w.heap.size ≤ W.heap.size := HB.out.size
    obtain ⟨Av, pv, hvv⟩ := own_slice HO.out
    subst hvv
    by_cases hlt : j < n
    · obtain ⟨b0, o0, rfl, hx0⟩ := (HR.out.below HB.out).2 (by omega)
      have z := hx0 j hlt
      rw [nz_rd] at z
      have hd := getD_digs HD.out j
      have hst := dig_step (x := x) (c := cy) HI.out.1 (by rw [Hl.out]; exact hlt) HI.out.2.2
      have hcl := carry_le hd hcx
      obtain ⟨d, hde⟩ : ∃ d, d = D.getD j 0 := ⟨_, rfl⟩
      rw [← hde] at z hd hst hcl
      have hpm : d * x ≤ 65535 * 1099511627775 := Nat.mul_le_mul (by omega) hx
      obtain ⟨p, hp⟩ : ∃ p, p = d * x := ⟨_, rfl⟩
      rw [← hp] at hst hcl hpm
      have hpi : IntKind.u64.wrap ((d : Int) * (x : Int)) = (p : Int) := by
        have e : ((d : Int) * (x : Int)) = (p : Int) := by rw [hp]; simp
        rw [e, IntKind.wrap_u64]
        omega
      have hps : IntKind.u64.wrap ((p : Int) + (cy : Int)) = ((p + cy : Nat) : Int) := by
        rw [IntKind.wrap_u64]
        omega
      obtain ⟨y, hy⟩ : ∃ y, y = p + cy := ⟨_, rfl⟩
      rw [← hy] at hst hcl hps
      have hy1 : y ≤ 65536 * 1099511627775 := by omega
      have Hst := Lib.hid hst
      have Hcl := Lib.hid hcl
      clear hx0 hde hst hcl hp hy hpm
      go_wp2_with (at_builtin; refine wpList_app1 rfl _ _ rfl elU64 HO.out rfl rfl rfl rfl (by omega) hszW ?_; intro v5 w5 hown5 hbel5 _; have Hown5 := Lib.hid hown5; have Hbel5 := Lib.hid hbel5; clear hown5 hbel5)
      go_roundw
      case rel =>
        have h5 := Hown5.out
        rw [show ((y : Int) % 65536) = ((y % 65536 : Nat) : Int) by omega, nz_snoc] at h5
        exact ⟨j + 1, O ++ [y % 65536], y / 65536, by omega, by go_num, by go_num, Hcl.out, Lib.hid ⟨by rw [List.length_append, HI.out.1]; rfl, digs_app HI.out.2.1 (by omega), Hst.out⟩, Lib.hid h5, Lib.hid (HB.out.trans Hbel5.out)⟩
      case measure => simp [intOf]; omega
    · obtain rfl : j = n := by omega
      have hV : Hid (digV O + 65536 ^ O.length * cy = digV D * x) := by
        have h1 := HI.out.2.2
        rw [List.take_of_length_le (by rw [Hl.out]; exact Nat.le_refl _)] at h1
        rw [HI.out.1]
        exact Lib.hid h1
      have hDg := HI.out.2.1
      have hOl := HI.out.1
      have HDg := Lib.hid hDg
      have HOl := Lib.hid hOl
      clear hDg hOl
      go_wp2
      go_loopg [5, 6] 3 (fun g v cv wr => ∃ (O2 : List Nat) (c2 : Nat), cv = .int .u64 c2 ∧ c2 ≤ 1099511627775 ∧ Hid (c2 < 65536 ^ g) ∧ Hid (O2.length + g = j + 3) ∧ Hid (Digs O2) ∧ Hid (digV O2 + 65536 ^ O2.length * c2 = digV D * x) ∧ Hid (wr.ownsRow w.heap.size 49 1 v O2.length (ints .u64 (nz O2))) ∧ Hid (Below w.heap.size w wr))
      case atStart =>
        refine ⟨O, cy, rfl, by omega, Lib.hid (by have : (65536 : Nat) ^ 3 = 281474976710656 := rfl; omega), Lib.hid (by rw [HOl.out]), HDg, hV, ?_, HB⟩
        rw [HOl.out]
        exact HO
      case round =>
        obtain ⟨O2, c2, rfl, hc2, Hg, HL2, HD2, HV2, HO2, HB2⟩ := hrel
        obtain ⟨W2, hW2⟩ : ∃ W, W = wr := ⟨_, rfl⟩
        subst hW2
        have hsz2 : w.heap.size ≤ W2.heap.size := HB2.out.size
        obtain ⟨Av, pv, hvv⟩ := own_slice HO2.out
        subst hvv
        obtain ⟨m, hm⟩ : ∃ m, m = O2.length := ⟨_, rfl⟩
        have Hm := Lib.hid hm
        have hm3 : m ≤ 1003 := by have := HL2.out; omega
        rw [← hm] at HO2 ⊢
        clear hm
        by_cases hpos : 0 < c2
        · have hg0 : 0 < gk := by
            rcases Nat.eq_zero_or_pos gk with h | h
            · have := Hg.out
              rw [h] at this
              simp at this
              omega
            · exact h
          go_wp2_with (at_builtin; refine wpList_app1 rfl _ _ rfl elU64 HO2.out rfl rfl rfl rfl (by omega) hsz2 ?_; intro v5 w5 hown5 hbel5 _; have Hown5 := Lib.hid hown5; have Hbel5 := Lib.hid hbel5; clear hown5 hbel5)
          go_roundg (gk - 1)
          case measure => omega
          case rel =>
            have h5 := Hown5.out
            rw [show ((c2 : Int) % 65536) = ((c2 % 65536 : Nat) : Int) by omega, nz_snoc] at h5
            refine ⟨O2 ++ [c2 % 65536], c2 / 65536, by go_num, by omega, Lib.hid ?_, Lib.hid (by rw [List.length_append]; have := HL2.out; simp only [List.length_singleton]; omega), Lib.hid (digs_app HD2.out (by omega)), Lib.hid (dig_rest HV2.out), Lib.hid ?_, Lib.hid (HB2.out.trans Hbel5.out)⟩
            · have h1 := Hg.out
              obtain ⟨g', rfl⟩ : ∃ g', gk = g' + 1 := ⟨gk - 1, by omega⟩
              rw [Nat.pow_succ] at h1
              show c2 / 65536 < 65536 ^ (g' + 1 - 1)
              rw [Nat.add_sub_cancel]
              exact Nat.div_lt_of_lt_mul (by rw [Nat.mul_comm]; exact h1)
            · rw [List.length_append, List.length_singleton, ← Hm.out]
              exact h5
        · obtain rfl : c2 = 0 := by omega
          go_wp2
          go_ret
          have h2 := HV2.out
          rw [Nat.mul_zero, Nat.add_zero] at h2
          refine ⟨_, O2, rfl, ?_, Lib.hid ⟨HD2.out, h2, by have := HL2.out; omega⟩, HB2.out⟩
          rw [← Hm.out]
          exact HO2
end Go.Proofs.YtendohnkhbgfbaaDoor
/-
  The walk of the reference's fits.
-/
namespace Go.Proofs.YtendohnkhbgfbaaDoor
open Go.RowKit

theorem digV_pad (D : List Nat) (m : Nat) : digV (D ++ List.replicate m 0) = digV D := by rw [digV_app, digV_zeros]; simp
theorem digs_pad {D : List Nat} (h : Digs D) (m : Nat) : Digs (D ++ List.replicate m 0) := fun d hd => by
  rcases List.mem_append.1 hd with h1 | h1
  · exact h d h1
  · have := List.eq_of_mem_replicate h1; omega
theorem pad_next (D : List Nat) (m : Nat) : D ++ List.replicate (m + 1) 0 = D ++ List.replicate m 0 ++ [0] := by rw [List.replicate_succ', List.append_assoc]
/-- Two rows of digits, apart. -/
structure Two (w W : World) (va : Value) (la : Nat) (DA : List Nat) (vb : Value) (lb : Nat) (DB : List Nat) (X Y : Nat) : Prop where
  a : W.ownsRow w.heap.size 49 1 va la (ints .u64 (nz DA))
  b : W.ownsRow w.heap.size 49 1 vb lb (ints .u64 (nz DB))
  apart : Apart va.ownBlock vb.ownBlock
  da : Digs DA ∧ digV DA = X
  db : Digs DB ∧ digV DB = Y
  bel : Below w.heap.size w W
theorem digs_snoc0 {D : List Nat} {X : Nat} (h : Digs D ∧ digV D = X) : Digs (D ++ [0]) ∧ digV (D ++ [0]) = X := by
  have h1 := digs_pad h.1 1
  have h2 := digV_pad D 1
  exact ⟨h1, h2.trans h.2⟩
theorem Two.swap {w W : World} {va vb : Value} {la lb X Y : Nat} {DA DB : List Nat} (h : Two w W va la DA vb lb DB X Y) : Two w W vb lb DB va la DA Y X := ⟨h.b, h.a, h.apart.symm, h.db, h.da, h.bel⟩
theorem Two.grow {w W W' : World} {va vb : Value} {la lb X Y : Nat} {DA DB : List Nat} (h : Two w W va la DA vb lb DB X Y) {g cap : Nat} (ho : W'.ownsRow w.heap.size 49 1 (.slice (some ⟨g, 0, none⟩) (la + 1) cap) (la + 1) (ints .u64 (nz DA) ++ #[Value.int .u64 0].toList)) (hf : Fr W W' [va.ownBlock]) (hat : va.ownBlock = some g ∨ W.heap.size ≤ g) :
    Two w W' (.slice (some ⟨g, 0, none⟩) (la + 1) cap) (la + 1) (DA ++ [0]) vb lb DB X Y := by
  refine ⟨?_, own_fr h.b hf (fun o ho => by simp at ho; subst ho; exact h.apart.symm), ?_, digs_snoc0 h.da, h.db, h.bel.trans (hf.below h.bel.size (fun o ho j e => by simp at ho; subst ho; exact (h.a.lt j e).1))⟩
  · rw [← nz_snoc]
    exact ho
  · intro q hq e
    simp [Value.ownBlock] at hq
    subst hq
    rcases hat with h1 | h1
    · exact h.apart g h1 e
    · have := (h.b.lt g e).2
      omega
theorem own_lit1 (w : World) (k : IntKind) (z : Int) (T : TypeId) : (w.alloc (.cells #[.int k z] T)).ownsRow w.heap.size T 1 (.slice (some ⟨w.heap.size, 0, none⟩) 1 1) 1 (ints k [z]) :=
  World.ownsRow_lit w #[.int k z] 1 (Nat.le_refl _) (by decide) rfl
theorem nz_cons0 (D : List Nat) : ([0] : List Int) ++ nz D = nz (0 :: D) := rfl
set_option maxHeartbeats 1000000 in
set_option maxRecDepth 100000 in
theorem fits_calls (x p k : Nat) (w : World) (hx : x ≤ 1099511627775) (hp : p < 65536) (hk : k ≤ 3) :
    Calls Tryd.prog 101 #[.int .u64 x, .int .u64 p, .int .i64 k] w fun e w' => ∃ t : Bool, e = .returned (.bool t) ∧ Hid (t = true ↔ x ^ k ≤ p * 65536 ^ (2 * k)) ∧ Below w.heap.size w w' := by
  obtain ⟨k2, hk2⟩ : ∃ k2, k2 = 2 * k := ⟨_, rfl⟩
  have h2k : IntKind.i64.wrap (2 * (k : Int)) = (k2 : Int) := by rw [IntWalk.i64_in _ (by omega)]; omega
  have hk26 : k2 ≤ 6 := by omega
  have Hk2 := Lib.hid hk2
  clear hk2
  go_enter Tryd.func101, Tryd.ntmps101
  go_wp2_with fail
  go_loopw [7, 8] (fun v i wr => ∃ (j : Nat) (D : List Nat), j ≤ k ∧ i = .int .i64 j ∧ Hid (wr.ownsRow w.heap.size 49 1 v D.length (ints .u64 (nz D))) ∧ Hid (Digs D ∧ digV D = x ^ j ∧ D.length ≤ 1 + 3 * j) ∧ Hid (Below w.heap.size w wr)) (fun _ i _ => k - (intOf i).toNat)
  case atStart => exact ⟨0, [1], by omega, rfl, Lib.hid (World.ownsRow_lit w #[.int .u64 1] 1 (Nat.le_refl _) (by decide) rfl), Lib.hid ⟨fun d hd => by simp at hd; omega, by simp [digV], by simp⟩, Lib.hid ((Below.refl _ _).alloc (Nat.le_refl _) _)⟩
  case round =>
    obtain ⟨j, D, hj, rfl, HO, HD, HB⟩ := hrel
    obtain ⟨W, hW⟩ : ∃ W, W = wr := ⟨_, rfl⟩
    subst hW
    obtain ⟨A1, c1, e1, hc1, hr1⟩ := own_rd HO.out
    subst e1
    have Hr1 := Lib.hid hr1
    have hDl := HD.out.2.2
    clear hr1
    by_cases hlt : j < k
    · go_wp2_with fail
      refine (times_calls A1 D.length c1 D x W Hr1.out HD.out.1 hx (by omega)).mono ?_
      rintro e w2 ⟨v2, E, rfl, HO2, HE, hb2⟩
      have Hb2 := Lib.hid hb2
      have hszW : w.heap.size ≤ W.heap.size := HB.out.size
      clear hb2
      go_wp2_with fail
      go_roundw
      case rel =>
        exact ⟨j + 1, E, by omega, by go_num, Lib.hid (own_mono HO2.out hszW), Lib.hid ⟨HE.out.1, by rw [HE.out.2.1, HD.out.2.1, Nat.pow_succ], by have := HE.out.2.2; omega⟩, Lib.hid (below_seq HB.out (Nat.le_refl _) Hb2.out)⟩
      case measure => simp [intOf]; omega
    · obtain rfl : j = k := by omega
      go_wp2_with fail
      go_loopw [9, 10] (fun v i wr => ∃ q : Nat, q ≤ k2 ∧ i = .int .i64 q ∧ Hid (wr.ownsRow W.heap.size 49 1 v (q + 1) (ints .u64 (nz (List.replicate q 0 ++ [p])))) ∧ Hid (Below W.heap.size W wr)) (fun _ i _ => k2 - (intOf i).toNat)
      case atStart => exact ⟨0, by omega, rfl, Lib.hid (own_lit1 W .u64 p _), Lib.hid ((Below.refl _ _).alloc (Nat.le_refl _) _)⟩
      case round =>
        obtain ⟨q, hq, rfl, HO2, HB2⟩ := hrel
        obtain ⟨W2, hW2⟩ : ∃ W, W = wr := ⟨_, rfl⟩
        subst hW2
        obtain ⟨A2, c2, e2, hc2, hr2⟩ := own_rd HO2.out
        subst e2
        have Hr2 := Lib.hid hr2
        have Hn2 := Lib.hid (own_none HO2.out)
        have hsz2 : W.heap.size ≤ W2.heap.size := HB2.out.size
        clear hr2
        by_cases hlt2 : q < k2
        · go_wp2_with (at_builtin; refine wpList_appRd rfl _ _ rfl elU64 (own_lit1 W2 .u64 0 _) rfl rfl (Hr2.out.alloc _) Hn2.out (by omega) (by simp) ?_; intro v3 w3 ho3 hg3; rw [nz_cons0] at ho3; have hb3 : Below W2.heap.size W2 w3 := ((Below.refl _ _).alloc (Nat.le_refl _) _).grown hg3 (by simp) (fun k hk => by simp [Value.ownBlock] at hk; omega); have HO3 := Lib.hid ho3; have HB3 := Lib.hid hb3; clear ho3 hg3 hb3)
          go_roundw
          case rel =>
            refine ⟨q + 1, by omega, by go_num, ?_, Lib.hid (below_seq HB2.out (Nat.le_refl _) HB3.out)⟩
            have h3 := own_mono HO3.out hsz2
            rw [Nat.add_comm 1 (q + 1)] at h3
            exact Lib.hid h3
          case measure => simp [intOf]; omega
        · obtain rfl : q = k2 := by omega
          go_wp2_with fail
          refine (times_calls A2 (q + 1) c2 (List.replicate q 0 ++ [p]) 1 W2 Hr2.out (fun d hd => by
            rcases List.mem_append.1 hd with h | h
            · have := List.eq_of_mem_replicate h; omega
            · simp at h; omega) (by omega) (by omega)).mono ?_
          rintro e w3 ⟨v3, E, rfl, HO3, HE, hb3⟩
          have HOa := Lib.hid (own_below HO.out (below_seq HB2.out (Nat.le_refl _) hb3))
          have HOb := Lib.hid (own_mono HO3.out hsz2)
          have HEv : Hid (digV E = p * 65536 ^ (2 * j)) := Lib.hid (by
            rw [HE.out.2.1, digV_app, digV_zeros, digV_one, List.length_replicate, Hk2.out, Nat.mul_one, Nat.zero_add, Nat.mul_comm])
          have HEd := Lib.hid HE.out.1
          have hEl := HE.out.2.2
          have HB3 := Lib.hid (below_seq HB.out (Nat.le_refl _) (below_seq HB2.out (Nat.le_refl _) hb3))
          have hapt : Apart (Value.slice A1 D.length c1).ownBlock v3.ownBlock := fun g hg e => by
            have h1 := (HO.out.lt g hg).2
            have h2 := (HOb.out.lt g e).1
            omega
          have HAp := Lib.hid hapt
          clear HO HO2 HB2 HO3 HE hb3 hapt Hr2 Hn2 Hr1
          obtain ⟨A3, c3, rfl⟩ := own_slice HOb.out
          obtain ⟨la, hla⟩ : ∃ la, la = D.length := ⟨_, rfl⟩
          obtain ⟨lb, hlb⟩ : ∃ lb, lb = E.length := ⟨_, rfl⟩
          have h2 : Two w w3 (.slice A1 la c1) la D (.slice A3 lb c3) lb E (x ^ j) (p * 65536 ^ (2 * j)) := by
            have ha := HOa.out
            have hb := HOb.out
            have hc := HAp.out
            rw [← hla] at ha hc
            rw [← hlb] at hb hc
            have hb := own_mono hb HB.out.size
            exact ⟨ha, hb, hc, ⟨HD.out.1, HD.out.2.1⟩, ⟨HEd.out, HEv.out⟩, HB3.out⟩
          have H2 := Lib.hid h2
          rw [← hla, ← hlb]
          rw [← hla] at hDl
          rw [← hlb] at hEl
          clear HOa HOb HAp HD HEd HEv HB3 hla hlb h2 h2k HB hc1 hc2 hsz2
          go_wp2
          go_loopg [7] lb (fun g va wr => ∃ (A1 : Option Addr) (c1 la : Nat) (D : List Nat), va = .slice A1 la c1 ∧ lb ≤ la + g ∧ la ≤ 20 ∧ Hid (Two w wr (.slice A1 la c1) la D (.slice A3 lb c3) lb E (x ^ j) (p * 65536 ^ (2 * j))))
          case atStart => exact ⟨A1, c1, la, D, rfl, by omega, by omega, H2⟩
          case round =>
            obtain ⟨A1, c1, la, D, rfl, hg, hla, H2⟩ := hrel
            obtain ⟨W4, hW4⟩ : ∃ W, W = wr := ⟨_, rfl⟩
            subst hW4
            have hs4 : w.heap.size ≤ W4.heap.size := H2.out.bel.size
            by_cases hlt3 : la < lb
            · go_wp2_with (at_builtin; refine wpList_app3 rfl _ _ rfl elU64 H2.out.a rfl rfl rfl rfl rfl (by omega) hs4 ?_; intro g5 c5 w5 ho5 hf5 hat5 _; have H5 := Lib.hid (H2.out.grow ho5 hf5 hat5); clear ho5 hf5 hat5)
              go_roundg (gk - 1)
              case measure => omega
              case rel => exact ⟨_, c5, la + 1, D ++ [0], rfl, by omega, by omega, H5⟩
            · go_wp2
              go_loopg [9] la (fun g vb wr => ∃ (A3 : Option Addr) (c3 lb : Nat) (E : List Nat), vb = .slice A3 lb c3 ∧ la ≤ lb + g ∧ lb ≤ la ∧ Hid (Two w wr (.slice A3 lb c3) lb E (.slice A1 la c1) la D (p * 65536 ^ (2 * j)) (x ^ j)))
              case atStart => exact ⟨A3, c3, lb, E, rfl, by omega, by omega, Lib.hid H2.out.swap⟩
              case round =>
                obtain ⟨A3, c3, lb, E, rfl, hg, hlb, H2⟩ := hrel
                obtain ⟨W5, hW5⟩ : ∃ W, W = wr := ⟨_, rfl⟩
                subst hW5
                have hs5 : w.heap.size ≤ W5.heap.size := H2.out.bel.size
                by_cases hlt4 : lb < la
                · go_wp2_with (at_builtin; refine wpList_app3 rfl _ _ rfl elU64 H2.out.a rfl rfl rfl rfl rfl (by omega) hs5 ?_; intro g5 c5 w5 ho5 hf5 hat5 _; have H5 := Lib.hid (H2.out.grow ho5 hf5 hat5); clear ho5 hf5 hat5)
                  go_roundg (gk - 1)
                  case measure => omega
                  case rel => exact ⟨_, c5, lb + 1, E ++ [0], rfl, by omega, by omega, H5⟩
                · obtain rfl : lb = la := by omega
                  go_wp2
                  have hDl2 : D.length = lb := by have h := H2.out.b.1; rwa [ints_length, nz_length, Nat.mul_one] at h
                  have hEl2 : E.length = lb := by have h := H2.out.a.1; rwa [ints_length, nz_length, Nat.mul_one] at h
                  have HDl2 := Lib.hid hDl2
                  have HEl2 := Lib.hid hEl2
                  have hra : Rd W5 .u64 A1 lb (nz D) := by obtain ⟨_, _, ea, _, hr⟩ := own_rd H2.out.b; cases ea; exact hr
                  have hrb : Rd W5 .u64 A3 lb (nz E) := by obtain ⟨_, _, ea, _, hr⟩ := own_rd H2.out.a; cases ea; exact hr
                  have HRa := Lib.hid hra
                  have HRb := Lib.hid hrb
                  clear hDl2 hEl2 hra hrb
                  go_loopg [11] lb (fun g i wr => ∃ (r : Nat) (y : Int), r ≤ g ∧ r ≤ lb ∧ i = .int .i64 y ∧ y = (r : Int) - 1 ∧ Hid (∀ q, r ≤ q → q < lb → D.getD q 0 = E.getD q 0) ∧ Hid (Below W5.heap.size W5 wr))
                  case atStart => exact ⟨lb, (lb : Int) - 1, Nat.le_refl _, Nat.le_refl _, rfl, rfl, Lib.hid (fun q h1 h2 => by omega), Lib.hid (Below.refl _ _)⟩
                  case round =>
                    obtain ⟨r, y, hrg, hrl, rfl, hy, HQ, HB6⟩ := hrel
                    obtain ⟨W6, hW6⟩ : ∃ W, W = wr := ⟨_, rfl⟩
                    subst hW6
                    rcases Nat.eq_zero_or_pos r with h0 | h0
                    · subst h0
                      go_wp2_with fail
                      go_ret
                      refine ⟨true, rfl, Lib.hid ⟨fun _ => ?_, fun _ => rfl⟩, below_seq H2.out.bel (Nat.le_refl _) HB6.out⟩
                      have e : D = E := digV_eq (by rw [HDl2.out, HEl2.out]) (fun q hq => HQ.out q (Nat.zero_le _) (by rw [← HDl2.out]; exact hq))
                      have h1 := H2.out.da.2
                      have h2 := H2.out.db.2
                      rw [← e] at h1
                      rw [← h1, ← h2]
                      exact Nat.le_refl _
                    · obtain ⟨s, rfl⟩ : ∃ s, r = s + 1 := ⟨r - 1, by omega⟩
                      obtain rfl : y = (s : Int) := by omega
                      obtain ⟨ba, oa, rfl, hxa⟩ := (HRa.out.below HB6.out).2 (by omega)
                      obtain ⟨bb, ob, rfl, hxb⟩ := (HRb.out.below HB6.out).2 (by omega)
                      have za := hxa s (by omega)
                      have zb := hxb s (by omega)
                      rw [nz_rd] at za zb
                      obtain ⟨da, hda⟩ : ∃ da, da = D.getD s 0 := ⟨_, rfl⟩
                      obtain ⟨db, hdb⟩ : ∃ db, db = E.getD s 0 := ⟨_, rfl⟩
                      rw [← hda] at za
                      rw [← hdb] at zb
                      have Hda := Lib.hid hda
                      have Hdb := Lib.hid hdb
                      clear hxa hxb hda hdb hy
                      by_cases hab : da = db
                      · have hq : ((da : Int) != (db : Int)) = false := by simp [hab]
                        have Hab := Lib.hid hab
                        clear hab
                        go_wp2
                        go_region
                        go_wp2
                        go_roundg (gk - 1)
                        case measure => omega
                        case rel =>
                          refine ⟨s, (s : Int) - 1, by omega, by omega, rfl, rfl, Lib.hid (fun q h1 h2 => ?_), Lib.hid HB6.out.drew⟩
                          rcases Nat.lt_or_ge s q with h | h
                          · exact HQ.out q h h2
                          · obtain rfl : q = s := by omega
                            rw [← Hda.out, ← Hdb.out]
                            exact Hab.out
                      · have hq : ((da : Int) != (db : Int)) = true := by simp; omega
                        have Hab := Lib.hid hab
                        clear hab
                        go_wp2
                        go_region
                        go_wp2
                        go_region
                        go_wp2
                        go_ret
                        refine ⟨_, rfl, Lib.hid ?_, below_seq H2.out.bel (Nat.le_refl _) HB6.out.drew.drew⟩
                        rw [← H2.out.da.2, ← H2.out.db.2, decide_eq_true_iff]
                        rcases Nat.lt_trichotomy da db with h | h | h
                        · have := digV_cmp (by rw [HDl2.out, HEl2.out]) H2.out.db.1 H2.out.da.1 (i := s) (by rw [HDl2.out]; omega) (fun q h1 h2 => HQ.out q h1 (by rw [← HDl2.out]; exact h2)) (by rw [← Hda.out, ← Hdb.out]; exact h)
                          exact ⟨fun _ => Nat.le_of_lt this, fun _ => by omega⟩
                        · exact absurd h Hab.out
                        · have := digV_cmp (by rw [HDl2.out, HEl2.out]) H2.out.da.1 H2.out.db.1 (i := s) (by rw [HEl2.out]; omega) (fun q h1 h2 => (HQ.out q h1 (by rw [← HEl2.out]; exact h2)).symm) (by rw [← Hda.out, ← Hdb.out]; exact h)
                          exact ⟨fun h9 => by omega, fun h9 => by omega⟩
end Go.Proofs.YtendohnkhbgfbaaDoor
/-
  The walks of the reference's root, turn, shift.
-/
namespace Go.Proofs.YtendohnkhbgfbaaDoor
open Go.RowKit

set_option maxHeartbeats 1000000 in
set_option maxRecDepth 100000 in
theorem root_calls (p k r : Nat) (w : World) (hp : p < 65536) (hk : k ≤ 3) (hk1 : 1 ≤ k) (hlo : p * 65536 ^ (2 * k) < 68719476736 ^ k) (hr : IsRoot p k r) :
    Calls Tryd.prog 68 #[.int .u64 p, .int .i64 k] w fun e w' => e = .returned (.int .u32 ((r % 4294967296 : Nat) : Int)) ∧ Below w.heap.size w w' := by
  have Hlo := Lib.hid hlo
  have Hr := Lib.hid hr
  clear hlo hr
  go_enter Tryd.func68, Tryd.ntmps68
  go_wp2_with fail
  go_loopw [5, 6] (fun lo hi wr => ∃ a b : Nat, lo = .int .u64 a ∧ hi = .int .u64 b ∧ a < b ∧ b ≤ 68719476736 ∧ Hid (a ^ k ≤ p * 65536 ^ (2 * k)) ∧ Hid (p * 65536 ^ (2 * k) < b ^ k) ∧ Hid (Below w.heap.size w wr)) (fun lo hi _ => (intOf hi - intOf lo).toNat)
  case atStart => exact ⟨0, 68719476736, rfl, rfl, by omega, Nat.le_refl _, Lib.hid (by rw [Nat.zero_pow (by omega)]; exact Nat.zero_le _), Hlo, Lib.hid (Below.refl _ _)⟩
  case round =>
    obtain ⟨a, b, rfl, rfl, hab, hb, Ha, Hb, HB⟩ := hrel
    obtain ⟨W, hW⟩ : ∃ W, W = wr := ⟨_, rfl⟩
    subst hW
    by_cases hlt : 1 < b - a
    · have h1 : 1 < (b : Int) - (a : Int) := by omega
      obtain ⟨m, hm⟩ : ∃ m, m = (a + b) / 2 := ⟨_, rfl⟩
      have hmi : ((a : Int) + (b : Int)) / 2 = (m : Int) := by omega
      have hm1 : a < m ∧ m < b := by omega
      clear hm
      go_wp2_with fail
      refine (fits_calls m p k W (by omega) hp hk).mono ?_
      rintro e w2 ⟨t, rfl, Ht, hb2⟩
      have HB2 := Lib.hid (below_seq HB.out (Nat.le_refl _) hb2)
      clear hb2
      cases t
      · have hno : p * 65536 ^ (2 * k) < m ^ k := by
          rcases Nat.lt_or_ge (p * 65536 ^ (2 * k)) (m ^ k) with h | h
          · exact h
          · have := Ht.out.2 h; cases this
        have Hno := Lib.hid hno
        clear hno Ht
        go_wp2_with fail
        go_roundw
        case rel =>
          exact ⟨a, m, rfl, rfl, hm1.1, by omega, Ha, Hno, HB2⟩
        case measure => simp [intOf]; omega
      · have Hyes := Lib.hid (Ht.out.1 rfl)
        clear Ht
        go_wp2_with fail
        go_roundw
        case rel => exact ⟨m, b, rfl, rfl, hm1.2, hb, Hyes, Hb, HB2⟩
        case measure => simp [intOf]; omega
    · obtain rfl : b = a + 1 := by omega
      have hra : a = r := IsRoot.same ⟨Ha.out, Hb.out⟩ Hr.out
      go_wp2_with fail
      go_ret
      refine ⟨?_, HB.out⟩
      rw [← hra]
      simp
set_option maxHeartbeats 1000000 in
set_option maxRecDepth 100000 in
theorem turn_calls (x : W32) (n : Nat) (w : World) (hn : n ≤ 31) :
    Calls Tryd.prog 69 #[.int .u32 (wv x), .int .i64 n] w fun e w' => e = .returned (.int .u32 (wv (rotr x n))) ∧ w' = w := by
  go_enter Tryd.func69, Tryd.ntmps69
  go_wp2_with fail
  go_loopw [0, 5] (fun v i wr => ∃ (j : Nat) (y : W32), j ≤ n ∧ i = .int .i64 j ∧ v = .int .u32 (wv y) ∧ Hid (y = rotr x j) ∧ wr = w) (fun _ i _ => n - (intOf i).toNat)
  case atStart => exact ⟨0, x, by omega, rfl, rfl, Lib.hid (rotr_zero x).symm, rfl⟩
  case round =>
    obtain ⟨j, y, hj, rfl, rfl, HY, rfl⟩ := hrel
    by_cases hlt : j < n
    · have hy := wv_rng y
      have ht := turn_one y
      have htr := wv_rng (rotr y 1)
      go_wp2_with fail
      go_roundw
      case rel => exact ⟨j + 1, rotr y 1, by omega, by go_num, rfl, Lib.hid (by rw [HY.out, rotr_step x (by omega)]), trivial⟩
      case measure => simp [intOf]; omega
    · obtain rfl : j = n := by omega
      have hY := HY.out
      subst hY
      go_wp2_with fail
      go_ret
      exact ⟨rfl, rfl⟩
set_option maxHeartbeats 1000000 in
set_option maxRecDepth 100000 in
theorem shift_calls (x : W32) (n : Nat) (w : World) (hn : n ≤ 31) :
    Calls Tryd.prog 70 #[.int .u32 (wv x), .int .i64 n] w fun e w' => e = .returned (.int .u32 (wv (x >>> n))) ∧ w' = w := by
  go_enter Tryd.func70, Tryd.ntmps70
  go_wp2_with fail
  go_loopw [0, 5] (fun v i wr => ∃ (j : Nat) (y : W32), j ≤ n ∧ i = .int .i64 j ∧ v = .int .u32 (wv y) ∧ Hid (y = x >>> j) ∧ wr = w) (fun _ i _ => n - (intOf i).toNat)
  case atStart => exact ⟨0, x, by omega, rfl, rfl, Lib.hid (by simp), rfl⟩
  case round =>
    obtain ⟨j, y, hj, rfl, rfl, HY, rfl⟩ := hrel
    by_cases hlt : j < n
    · have hy := wv_rng y
      have ht : wv y / (2 : Int) = wv (y >>> 1) := wv_shr y 1
      go_wp2_with fail
      go_roundw
      case rel => exact ⟨j + 1, y >>> 1, by omega, by go_num, rfl, Lib.hid (by rw [HY.out, ← BitVec.shiftRight_add]), trivial⟩
      case measure => simp [intOf]; omega
    · obtain rfl : j = n := by omega
      have hY := HY.out
      subst hY
      go_wp2_with fail
      go_ret
      exact ⟨rfl, rfl⟩
end Go.Proofs.YtendohnkhbgfbaaDoor
/-
  The walk of the reference's primes (the first 64).
-/
namespace Go.Proofs.YtendohnkhbgfbaaDoor
open Go.RowKit

theorem sieve_in : ∀ n, ∀ x ∈ sieve n, 2 ≤ x ∧ x < n + 2 := by
  intro n
  induction n with
  | zero => intro x hx; cases hx
  | succ n ih =>
    intro x hx
    rw [sieve] at hx
    split at hx
    · rcases List.mem_append.1 hx with h | h
      · have := ih x h; omega
      · simp at h; omega
    · have := ih x hx; omega
/-- Does none of the first so many divide? -/
def noneD (L : List Nat) (x j : Nat) : Bool := (L.take j).all (fun q => x % q != 0)
theorem noneD_next {L : List Nat} {x j : Nat} (h : j < L.length) : noneD L x (j + 1) = (noneD L x j && (x % L.getD j 0 != 0)) := by
  unfold noneD
  rw [List.take_succ_eq_append_getElem h, List.all_append, List.getD_eq_getElem?_getD, List.getElem?_eq_getElem h]
  simp
theorem noneD_all (L : List Nat) (x : Nat) : noneD L x L.length = L.all (fun q => x % q != 0) := by unfold noneD; rw [List.take_length]
set_option maxHeartbeats 1000000 in
set_option maxRecDepth 100000 in
theorem primes_calls (w : World) :
    Calls Tryd.prog 67 #[.int .i64 64] w fun e w' => ∃ v, e = .returned v ∧ Hid (w'.ownsRow w.heap.size 49 1 v 64 (ints .u64 (nz primeL))) ∧ Below w.heap.size w w' := by
  go_enter Tryd.func67, Tryd.ntmps67
  go_wp2_with fail
  go_loopg [3, 4] 400 (fun g v i wr => ∃ (m x ln : Nat), m + g = 400 ∧ m ≤ 310 ∧ x = m + 2 ∧ i = .int .u64 x ∧ Hid (ln = (sieve m).length) ∧ ln ≤ 64 ∧ Hid (wr.ownsRow w.heap.size 49 1 v ln (ints .u64 (nz (sieve m)))) ∧ Hid (Below w.heap.size w wr))
  case atStart => exact ⟨0, 2, 0, by omega, by omega, rfl, rfl, Lib.hid rfl, by omega, Lib.hid (World.ownsRow_nil _ _ _ _), Lib.hid (Below.refl _ _)⟩
  case round =>
    obtain ⟨m, x, ln, hm, hm2, hx, rfl, HL, hln, HO, HB⟩ := hrel
    obtain ⟨W, hW⟩ : ∃ W, W = wr := ⟨_, rfl⟩
    subst hW
    obtain ⟨A1, c1, e1, hc1, hr1⟩ := own_rd HO.out
    subst e1
    have hszW : w.heap.size ≤ W.heap.size := HB.out.size
    by_cases hlt : ln < 64
    · have hm9 : m ≤ 309 := by
        rcases Nat.lt_or_ge m 310 with h | h
        · omega
        · have h1 := HL.out
          obtain rfl : m = 310 := by omega
          rw [sieve_all] at h1
          have : primeL.length = 64 := rfl
          omega
      have Hx := Lib.hid hx
      have Hr1 := Lib.hid hr1
      have hx3 : x ≤ 311 := by omega
      clear hr1 hx
      go_wp2_with fail
      go_loopw [5, 6] (fun t i wx => ∃ (j : Nat) (q : Bool), j ≤ ln ∧ i = .int .i64 j ∧ t = .bool q ∧ Hid (q = noneD (sieve m) x j) ∧ Hid (wx = W)) (fun _ i _ => ln - (intOf i).toNat)
      case atStart => exact ⟨0, true, by omega, rfl, rfl, Lib.hid rfl, Lib.hid rfl⟩
      case round =>
        obtain ⟨j, q, hj, rfl, rfl, HQ, HW⟩ := hrel
        have hW := HW.out
        subst hW
        obtain ⟨W, hW⟩ : ∃ W, W = wr := ⟨_, rfl⟩
        subst hW
        by_cases hlt2 : j < ln
        · obtain ⟨b0, o0, rfl, hx0⟩ := Hr1.out.2 (by omega)
          have z := hx0 j hlt2
          rw [nz_rd] at z
          have hjl : j < (sieve m).length := by rw [← HL.out]; exact hlt2
          have hnx := noneD_next (x := x) hjl
          have hin := sieve_in m ((sieve m).getD j 0) (by rw [List.getD_eq_getElem?_getD, List.getElem?_eq_getElem hjl]; exact List.getElem_mem hjl)
          obtain ⟨d, hd⟩ : ∃ d, d = (sieve m).getD j 0 := ⟨_, rfl⟩
          rw [← hd] at z hnx hin
          have hd0 : 2 ≤ d := hin.1
          obtain ⟨y, hy⟩ : ∃ y, y = x % d := ⟨_, rfl⟩
          have hyi : (x : Int).tmod (d : Int) = (y : Int) := by rw [hy]; exact (Int.ofNat_tmod x d).symm
          have hyi2 : (x : Int) % (d : Int) = (y : Int) := by rw [hy]; simp
          rw [← hy] at hnx
          have Hnx := Lib.hid hnx
          clear hx0 hnx hin hd hy hjl
          cases q
          · go_wp2_with fail
            go_roundw
            case rel => exact ⟨j + 1, false, by omega, by go_num, rfl, Lib.hid (by rw [Hnx.out, ← HQ.out]; rfl), Lib.hid (by trivial)⟩
            case measure => simp [intOf]; omega
          · by_cases hy0 : y = 0
            · have hq : ((y : Int) != 0) = false := by simp [hy0]
              have Hy0 := Lib.hid hy0
              clear hy0
              go_wp2_with fail
              go_roundw
              case rel => exact ⟨j + 1, false, by omega, by go_num, rfl, Lib.hid (by rw [Hnx.out, Hy0.out]; simp), Lib.hid (by trivial)⟩
              case measure => simp [intOf]; omega
            · have hq : ((y : Int) != 0) = true := by simp [hy0]
              have Hy0 := Lib.hid hy0
              clear hy0
              go_wp2_with fail
              go_roundw
              case rel => exact ⟨j + 1, true, by omega, by go_num, rfl, Lib.hid (by rw [Hnx.out, ← HQ.out]; simp; exact Hy0.out), Lib.hid (by trivial)⟩
              case measure => simp [intOf]; omega
        · obtain rfl : j = ln := by omega
          have hqa : q = (sieve m).all (fun d => (m + 2) % d != 0) := by rw [HQ.out, HL.out, noneD_all, Hx.out]
          have hnx : sieve (m + 1) = if q = true then sieve m ++ [m + 2] else sieve m := by rw [sieve, ← hqa]
          have Hnx := Lib.hid hnx
          have hmono := sieve_mono (show m + 1 ≤ 310 by omega)
          have h64 : (sieve 310).length = 64 := by rw [sieve_all]; rfl
          rw [h64] at hmono
          have Hmono := Lib.hid hmono
          clear hqa hnx hmono h64
          cases q
          · have hs : sieve (m + 1) = sieve m := by rw [Hnx.out]; rfl
            have Hs := Lib.hid hs
            clear hs
            go_wp2_with fail
            go_roundg (gk - 1)
            case measure => omega
            case rel => exact ⟨m + 1, x + 1, j, by omega, by omega, by have := Hx.out; omega, by go_num, Lib.hid (by rw [Hs.out]; exact HL.out), hln, by rw [Hs.out]; exact HO, HB⟩
          · have hs : sieve (m + 1) = sieve m ++ [x] := by rw [Hnx.out, Hx.out]; rfl
            have Hs := Lib.hid hs
            clear hs
            go_wp2_with (at_builtin; refine wpList_app1 rfl _ _ rfl elU64 HO.out rfl rfl rfl rfl (by omega) hszW ?_; intro v5 w5 hown5 hbel5 _; have Hown5 := Lib.hid hown5; have Hbel5 := Lib.hid hbel5; clear hown5 hbel5)
            go_roundg (gk - 1)
            case measure => omega
            case rel =>
              have h5 := Hown5.out
              rw [nz_snoc, ← Hs.out] at h5
              exact ⟨m + 1, x + 1, j + 1, by omega, by omega, by have := Hx.out; omega, by go_num, Lib.hid (by rw [Hs.out, List.length_append, ← HL.out]; rfl), by omega, Lib.hid h5, Lib.hid (HB.out.trans Hbel5.out)⟩
    · obtain rfl : ln = 64 := by omega
      have hs : sieve m = primeL := by
        have h1 := HL.out
        rcases Nat.lt_or_ge m 310 with h | h
        · have h2 := sieve_mono (show m ≤ 309 by omega)
          rw [sieve_309] at h2
          omega
        · obtain rfl : m = 310 := by omega
          exact sieve_all
      rw [hs] at HO
      clear hs hr1 hx
      go_wp2_with fail
      go_ret
      exact ⟨_, rfl, HO, HB.out⟩
end Go.Proofs.YtendohnkhbgfbaaDoor
/-
  The walk of the reference's Tables: the words at first, and the keys.
-/
namespace Go.Proofs.YtendohnkhbgfbaaDoor
open Go.RowKit

theorem elU32 : ElT Tryd.prog 65 81 (.int .u32 0) 1 4 := ⟨Tryd.underlying65, by kernel_rfl, rfl, by decide, by decide⟩
/-- Two rows of words, apart. -/
structure TwoW (B : Nat) (w W : World) (va : Value) (la : Nat) (a : List Int) (vb : Value) (lb : Nat) (b : List Int) : Prop where
  a : W.ownsRow B 81 1 va la (ints .u32 a)
  b : W.ownsRow B 81 1 vb lb (ints .u32 b)
  apart : Apart va.ownBlock vb.ownBlock
  bel : Below B w W
  sz : B ≤ W.heap.size
theorem TwoW.swap {B : Nat} {w W : World} {va vb : Value} {la lb : Nat} {a b : List Int} (h : TwoW B w W va la a vb lb b) : TwoW B w W vb lb b va la a := ⟨h.b, h.a, h.apart.symm, h.bel, h.sz⟩
theorem TwoW.below {B : Nat} {w W W' : World} {va vb : Value} {la lb : Nat} {a b : List Int} (h : TwoW B w W va la a vb lb b) (hb : Below W.heap.size W W') : TwoW B w W' va la a vb lb b :=
  ⟨own_below h.a hb, own_below h.b hb, h.apart, h.bel.trans (hb.mono h.sz), Nat.le_trans h.sz hb.size⟩
theorem TwoW.grow {B : Nat} {w W W' : World} {va vb : Value} {la lb : Nat} {a b : List Int} (h : TwoW B w W va la a vb lb b) {g cap : Nat} {x : Int} (ho : W'.ownsRow B 81 1 (.slice (some ⟨g, 0, none⟩) (la + 1) cap) (la + 1) (ints .u32 a ++ #[Value.int .u32 x].toList)) (hf : Fr W W' [va.ownBlock]) (hat : va.ownBlock = some g ∨ W.heap.size ≤ g) :
    TwoW B w W' (.slice (some ⟨g, 0, none⟩) (la + 1) cap) (la + 1) (a ++ [x]) vb lb b := by
  refine ⟨?_, own_fr h.b hf (fun o ho => by simp at ho; subst ho; exact h.apart.symm), ?_, h.bel.trans (hf.below h.sz (fun o ho j e => by simp at ho; subst ho; exact (h.a.lt j e).1)), Nat.le_trans h.sz hf.size⟩
  · rw [ints_append]
    exact ho
  · intro q hq e
    simp [Value.ownBlock] at hq
    subst hq
    rcases hat with h1 | h1
    · exact h.apart g h1 e
    · have := (h.b.lt g e).2
      omega
theorem lo_two {j : Nat} (h : j < 8) : primeN j * 65536 ^ (2 * 2) < 68719476736 ^ 2 := by
  have h1 : ∀ j, j < 8 → primeN j * 65536 ^ (2 * 2) < 68719476736 ^ 2 := by decide
  exact h1 j h
theorem lo_three {j : Nat} (h : j < 64) : primeN j * 65536 ^ (2 * 3) < 68719476736 ^ 3 := by
  have h1 : ∀ j, j < 64 → primeN j * 65536 ^ (2 * 3) < 68719476736 ^ 3 := by decide
  exact h1 j h
theorem prime_small {j : Nat} (h : j < 64) : primeN j < 65536 := by
  have h1 : ∀ j, j < 64 → primeN j < 65536 := by decide
  exact h1 j h
theorem take_nextI {l : List Int} {j : Nat} (h : j < l.length) : l.take (j + 1) = l.take j ++ [rd l j] := by
  rw [List.take_succ_eq_append_getElem h, rd_getElem h]
set_option maxHeartbeats 1000000 in
set_option maxRecDepth 100000 in
theorem Tables_calls (w : World) :
    Calls Tryd.prog 34 #[] w fun e w' => ∃ va vb, e = .returned (.tuple #[va, vb]) ∧ Hid (w'.ownsRow w.heap.size 81 1 va 8 (ints .u32 firstL)) ∧ Hid (w'.ownsRow w.heap.size 81 1 vb 64 (ints .u32 keyL)) ∧ Below w.heap.size w w' := by
  go_enter Tryd.func34, Tryd.ntmps34
  go_wp2_with fail
  refine (primes_calls w).mono ?_
  rintro e w1 ⟨vp, rfl, HP, hb1⟩
  obtain ⟨Ap, cp, e1, _, hrp⟩ := own_rd HP.out
  subst e1
  obtain ⟨bp, op, rfl, hxp⟩ := hrp.2 (by omega)
  have Hxp := Lib.hid hxp
  have HB1 := Lib.hid hb1
  clear hrp hxp hb1 HP
  go_wp2_with fail
  go_loopw [3, 4, 5] (fun va vb i wr => ∃ (j la : Nat), j ≤ 64 ∧ la = min j 8 ∧ i = .int .i64 j ∧ Hid (TwoW w1.heap.size w1 wr va la (firstL.take j) vb j (keyL.take j))) (fun _ _ i _ => 64 - (intOf i).toNat)
  case atStart => exact ⟨0, 0, by omega, by simp, rfl, Lib.hid ⟨World.ownsRow_nil _ _ _ _, World.ownsRow_nil _ _ _ _, fun k hk => by simp [Value.ownBlock] at hk, Below.refl _ _, Nat.le_refl _⟩⟩
  case round =>
    obtain ⟨j, la, hj, hla, rfl, HT⟩ := hrel
    obtain ⟨W, hW⟩ : ∃ W, W = wr := ⟨_, rfl⟩
    subst hW
    obtain ⟨Aa, ca, ea⟩ := own_slice HT.out.a
    subst ea
    obtain ⟨Ab, cb, eb⟩ := own_slice HT.out.b
    subst eb
    by_cases hlt : j < 64
    · have z := kept_cell HT.out.bel (Hxp.out j hlt)
      rw [nz_rd] at z
      have hpn : primeL.getD j 0 = primeN j := rfl
      rw [hpn] at z
      obtain ⟨p, hp⟩ : ∃ p, p = primeN j := ⟨_, rfl⟩
      rw [← hp] at z
      have HPp := Lib.hid hp
      have hpl := prime_small hlt
      rw [← hp] at hpl
      clear hp hpn
      by_cases h8 : j < 8
      · obtain rfl : la = j := by omega
        clear hla
        go_wp2_with fail
        refine (root_calls p 2 (rootsTwo.getD la 0) W hpl (by omega) (by omega) (by rw [HPp.out]; exact lo_two h8) (by rw [HPp.out]; exact (root_two h8).1)).mono ?_
        rintro e w3 ⟨rfl, hb3⟩
        rw [(root_two h8).2]
        obtain ⟨x, hx⟩ : ∃ x, x = rd firstL la := ⟨_, rfl⟩
        rw [← hx]
        have Hx := Lib.hid hx
        have H3 := Lib.hid (HT.out.below hb3)
        have hs3 := H3.out.sz
        clear hx hb3
        go_wp2_with (at_builtin; refine wpList_app3 rfl _ _ rfl elU32 H3.out.a rfl rfl rfl rfl rfl (by omega) hs3 ?_; intro g5 c5 w5 ho5 hf5 hat5 _; have H5 := Lib.hid (H3.out.grow ho5 hf5 hat5); have z := kept_cell H5.out.bel (Hxp.out la hlt); rw [nz_rd, show primeL.getD la 0 = primeN la from rfl, ← HPp.out] at z; clear ho5 hf5 hat5)
        refine (root_calls p 3 (rootsThree.getD la 0) _ hpl (by omega) (by omega) (by rw [HPp.out]; exact lo_three hlt) (by rw [HPp.out]; exact (root_three hlt).1)).mono ?_
        rintro e w6 ⟨rfl, hb6⟩
        rw [(root_three hlt).2]
        obtain ⟨y, hy⟩ : ∃ y, y = rd keyL la := ⟨_, rfl⟩
        rw [← hy]
        have Hy := Lib.hid hy
        have H6 := Lib.hid (H5.out.below hb6)
        have hs6 := H6.out.sz
        clear hy hb6
        go_wp2_with (at_builtin; refine wpList_app3 rfl _ _ rfl elU32 H6.out.b rfl rfl rfl rfl rfl (by omega) hs6 ?_; intro g7 c7 w7 ho7 hf7 hat7 _; have H7 := Lib.hid (H6.out.swap.grow ho7 hf7 hat7).swap; clear ho7 hf7 hat7)
        go_roundw
        case rel =>
          refine ⟨la + 1, la + 1, by omega, by omega, by go_num, ?_⟩
          have h9 := H7.out
          rw [Hy.out, ← take_nextI (show la < keyL.length from hlt), Hx.out, ← take_nextI (show la < firstL.length from h8)] at h9
          exact Lib.hid h9
        case measure => simp [intOf]; omega
      · have h88 := Lib.hid (show la = 8 by omega)
        have hla8 : la ≤ 8 := by omega
        clear hla
        go_wp2_with fail
        refine (root_calls p 3 (rootsThree.getD j 0) _ hpl (by omega) (by omega) (by rw [HPp.out]; exact lo_three hlt) (by rw [HPp.out]; exact (root_three hlt).1)).mono ?_
        rintro e w6 ⟨rfl, hb6⟩
        rw [(root_three hlt).2]
        obtain ⟨y, hy⟩ : ∃ y, y = rd keyL j := ⟨_, rfl⟩
        rw [← hy]
        have Hy := Lib.hid hy
        have H6 := Lib.hid (HT.out.below hb6)
        have hs6 := H6.out.sz
        clear hy hb6
        go_wp2_with (at_builtin; refine wpList_app3 rfl _ _ rfl elU32 H6.out.b rfl rfl rfl rfl rfl (by omega) hs6 ?_; intro g7 c7 w7 ho7 hf7 hat7 _; have H7 := Lib.hid (H6.out.swap.grow ho7 hf7 hat7).swap; clear ho7 hf7 hat7)
        go_roundw
        case rel =>
          refine ⟨j + 1, la, by omega, by have := h88.out; omega, by go_num, ?_⟩
          have h9 := H7.out
          rw [Hy.out, ← take_nextI (show j < keyL.length from hlt), show firstL.take j = firstL.take (j + 1) by rw [List.take_of_length_le (show firstL.length ≤ j by show 8 ≤ j; omega), List.take_of_length_le (show firstL.length ≤ j + 1 by show 8 ≤ j + 1; omega)]] at h9
          exact Lib.hid h9
        case measure => simp [intOf]; omega
    · obtain rfl : j = 64 := by omega
      obtain rfl : la = 8 := by omega
      have Ha := Lib.hid (own_mono HT.out.a HB1.out.size)
      have Hb := Lib.hid (own_mono HT.out.b HB1.out.size)
      have Hbb := Lib.hid (below_seq HB1.out (Nat.le_refl _) HT.out.bel)
      clear hla HT
      go_wp2_with fail
      refine bodyPost_ret (v := .tuple #[.slice Aa 8 ca, .slice Ab 64 cb]) (by simp [results, Tryd.results34, go_sem]) rfl ⟨_, _, rfl, Ha, Hb, Hbb.out⟩
end Go.Proofs.YtendohnkhbgfbaaDoor
/-
  The loops of a function's code, taken out of it (for great functions cut into declarations).
-/
namespace Go.Proofs.YtendohnkhbgfbaaDoor
open Go.RowKit

/-- The bodies of the loops that stand in no other loop, in order. -/
def loopsOf : Code → List Code
  | .loop c => [c]
  | .seq a b => loopsOf a ++ loopsOf b
  | .block _ c => loopsOf c
  | .cond _ a b => loopsOf a ++ loopsOf b
  | _ => []
noncomputable def shaLoops : List Code := loopsOf (Tryd.f35.body.getD .skip)
theorem shaLoops_four : shaLoops.length = 4 := by kernel_rfl
noncomputable def shaBlock : Code := shaLoops.getD 2 .skip
theorem shaBlock_two : (loopsOf shaBlock).length = 2 := by kernel_rfl
noncomputable def shaWords : Code := (loopsOf shaBlock).getD 0 .skip
noncomputable def shaRounds : Code := (loopsOf shaBlock).getD 1 .skip
end Go.Proofs.YtendohnkhbgfbaaDoor
