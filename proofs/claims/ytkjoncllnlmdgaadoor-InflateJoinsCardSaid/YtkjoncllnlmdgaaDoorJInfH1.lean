/-
  Texts joined into one file: InfP, List, HuffR, RefN, HuffS.
-/
import Derived.Test.YtkjoncllnlmdgaaDoorJAw910
import Derived.Test.YtkjoncllnlmdgaaDoorJAw91
import Derived.Test.YtkjoncllnlmdgaaDoorJAw92
import Derived.Test.YtkjoncllnlmdgaaDoorJAw95
import Derived.Deep.LoopGhost
import Derived.Test.YtkjoncllnlmdgaaDoorJAw94
import Derived.IntWalk
import Derived.BigQuiet
/-
  What opening bits tells (no program).
-/
namespace Go.Proofs.YtkjoncllnlmdgaaDoor
open Go.RowKit

/-- What a step tells, again and again. -/
def iter {σ ρ : Type} (step : σ → σ ⊕ ρ) : Nat → σ → Option ρ
  | 0, _ => none
  | f + 1, s => match step s with
    | .inr r => some r
    | .inl s' => iter step f s'
theorem iter_mono {σ ρ : Type} {step : σ → σ ⊕ ρ} : ∀ {f : Nat} {s : σ} {r : ρ}, iter step f s = some r → ∀ f', f ≤ f' → iter step f' s = some r := by
  intro f
  induction f with
  | zero => intro s r h; simp [iter] at h
  | succ f ih =>
    intro s r h f' hf
    obtain ⟨g, rfl⟩ : ∃ g, f' = g + 1 := ⟨f' - 1, by omega⟩
    unfold iter at h ⊢
    cases hs : step s with
    | inr r2 => rw [hs] at h; exact h
    | inl s2 => rw [hs] at h; exact ih h g (by omega)
theorem iter_inr {σ ρ : Type} {step : σ → σ ⊕ ρ} {s : σ} {r : ρ} (h : step s = .inr r) (f : Nat) : iter step (f + 1) s = some r := by unfold iter; rw [h]
theorem iter_inl {σ ρ : Type} {step : σ → σ ⊕ ρ} {s s' : σ} (h : step s = .inl s') (f : Nat) : iter step (f + 1) s = iter step f s' := by rw [iter, h]
/-- With a measure that falls it ends. -/
theorem iter_total {σ ρ : Type} {step : σ → σ ⊕ ρ} (m : σ → Nat) (hm : ∀ s s', step s = .inl s' → m s' < m s) : ∀ f s, m s < f → ∃ r, iter step f s = some r := by
  intro f
  induction f with
  | zero => intro s h; omega
  | succ f ih =>
    intro s h
    cases hs : step s with
    | inr r => exact ⟨r, iter_inr hs f⟩
    | inl s' =>
      rw [iter_inl hs]
      exact ih s' (by have := hm s s' hs; omega)
/-- Where it stands and what was told, or the first error. -/
abbrev Res := Except Int (Nat × List Int)
def numS (bs : List Int) (T q n : Nat) : Except Int (Nat × Nat) := if q + n ≤ T then .ok (numAt bs q n, q + n) else .error 2
def symN (xs bs : List Int) (T q : Nat) : Except Int (Nat × Nat) := match nextS xs bs q (T - q) with
  | some s => .ok (s, q + (rd xs s).toNat)
  | none => .error (if T - q < 15 then 2 else 3)
/-- What lies so far back, again so many times. -/
def copyT (d : Nat) : Nat → List Int → List Int
  | 0, o => o
  | n + 1, o => copyT d n (o ++ [rd o (o.length - d)])
theorem copyT_length (d : Nat) : ∀ n o, (copyT d n o).length = o.length + n := by
  intro n
  induction n with
  | zero => intro o; rfl
  | succ n ih => intro o; rw [copyT, ih, List.length_append]; simp; omega
theorem copyT_succ (d : Nat) : ∀ n o, copyT d (n + 1) o = copyT d n o ++ [rd (copyT d n o) ((copyT d n o).length - d)] := by
  intro n
  induction n with
  | zero => intro o; rfl
  | succ n ih => intro o; rw [copyT, ih (o ++ _)]; rfl
def rightT (b l d : Int) (n : Nat) : Bool := if l = 0 then decide (d = 0) else decide (b = 0 ∧ 3 ≤ l ∧ l ≤ 258 ∧ 1 ≤ d ∧ d ≤ 32768 ∧ d ≤ n)
def addT (b l d : Int) (o : List Int) : List Int := if l = 0 then o ++ [b] else copyT d.toNat l.toNat o
def addS (most : Int) (b l d : Int) (o : List Int) : Except Int (List Int) :=
  if rightT b l d o.length = false then .error 3 else if most < o.length + max l 1 then .error 4 else .ok (addT b l d o)
def addR (most : Int) (b l d : Int) (q : Nat) (o : List Int) : Res := match addS most b l d o with
  | .error e => .error e
  | .ok o' => .ok (q, o')
theorem addR_ok {most b l d : Int} {q : Nat} {o o' : List Int} (h : addS most b l d o = .ok o') : addR most b l d q o = .ok (q, o') := by unfold addR; rw [h]
theorem addR_err {most b l d : Int} {q : Nat} {o : List Int} {c : Int} (h : addS most b l d o = .error c) : addR most b l d q o = .error c := by unfold addR; rw [h]
/-- What is added to a distance, and the token. -/
def distL (bs : List Int) (T : Nat) (most L least : Int) (nb q : Nat) (o : List Int) : Res := match numS bs T q nb with
  | .error e => .error e
  | .ok (y, q3) => addR most 0 L (least + y) q3 o
/-- A distance's symbol, and what follows. -/
def distS (bs : List Int) (T : Nat) (most : Int) (ys : List Int) (L : Int) (q : Nat) (o : List Int) : Res :=
  if rightB ys = false then .error 3 else
  match symN ys bs T q with
  | .error e => .error e
  | .ok (d, q2) => if 30 ≤ d then .error 3 else distL bs T most L (rowL dists d) (rowB dists d).toNat q2 o
/-- What is added to a length, and what follows. -/
def matchL (bs : List Int) (T : Nat) (most : Int) (ys : List Int) (least : Int) (nb q : Nat) (o : List Int) : Res := match numS bs T q nb with
  | .error e => .error e
  | .ok (x, q1) => distS bs T most ys (least + x) q1 o
/-- A length's symbol, and what follows. -/
def matchS (bs : List Int) (T : Nat) (most : Int) (ys : List Int) (s q : Nat) (o : List Int) : Res :=
  if s ≤ 256 ∨ 286 ≤ s then .error 3 else matchL bs T most ys (rowL lens (s - 257)) (rowB lens (s - 257)).toNat q o
theorem numS_ok {bs : List Int} {T q n : Nat} (h : q + n ≤ T) : numS bs T q n = .ok (numAt bs q n, q + n) := by unfold numS; rw [if_pos h]
theorem numS_no {bs : List Int} {T q n : Nat} (h : T < q + n) : numS bs T q n = .error 2 := by unfold numS; rw [if_neg (by omega)]
theorem matchL_ok {bs : List Int} {T : Nat} {most : Int} {ys : List Int} {least : Int} {nb q : Nat} {o : List Int} (h : q + nb ≤ T) : matchL bs T most ys least nb q o = distS bs T most ys (least + numAt bs q nb) (q + nb) o := by unfold matchL; rw [numS_ok h]
theorem matchL_no {bs : List Int} {T : Nat} {most : Int} {ys : List Int} {least : Int} {nb q : Nat} {o : List Int} (h : T < q + nb) : matchL bs T most ys least nb q o = .error 2 := by unfold matchL; rw [numS_no h]
theorem distL_ok {bs : List Int} {T : Nat} {most L least : Int} {nb q : Nat} {o : List Int} (h : q + nb ≤ T) : distL bs T most L least nb q o = addR most 0 L (least + numAt bs q nb) (q + nb) o := by unfold distL; rw [numS_ok h]
theorem distL_no {bs : List Int} {T : Nat} {most L least : Int} {nb q : Nat} {o : List Int} (h : T < q + nb) : distL bs T most L least nb q o = .error 2 := by unfold distL; rw [numS_no h]
theorem distS_nil {bs : List Int} {T : Nat} {most : Int} {ys : List Int} {L : Int} {q : Nat} {o : List Int} (h : rightB ys = false) : distS bs T most ys L q o = .error 3 := by unfold distS; rw [if_pos h]
theorem distS_err {bs : List Int} {T : Nat} {most : Int} {ys : List Int} {L : Int} {q : Nat} {o : List Int} {c : Int} (h : rightB ys = true) (hs : symN ys bs T q = .error c) : distS bs T most ys L q o = .error c := by unfold distS; rw [if_neg (by rw [h]; decide), hs]
theorem distS_far {bs : List Int} {T : Nat} {most : Int} {ys : List Int} {L : Int} {q d q2 : Nat} {o : List Int} (h : rightB ys = true) (hs : symN ys bs T q = .ok (d, q2)) (hd : 30 ≤ d) : distS bs T most ys L q o = .error 3 := by
  unfold distS
  rw [if_neg (by rw [h]; decide), hs]
  simp only [if_pos hd]
theorem distS_ok {bs : List Int} {T : Nat} {most : Int} {ys : List Int} {L : Int} {q d q2 : Nat} {o : List Int} (h : rightB ys = true) (hs : symN ys bs T q = .ok (d, q2)) (hd : d < 30) : distS bs T most ys L q o = distL bs T most L (rowL dists d) (rowB dists d).toNat q2 o := by
  unfold distS
  rw [if_neg (by rw [h]; decide), hs]
  simp only [if_neg (show ¬ 30 ≤ d by omega)]
def codeStep (bs : List Int) (T : Nat) (most : Int) (xs ys : List Int) (p : Nat × List Int) : (Nat × List Int) ⊕ Res :=
  match symN xs bs T p.1 with
  | .error e => .inr (.error e)
  | .ok (s, q) =>
    if s = 256 then .inr (.ok (q, p.2)) else
    if s < 256 then
      match addS most s 0 0 p.2 with
      | .error e => .inr (.error e)
      | .ok o => .inl (q, o)
    else
      match matchS bs T most ys s q p.2 with
      | .error e => .inr (.error e)
      | .ok r => .inl r
def codedS (bs : List Int) (T : Nat) (most : Int) (xs ys : List Int) (q : Nat) (o : List Int) : Res :=
  if rightB xs = false then .error 3 else
  if rightB ys = false ∧ ys.any (fun y => y != 0) = true then .error 3 else
  (iter (codeStep bs T most xs ys) (T + 1) (q, o)).getD (.error 0)
/-- The next byte's first bit. -/
def upTo8 (q : Nat) : Nat := 8 * ((q + 7) / 8)
def storedS (bs : List Int) (T : Nat) (most : Int) (q : Nat) (o : List Int) : Res :=
  if T < upTo8 q + 32 then .error 2 else
  if numAt bs (upTo8 q) 16 ^^^ numAt bs (upTo8 q + 16) 16 ≠ 65535 then .error 3 else
  if most < o.length + numAt bs (upTo8 q) 16 then .error 4 else
  if T < upTo8 q + 32 + 8 * numAt bs (upTo8 q) 16 then .error 2 else
  .ok (upTo8 q + 32 + 8 * numAt bs (upTo8 q) 16, o ++ (bs.drop ((upTo8 q + 32) / 8)).take (numAt bs (upTo8 q) 16))
def blockS (bs : List Int) (T : Nat) (most : Int) (kind q : Nat) (o : List Int) : Res :=
  if kind = 0 then storedS bs T most q o else
  if kind = 1 then codedS bs T most fixA fixB q o else
  if kind = 2 then (match getS bs T q with
    | none => .error 3
    | some (xs, ys, q1) => codedS bs T most xs ys q1 o) else .error 3
def openStep (bs : List Int) (T : Nat) (most : Int) (p : Nat × List Int) : (Nat × List Int) ⊕ Res :=
  if T < p.1 + 3 then .inr (.error 2) else
  match blockS bs T most (numAt bs (p.1 + 1) 2) (p.1 + 3) p.2 with
  | .error e => .inr (.error e)
  | .ok r => if numAt bs p.1 1 = 0 then .inl r else .inr (.ok r)
def openS (bs : List Int) (most : Int) : Res := (iter (openStep bs (8 * bs.length) most) (8 * bs.length + 1) (0, [])).getD (.error 0)
end Go.Proofs.YtkjoncllnlmdgaaDoor
/-
  The walks of again and list (package codes).
-/
namespace Go.Proofs.YtkjoncllnlmdgaaDoor
open Go.RowKit

set_option maxHeartbeats 1000000 in
theorem again_calls (s : Nat) (w : World) (h : 16 ≤ s) (h2 : s ≤ 18) :
    Calls Tryd.prog 76 #[.int .i64 s] w fun e w' => e = .returned (.tuple #[.int .i64 (sizeS s), .int .i64 (leastS s)]) ∧ w = w' := by
  have hc : s = 16 ∨ s = 17 ∨ s = 18 := by omega
  rcases hc with rfl | rfl | rfl
  · go_enter Tryd.func76, Tryd.ntmps76
    go_wp2
    refine bodyPost_ret (v := .tuple #[.int .i64 2, .int .i64 3]) (by simp [results, Tryd.results76, go_sem]) rfl ⟨rfl, rfl⟩
  · go_enter Tryd.func76, Tryd.ntmps76
    go_wp2
    refine bodyPost_ret (v := .tuple #[.int .i64 3, .int .i64 3]) (by simp [results, Tryd.results76, go_sem]) rfl ⟨rfl, rfl⟩
  · go_enter Tryd.func76, Tryd.ntmps76
    go_wp2
    refine bodyPost_ret (v := .tuple #[.int .i64 7, .int .i64 11]) (by simp [results, Tryd.results76, go_sem]) rfl ⟨rfl, rfl⟩
set_option maxHeartbeats 4000000 in
set_option maxRecDepth 100000 in
theorem list_calls (h r base : Nat) (A : Option Addr) (len cap p n : Nat) (xs bs : List Int) (w : World) (hC : Coder w base h xs) (hxs : xs.length ≤ 19) (hR : RdrAt w r A len cap p) (hB : Rd w .u8 A len bs) (hb : ∀ j, j < len → 0 ≤ rd bs j ∧ rd bs j ≤ 255) (hne : ∀ b o, A = some ⟨b, o, none⟩ → b ≠ r) (hlen : len ≤ 1000000) (hp : p ≤ 8 * len) (hhr : h ≠ r) (hn : n ≤ 1000) :
    Calls Tryd.prog 41 #[.pointer (some ⟨r, 0, none⟩), .pointer (some ⟨h, 0, none⟩), .int .i64 n] w fun e w' =>
      ((∃ l q v, listS xs bs (8 * len) n (n + 1) p [] = some (l, q) ∧ e = .returned (.tuple #[v, .bool true]) ∧ w'.ownsRow w.heap.size 3 1 v n (ints .i64 l) ∧ RdrAt w' r A len cap q) ∨
       (listS xs bs (8 * len) n (n + 1) p [] = none ∧ e = .returned (.tuple #[.slice none 0 0, .bool false]) ∧ ∃ q, q ≤ 8 * len ∧ RdrAt w' r A len cap q)) ∧ w.grownBy w' (some r) := by
  have HC := Lib.hid hC
  have HR := Lib.hid hR
  have HB := Lib.hid hB
  have Hb := Lib.hid hb
  have hrl := hR.lt
  obtain ⟨R, hRR⟩ : ∃ R, listS xs bs (8 * len) n (n + 1) p [] = R := ⟨_, rfl⟩
  have HRl : Hid (∀ l q, R = some (l, q) → l.length = n) := fun l q e => (listS_len (out := []) (by simp) hp (hRR.trans e)).1
  rw [hRR]
  have HRR := Lib.hid hRR
  clear hC hR hB hb hRR
  go_enter Tryd.func41, Tryd.ntmps41
  go_wp2
  go_loopg [8] (n + 1) (fun g v wr => ∃ (out : List Int) (q : Nat), Hid (listS xs bs (8 * len) n g q out = R) ∧ out.length ≤ n ∧ n < out.length + g ∧ q ≤ 8 * len ∧ Hid (wr.ownsRow w.heap.size 3 1 v out.length (ints .i64 out)) ∧ Hid (RdrAt wr r A len cap q) ∧ Hid (w.grownBy wr (some r)))
  case atStart => exact ⟨[], p, HRR.out, by simp, by simp, hp, World.ownsRow_nil _ _ _ _, HR.out, grown_refl _ _⟩
  case round =>
    obtain ⟨out, q, HL, hol, hg, hq, Hown, HRd, Hg⟩ := hrel
    obtain ⟨g, hg'⟩ : ∃ g, gk = g + 1 := ⟨gk - 1, by omega⟩
    rw [hg'] at HL
    have hsz := Hg.out.size
    obtain ⟨A1, c1, rfl⟩ := own_slice Hown.out
    by_cases hlt : out.length < n
    · have hn0 : ¬ n ≤ out.length := by omega
      go_wp2_with fail
      refine (Next_hit h r base A len cap q xs bs _ (HC.out.grown HR.out Hg.out hhr) (by omega) HRd.out (HB.out.grown Hg.out hne) Hb.out hne hlen hq hhr).mono ?_
      rintro e wa ⟨hx, hga⟩
      have Hga := Lib.hid (grown_trans Hg.out hga)
      have Hown2 := Lib.hid (Hown.out.kept hga (.inr (own_ne HRd.out (by decide) Hown.out)))
      have hsza := Hga.out.size
      clear hga
      rcases hx with ⟨s, hs, rfl, hra⟩ | ⟨hno, rfl, q', hq', hra⟩
      · have Hra := Lib.hid hra
        have Hs := Lib.hid hs
        have hs19 : s < 19 := by have := hs.1; omega
        have hm := hs.2.2.2.1
        obtain ⟨L, hL⟩ : ∃ L, L = (rd xs s).toNat := ⟨_, rfl⟩
        rw [← hL] at Hra hm
        have HLn := Lib.hid hL
        clear hs hra hL
        by_cases h16 : s < 16
        · have HL2 := listS_low hn0 Hs.out h16 (f := g)
          rw [HL.out, ← HLn.out] at HL2
          have HL3 := Lib.hid HL2.symm
          clear HL2
          go_wp2_with (at_builtin; refine wpList_app3 rfl _ _ rfl elIntN Hown2.out rfl rfl rfl rfl rfl (by omega) hsza ?_; intro g7 cap7 w7 hown7 hfr7 hat7 hlt7)
          have hra7 := Hra.out.fr hfr7 (fun o ho e => by simp at ho; subst ho; exact own_ne Hra.out (by decide) Hown2.out e)
          have hg7 := grown_fr Hga.out hfr7 (own_far Hown2.out (Nat.le_refl _))
          go_roundg g
          case measure => omega
          case rel => exact ⟨out ++ [(s : Int)], q + L, HL3.out, by simp; omega, by simp; omega, by omega, by rw [List.length_append, ints_append]; exact hown7, hra7, hg7⟩
        · have hag : 16 ≤ s := by omega
          go_wp2_with fail
          refine (again_calls s _ hag (by omega)).mono ?_
          rintro e wb ⟨rfl, rfl⟩
          have hsz1 := sizeS_le s
          obtain ⟨Z, hZ⟩ : ∃ Z, Z = sizeS s := ⟨_, rfl⟩
          obtain ⟨M, hM⟩ : ∃ M, M = leastS s := ⟨_, rfl⟩
          have hM1 := leastS_le s
          rw [← hZ] at hsz1 ⊢
          rw [← hM] at hM1 ⊢
          have HZ := Lib.hid hZ
          have HM := Lib.hid hM
          clear hZ hM
          by_cases hT : q + L + Z ≤ 8 * len
          · go_wp2_with fail
            refine (Bits_calls r A len cap (q + L) Z bs _ Hra.out (HB.out.grown Hga.out hne) Hb.out hne (by omega) (by omega) (by omega) hT).mono ?_
            rintro e wc ⟨rfl, hrc, hgc⟩
            have Hgc := Lib.hid (grown_trans Hga.out hgc)
            have Hown3 := Lib.hid (Hown2.out.kept hgc (.inr (own_ne Hra.out (by decide) Hown2.out)))
            have Hrc := Lib.hid hrc
            have hszc := Hgc.out.size
            have hxm := numAt_size bs (q + L) s
            obtain ⟨X, hX⟩ : ∃ X, X = numAt bs (q + L) Z := ⟨_, rfl⟩
            rw [← HZ.out, ← hX] at hxm
            rw [← hX]
            have HX : Hid (manyS bs (q + L) s = M + X) := by
              show manyS bs (q + L) s = M + X
              unfold manyS
              rw [hX, HZ.out, HM.out]
            clear hX hgc hrc
            by_cases h0 : s = 16 ∧ out.length = 0
            · have hRn : R = none := by rw [← HL.out]; exact listS_first hn0 Hs.out h0.1 h0.2
              have HRn := Lib.hid hRn
              obtain ⟨rfl, h00⟩ := h0
              rw [h00] at hn0 hlt ⊢
              clear hRn
              go_wp2
              refine bodyPost_ret (v := .tuple #[.slice none 0 0, .bool false]) (by simp [results, Tryd.results41, go_sem]) rfl ⟨.inr ⟨HRn.out, rfl, _, hT, Hrc.out⟩, Hgc.out⟩
            · have hlo : (s = 16 ∧ 0 < out.length) ∨ s ≠ 16 := by omega
              by_cases hmany : n < out.length + (M + X)
              · have hRn : R = none := by rw [← HL.out]; exact listS_long hn0 Hs.out h16 (by rw [← HLn.out, HX.out]; exact hmany)
                have HRn := Lib.hid hRn
                clear hRn
                rcases hlo with ⟨rfl, h00⟩ | h00
                · obtain ⟨ga, ca, e7, _, _, _, hac, _⟩ := own_form Hown3.out (by omega)
                  cases e7
                  have z := hac (out.length - 1) _ (ints_get (by omega))
                  have s9 : ((out.length : Int) - 1).toNat = out.length - 1 := by omega
                  have hneq : ((out.length : Int) == 0) = false := by rw [beq_eq_false_iff_ne]; omega
                  clear hac
                  go_wp2
                  refine bodyPost_ret (v := .tuple #[.slice none 0 0, .bool false]) (by simp [results, Tryd.results41, go_sem]) rfl ⟨.inr ⟨HRn.out, rfl, _, hT, Hrc.out⟩, Hgc.out⟩
                · have hneq : ((s : Int) == 16) = false := by simp; omega
                  go_wp2
                  refine bodyPost_ret (v := .tuple #[.slice none 0 0, .bool false]) (by simp [results, Tryd.results41, go_sem]) rfl ⟨.inr ⟨HRn.out, rfl, _, hT, Hrc.out⟩, Hgc.out⟩
              · have HL2 := listS_more hn0 Hs.out h16 h0 (by rw [← HLn.out, ← HZ.out]; omega) (by rw [← HLn.out, HX.out]; exact hmany) (f := g)
                rw [HL.out, ← HLn.out, HX.out, ← HZ.out] at HL2
                have HL3 := Lib.hid HL2.symm
                clear HL2
                rcases hlo with ⟨h16e, h00⟩ | h00
                · obtain ⟨ga, ca, e7, _, _, _, hac, _⟩ := own_form Hown3.out (by omega)
                  cases e7
                  have z := hac (out.length - 1) _ (ints_get (by omega))
                  have s9 : ((out.length : Int) - 1).toNat = out.length - 1 := by omega
                  have hneq : ((out.length : Int) == 0) = false := by rw [beq_eq_false_iff_ne]; omega
                  have hv : rd out (out.length - 1) = valueS out s := by unfold valueS; rw [if_pos h16e]
                  obtain ⟨V, hV⟩ : ∃ V, V = valueS out s := ⟨_, rfl⟩
                  rw [hv, ← hV] at z
                  rw [← hV] at HL3
                  subst h16e
                  clear hac hv hV
                  go_wp2
                  go_loopg [8, 72] (M + X) (fun g2 v i wy => ∃ j : Nat, j + g2 = M + X ∧ i = .int .i64 j ∧ Hid (wy.ownsRow w.heap.size 3 1 v (out.length + j) (ints .i64 (out ++ List.replicate j V))) ∧ Hid (RdrAt wy r A len cap (q + L + Z)) ∧ Hid (w.grownBy wy (some r)))
                  case atStart => exact ⟨0, by omega, rfl, by rw [List.replicate_zero, List.append_nil]; exact Hown3.out, Hrc.out, Hgc.out⟩
                  case round =>
                    obtain ⟨j, hj, rfl, Hoy, Hry, Hgy⟩ := hrel
                    have hszy := Hgy.out.size
                    obtain ⟨A5, c5, rfl⟩ := own_slice Hoy.out
                    by_cases hlt5 : j < M + X
                    · go_wp2_with (at_builtin; refine wpList_app3 rfl _ _ rfl elIntN Hoy.out rfl rfl rfl rfl rfl (by omega) hszy ?_; intro g7 cap7 w7 hown7 hfr7 hat7 hlt7)
                      have hra7 := Hry.out.fr hfr7 (fun o ho e => by simp at ho; subst ho; exact own_ne Hry.out (by decide) Hoy.out e)
                      have hg7 := grown_fr Hgy.out hfr7 (own_far Hoy.out (Nat.le_refl _))
                      go_roundg (gk - 1)
                      case measure => omega
                      case rel => exact ⟨j + 1, by omega, by go_num, by rw [List.replicate_succ', ← List.append_assoc, ints_append]; exact hown7, hra7, hg7⟩
                    · obtain rfl : j = M + X := by omega
                      go_wp2
                      go_roundg g
                      case measure => omega
                      case rel => exact ⟨out ++ List.replicate (M + X) V, q + L + Z, HL3.out, by simp; omega, by simp; omega, hT, by rw [List.length_append, List.length_replicate]; exact Hoy.out, Hry.out, Hgy.out⟩
                · have hneq : ((s : Int) == 16) = false := by simp; omega
                  have hv : valueS out s = 0 := by unfold valueS; rw [if_neg h00]
                  rw [hv] at HL3
                  obtain ⟨V, hV⟩ : ∃ V : Int, V = 0 := ⟨_, rfl⟩
                  rw [← hV] at HL3
                  clear hv
                  go_wp2
                  go_loopg [8, 72] (M + X) (fun g2 v i wy => ∃ j : Nat, j + g2 = M + X ∧ i = .int .i64 j ∧ Hid (wy.ownsRow w.heap.size 3 1 v (out.length + j) (ints .i64 (out ++ List.replicate j V))) ∧ Hid (RdrAt wy r A len cap (q + L + Z)) ∧ Hid (w.grownBy wy (some r)))
                  case atStart => exact ⟨0, by omega, rfl, by rw [List.replicate_zero, List.append_nil]; exact Hown3.out, Hrc.out, Hgc.out⟩
                  case round =>
                    obtain ⟨j, hj, rfl, Hoy, Hry, Hgy⟩ := hrel
                    have hszy := Hgy.out.size
                    obtain ⟨A5, c5, rfl⟩ := own_slice Hoy.out
                    by_cases hlt5 : j < M + X
                    · go_wp2_with (at_builtin; refine wpList_app3 rfl _ _ rfl elIntN Hoy.out rfl rfl rfl rfl rfl (by omega) hszy ?_; intro g7 cap7 w7 hown7 hfr7 hat7 hlt7)
                      have hra7 := Hry.out.fr hfr7 (fun o ho e => by simp at ho; subst ho; exact own_ne Hry.out (by decide) Hoy.out e)
                      have hg7 := grown_fr Hgy.out hfr7 (own_far Hoy.out (Nat.le_refl _))
                      go_roundg (gk - 1)
                      case measure => omega
                      case rel => exact ⟨j + 1, by omega, by go_num, by rw [List.replicate_succ', ← List.append_assoc, ints_append]; rw [hV] at hown7 ⊢; exact hown7, hra7, hg7⟩
                    · obtain rfl : j = M + X := by omega
                      go_wp2
                      go_roundg g
                      case measure => omega
                      case rel => exact ⟨out ++ List.replicate (M + X) V, q + L + Z, HL3.out, by simp; omega, by simp; omega, hT, by rw [List.length_append, List.length_replicate]; exact Hoy.out, Hry.out, Hgy.out⟩
          · have hRn : R = none := by rw [← HL.out]; exact listS_short hn0 Hs.out h16 (by rw [← HLn.out, ← HZ.out]; omega)
            have HRn := Lib.hid hRn
            clear hRn
            go_wp2_with fail
            refine (BitsShort_calls r A len cap (q + L) Z _ Hra.out (by omega) (by omega) (by omega) (by omega)).mono ?_
            rintro e wc ⟨rfl, hbc⟩
            have Hgc := Lib.hid (grown_below Hga.out hbc)
            have Hrc := Lib.hid (Hra.out.keep hbc)
            have Hown3 := Lib.hid (own_below Hown2.out hbc)
            clear hbc
            have hlo : (s = 16 ∧ out.length = 0) ∨ (s = 16 ∧ 0 < out.length) ∨ s ≠ 16 := by omega
            rcases hlo with ⟨rfl, h00⟩ | ⟨rfl, h00⟩ | h00
            · rw [h00] at hn0 hlt ⊢
              go_wp2
              refine bodyPost_ret (v := .tuple #[.slice none 0 0, .bool false]) (by simp [results, Tryd.results41, go_sem]) rfl ⟨.inr ⟨HRn.out, rfl, q + L, by omega, Hrc.out⟩, Hgc.out⟩
            · obtain ⟨ga, ca, e7, _, _, _, hac, _⟩ := own_form Hown3.out (by omega)
              cases e7
              have z := hac (out.length - 1) _ (ints_get (by omega))
              have s9 : ((out.length : Int) - 1).toNat = out.length - 1 := by omega
              have hneq : ((out.length : Int) == 0) = false := by rw [beq_eq_false_iff_ne]; omega
              clear hac
              go_wp2
              refine bodyPost_ret (v := .tuple #[.slice none 0 0, .bool false]) (by simp [results, Tryd.results41, go_sem]) rfl ⟨.inr ⟨HRn.out, rfl, q + L, by omega, Hrc.out⟩, Hgc.out⟩
            · have hneq : ((s : Int) == 16) = false := by simp; omega
              go_wp2
              refine bodyPost_ret (v := .tuple #[.slice none 0 0, .bool false]) (by simp [results, Tryd.results41, go_sem]) rfl ⟨.inr ⟨HRn.out, rfl, q + L, by omega, Hrc.out⟩, Hgc.out⟩
      · have hRn : R = none := by rw [← HL.out]; exact listS_no hn0 hno
        have HRn := Lib.hid hRn
        clear hRn
        go_wp2
        refine bodyPost_ret (v := .tuple #[.slice none 0 0, .bool false]) (by simp [results, Tryd.results41, go_sem]) rfl ⟨.inr ⟨HRn.out, rfl, q', hq', hra⟩, Hga.out⟩
    · have hRn : R = some (out, q) := by rw [← HL.out]; exact listS_done (by omega) (by omega)
      have HRn := Lib.hid hRn
      obtain rfl : n = out.length := by omega
      clear hRn
      go_wp2
      refine bodyPost_ret (v := .tuple #[.slice A1 out.length c1, .bool true]) (by simp [results, Tryd.results41, go_sem]) rfl ⟨.inl ⟨out, q, _, HRn.out, rfl, Hown.out, HRd.out⟩, Hg.out⟩
end Go.Proofs.YtkjoncllnlmdgaaDoor
/-
  The walks of the document's Right and Codes (inkwellref05).
-/
namespace Go.Proofs.YtkjoncllnlmdgaaDoor
open Go.RowKit

/-- Code and last length, ahead of symbol s in the round of length k. -/
def CodeInv (xs : List Int) (k s : Nat) (code : Int) (last : Nat) : Prop :=
  (last = 0 ∧ code = 0 ∧ nextCode xs k s = 0) ∨ (0 < last ∧ last ≤ k ∧ 0 ≤ code ∧ (code + 1) * 2 ^ (k - last) = nextCode xs k s)
theorem CodeInv.miss {xs : List Int} {k s last : Nat} {code : Int} (h : CodeInv xs k s code last) (hs : s < xs.length) (hx : rd xs s ≠ k) : CodeInv xs k (s + 1) code last := by
  have e : nextCode xs k (s + 1) = nextCode xs k s := by unfold nextCode; rw [before_miss xs k s hs hx]
  unfold CodeInv at *
  rw [e]
  exact h
theorem CodeInv.hit {xs : List Int} {k s : Nat} (hs : s < xs.length) (hx : rd xs s = k) (hk : 0 < k) (h0 : 0 ≤ nextCode xs k s) : CodeInv xs k (s + 1) (nextCode xs k s) k := by
  have e : nextCode xs k (s + 1) = nextCode xs k s + 1 := by unfold nextCode; rw [before_hit xs k s hs hx]; omega
  refine .inr ⟨hk, Nat.le_refl _, h0, ?_⟩
  rw [e, Nat.sub_self]
  omega
theorem CodeInv.over {xs : List Int} {k last : Nat} {code : Int} (h : CodeInv xs k xs.length code last) (hk : 0 < k) (hk2 : k < 16) : CodeInv xs (k + 1) 0 code last := by
  have e := nextCode_over xs k hk hk2
  rcases h with ⟨h1, h2, h3⟩ | ⟨h1, h2, h3, h4⟩
  · exact .inl ⟨h1, h2, by rw [e, h3]; rfl⟩
  · refine .inr ⟨h1, by omega, h3, ?_⟩
    rw [e, ← h4, show k + 1 - last = (k - last) + 1 from by omega, Int.pow_succ, ← Int.mul_assoc, Int.mul_comm]

theorem elU64r : ElT Tryd.prog 80 58 (.int .u64 0) 1 8 := elU64
set_option maxHeartbeats 2000000 in
set_option maxRecDepth 200000 in
theorem refCodes_calls (A : Option Addr) (n cap : Nat) (xs : List Int) (w : World) (hR : Rd w .i64 A n xs) (hn : n ≤ 1000000) :
    Calls Tryd.prog 77 #[.slice A n cap] w fun e w' => ∃ v, e = .returned v ∧ w'.ownsRow w.heap.size 58 1 v n (ints .u64 (codesOf xs)) ∧ Below w.heap.size w w' := by
  have HR := Lib.hid hR
  have hlen := Lib.hid hR.1
  clear hR
  go_enter Tryd.func77, Tryd.ntmps77
  go_wp2_with (at_make; refine wpList_mk1 (base := w.heap.size) (n := n) _ rfl _ _ rfl elU64 rfl rfl rfl rfl (by omega) (Nat.le_refl _) ?_; intro w4 hown4 hb4 hsz4)
  have Hown4 := Lib.hid hown4
  have Hb4 := Lib.hid hb4
  clear hown4 hb4
  go_loopw [4, 5, 6] (fun x y i wr => ∃ (k last : Nat) (code : Int) (l : List Int), 1 ≤ k ∧ k ≤ 16 ∧ i = .int .i64 k ∧ x = .int .u64 code ∧ y = .int .i64 last ∧ Hid (CodeInv xs k 0 code last) ∧ wr.ownsRow w.heap.size 58 1 (.slice (some ⟨w.heap.size, 0, none⟩) n n) n (ints .u64 l) ∧ Hid (∀ j, j < n → rd l j = if 0 < rd xs j ∧ rd xs j < k then codeAt xs j else 0) ∧ Below w.heap.size w wr) (fun _ _ i _ => 16 - (intOf i).toNat)
  case atStart =>
    refine ⟨1, 0, 0, _, by omega, by omega, rfl, rfl, rfl, .inl ⟨rfl, rfl, nextCode_one xs⟩, Hown4.out, ?_, Hb4.out⟩
    intro j hj
    rw [if_neg (by omega), rd_getElem (by rw [List.length_replicate]; exact hj), List.getElem_replicate]
  case round =>
    obtain ⟨k, last, code, l, hk1, hk2, rfl, rfl, rfl, Hinv, hown, Hl, hbel⟩ := hrel
    have Hown := Lib.hid hown
    have Hbel := Lib.hid hbel
    clear hown hbel
    by_cases hlt : k ≤ 15
    · obtain ⟨wo, hwo⟩ : ∃ wo : World, wo = wr := ⟨_, rfl⟩
      subst hwo
      go_wp2
      go_loopw [4, 5, 7] (fun x y i wr => ∃ (s last : Nat) (code : Int) (l : List Int), s ≤ n ∧ i = .int .i64 s ∧ x = .int .u64 code ∧ y = .int .i64 last ∧ Hid (CodeInv xs k s code last) ∧ wr.ownsRow w.heap.size 58 1 (.slice (some ⟨w.heap.size, 0, none⟩) n n) n (ints .u64 l) ∧ Hid (∀ j, j < n → rd l j = if 0 < rd xs j ∧ (rd xs j < k ∨ (rd xs j = k ∧ j < s)) then codeAt xs j else 0) ∧ Below w.heap.size w wr) (fun _ _ i _ => n - (intOf i).toNat)
      case atStart =>
        refine ⟨0, last, code, l, by omega, rfl, rfl, rfl, Hinv, Hown.out, ?_, Hbel.out⟩
        intro j hj
        rw [Hl.out j hj]
        by_cases g : 0 < rd xs j ∧ rd xs j < k
        · rw [if_pos g, if_pos ⟨g.1, .inl g.2⟩]
        · rw [if_neg g, if_neg (by omega)]
      case round =>
        obtain ⟨s, last, code, l, hs, rfl, rfl, rfl, Hinv, hown, Hl, hbel⟩ := hrel
        have hll : l.length = n := by have := hown.1; simpa [ints] using this
        have Hown := Lib.hid hown
        have Hbel := Lib.hid hbel
        clear hown hbel
        by_cases hlt2 : s < n
        · obtain ⟨b, o, rfl, hcx⟩ := HR.out.2 (by omega)
          have z := kept_cell Hbel.out (hcx s hlt2)
          clear hcx
          cases hx : (rd xs s != (k : Int))
          · have hxk : rd xs s = k := by simpa using hx
            have HX := Lib.hid hxk
            have hv := nextCode_range xs k s (by omega)
            rw [hlen.out] at hv
            have xc := Hown.out.cellAt s (by omega)
            rw [ints_get (by omega)] at xc
            have xf := Hown.out.frozenAt s
            have hnew := Lib.hid (CodeInv.hit (by rw [hlen.out]; exact hlt2) hxk (by omega) hv.1)
            have e1 : codeAt xs s = nextCode xs k s := by
              unfold codeAt
              rw [if_pos (by omega), hxk]
              rfl
            have E1 := Lib.hid e1
            have Hl3 : Hid (∀ j, j < n → rd (l.set s (nextCode xs k s)) j = if 0 < rd xs j ∧ (rd xs j < k ∨ (rd xs j = k ∧ j < s + 1)) then codeAt xs j else 0) := fun j hj => by
              rw [rd_set (by omega)]
              by_cases g2 : s = j
              · subst g2; rw [if_pos rfl, if_pos (by omega), E1.out]
              · rw [if_neg g2, Hl.out j hj]
                by_cases g : 0 < rd xs j ∧ (rd xs j < k ∨ (rd xs j = k ∧ j < s))
                · rw [if_pos g, if_pos (by omega)]
                · rw [if_neg g, if_neg (by omega)]
            rcases Hinv.out with ⟨i1, i2, i3⟩ | ⟨i1, i2, i3, i4⟩
            · subst i1 i2
              rw [i3] at hnew Hl3
              clear hxk e1 hv i3
              go_wp2
              go_roundw
              case rel =>
                exact ⟨s + 1, k, 0, l.set s 0, by omega, by go_num, rfl, rfl, hnew, by rw [ints_set]; exact (Hown.out.stored s _).1, Hl3, Hbel.out.setCell (Nat.le_refl _) _⟩
              case measure => simp [intOf]; omega
            · have hle : code + 1 ≤ (code + 1) * 2 ^ (k - last) := by
                have h1 : (1 : Int) ≤ 2 ^ (k - last) := by
                  have : (1 : Nat) ≤ 2 ^ (k - last) := Nat.one_le_two_pow
                  exact_mod_cast this
                have h2 := Int.mul_le_mul_of_nonneg_left h1 (show 0 ≤ code + 1 by omega)
                rw [Int.mul_one] at h2
                exact h2
              have ev : IntKind.u64.wrap (IntKind.u64.wrap (code + 1) * 2 ^ (k - last)) = nextCode xs k s := by
                rw [IntWalk.u64_in (code + 1) (by rw [i4] at hle; omega), i4]
                exact IntWalk.u64_in _ (by omega)
              have Ev := Lib.hid ev
              clear hxk e1 i4 hle ev
              go_wp2
              rw [Ev.out]
              go_roundw
              case rel =>
                exact ⟨s + 1, k, nextCode xs k s, l.set s (nextCode xs k s), by omega, by go_num, rfl, rfl, hnew, by rw [ints_set]; exact (Hown.out.stored s _).1, Hl3, Hbel.out.setCell (Nat.le_refl _) _⟩
              case measure => simp [intOf]; omega
          · have hxk : rd xs s ≠ k := by simpa using hx
            have hnew := Lib.hid (CodeInv.miss Hinv.out (by rw [hlen.out]; exact hlt2) hxk)
            have Hx := Lib.hid hxk
            clear hxk
            go_wp2
            go_roundw
            case rel =>
              refine ⟨s + 1, last, code, l, by omega, by go_num, rfl, rfl, hnew, Hown.out, ?_, Hbel.out⟩
              intro j hj
              rw [Hl.out j hj]
              by_cases g2 : s = j
              · subst g2
                have := Hx.out
                by_cases g : 0 < rd xs s ∧ (rd xs s < k ∨ (rd xs s = k ∧ s < s))
                · rw [if_pos g, if_pos (by omega)]
                · rw [if_neg g, if_neg (by omega)]
              · by_cases g : 0 < rd xs j ∧ (rd xs j < k ∨ (rd xs j = k ∧ j < s))
                · rw [if_pos g, if_pos (by omega)]
                · rw [if_neg g, if_neg (by omega)]
            case measure => simp [intOf]; omega
        · have hsn : s = n := by omega
          have hinv := Hinv.out
          rw [hsn, ← hlen.out] at hinv
          have hover := Lib.hid (CodeInv.over hinv (by omega) (by omega))
          clear hinv
          go_wp2
          go_roundw
          case rel =>
            refine ⟨k + 1, last, code, l, by omega, by omega, by go_num, rfl, rfl, hover, Hown.out, ?_, Hbel.out⟩
            intro j hj
            rw [Hl.out j hj]
            by_cases g : 0 < rd xs j ∧ (rd xs j < k ∨ (rd xs j = k ∧ j < s))
            · rw [if_pos g, if_pos (by omega)]
            · rw [if_neg g, if_neg (by omega)]
          case measure => simp [intOf]; omega
    · have hk16 : k = 16 := by omega
      have hll : l.length = n := by have := Hown.out.1; simpa [ints] using this
      have e : l = codesOf xs := ext_rd (by rw [hll, codesOf_length, hlen.out]) (fun j hj => by
        rw [Hl.out j (by omega), rd_codesOf _ _ (by rw [hlen.out]; omega)]
        by_cases g : 0 < rd xs j ∧ rd xs j < k
        · rw [if_pos g]
        · rw [if_neg g]
          unfold codeAt
          rw [if_neg (by omega)])
      subst e
      clear hk16
      go_wp2
      go_ret
      exact ⟨_, rfl, Hown.out, Hbel.out⟩
end Go.Proofs.YtkjoncllnlmdgaaDoor
/-
  The walk of the reference's Next.
-/
namespace Go.Proofs.YtkjoncllnlmdgaaDoor
open Go.RowKit

set_option maxHeartbeats 2000000 in
set_option maxRecDepth 100000 in
theorem refNext_calls (A : Option Addr) (n cap : Nat) (xs : List Int) (B : Option Addr) (m d p : Nat) (ys bs : List Int) (w : World) (hR : Rd w .i64 A n xs) (hn : n ≤ 1000000) (hok : lensOk xs = true) (hB : Rd w .u8 B m ys) (hy : ∀ i, i < m → rd ys i = ((bitAt bs (p + i) : Nat) : Int)) (hm : m ≤ 10000000) :
    Calls Tryd.prog 45 #[.slice A n cap, .slice B m d] w fun e w' =>
      ((∃ s : Nat, Hit xs bs p m s ∧ e = .returned (.tuple #[.int .i64 s, .int .i64 (rd xs s)])) ∨ ((∀ s, ¬ Hit xs bs p m s) ∧ e = .returned (.tuple #[.int .i64 (-1), .int .i64 0]))) ∧ Below w.heap.size w w' := by
  have HR := Lib.hid hR
  have HB := Lib.hid hB
  have Hy := Lib.hid hy
  have hxl := Lib.hid hR.1
  have Hok := Lib.hid hok
  clear hR hB hy hok
  go_enter Tryd.func45, Tryd.ntmps45
  go_wp2_with fail
  refine (refCodes_calls A n cap xs _ HR.out hn).mono ?_
  rintro e w1 ⟨v1, rfl, ho1, hb1⟩
  obtain ⟨C1, c1, rfl, _, hc1⟩ := own_rd ho1
  have HR1 := Lib.hid (HR.out.below hb1)
  have HB1 := Lib.hid (HB.out.below hb1)
  have Hc1 := Lib.hid hc1
  have Hb1 := Lib.hid hb1
  clear ho1 hc1 hb1
  go_wp2
  go_loop [7] (fun i => ∃ k : Nat, k ≤ n ∧ i = .int .i64 k ∧ Hid (∀ t, t < k → ¬ Hit xs bs p m t)) (fun i => n - (intOf i).toNat)
  case atStart => exact ⟨0, by omega, rfl, fun t ht => by omega⟩
  case round =>
    obtain ⟨k, hk, rfl, Hno⟩ := hrel
    by_cases hlt : k < n
    · obtain ⟨b, o, rfl, hcx⟩ := HR1.out.2 (by omega)
      have z := hcx k hlt
      clear hcx
      have hrng := lensOk_at Hok.out k (by rw [hxl.out]; exact hlt)
      obtain ⟨L, hL⟩ : ∃ L : Nat, rd xs k = L := ⟨(rd xs k).toNat, by omega⟩
      rw [hL] at z hrng
      have HL := Lib.hid hL
      clear hL
      have next : Hid (¬ Hit xs bs p m k → ∀ t, t < k + 1 → ¬ Hit xs bs p m t) := fun h t ht => by
        by_cases e : t < k
        · exact Hno.out t e
        · rw [show t = k from by omega]; exact h
      by_cases h0 : L = 0
      · subst h0
        go_wp2
        go_round
        case rel => exact ⟨k + 1, by omega, by go_num, next.out (fun h => by have := h.2.1; rw [HL.out] at this; omega)⟩
        case measure => simp [intOf]; omega
      · have d0 : ((L : Int) == 0) = false := by simp; omega
        by_cases hLm : m < L
        · go_wp2
          go_round
          case rel => exact ⟨k + 1, by omega, by go_num, next.out (fun h => by have := h.2.2.2.1; rw [HL.out] at this; omega)⟩
          case measure => simp [intOf]; omega
        · go_wp2
          go_loop [9, 10] (fun c i => ∃ j : Nat, j ≤ L ∧ i = .int .i64 j ∧ c = .int .u64 (codeTo bs p j : Nat)) (fun _ i => L - (intOf i).toNat)
          case atStart => exact ⟨0, by omega, rfl, rfl⟩
          case round =>
            obtain ⟨j, hj, rfl, rfl⟩ := hrel
            by_cases hlt2 : j < L
            · obtain ⟨b2, o2, rfl, hc2⟩ := HB1.out.2 (by omega)
              have y := hc2 j (by omega)
              rw [Hy.out j (by omega)] at y
              clear hc2
              have hcl := codeTo_lt bs p j
              have hpow : (2 : Nat) ^ j ≤ 2 ^ 15 := Nat.pow_le_pow_right (by omega) (by omega)
              have hp15 : (2 : Nat) ^ 15 = 32768 := by decide
              have hcl2 : codeTo bs p j ≤ 32768 := by omega
              have hbt := bitAt_le bs (p + j)
              have hcode : codeTo bs p (j + 1) = 2 * codeTo bs p j + bitAt bs (p + j) := rfl
              obtain ⟨C, hC⟩ : ∃ C, C = codeTo bs p j := ⟨_, rfl⟩
              obtain ⟨D, hD⟩ : ∃ D, D = bitAt bs (p + j) := ⟨_, rfl⟩
              rw [← hC, ← hD] at hcode
              rw [← hC] at hcl2 ⊢
              rw [← hD] at y hbt
              have Hcode := Lib.hid hcode
              clear hcl hpow hp15 hC hD hcode
              go_wp2
              go_round
              case rel => exact ⟨j + 1, by omega, by go_num, by rw [Hcode.out]; go_num⟩
              case measure => simp [intOf]; omega
            · obtain rfl : j = L := by omega
              obtain ⟨b3, o3, rfl, hc3⟩ := Hc1.out.2 (by omega)
              have y := hc3 k hlt
              rw [rd_codesOf xs k (by rw [hxl.out]; exact hlt)] at y
              clear hc3
              have hit : Hid (((codeTo bs p j : Nat) : Int) = codeAt xs k ↔ Hit xs bs p m k) := by
                refine ⟨fun h => ⟨by rw [hxl.out]; exact hlt, by rw [HL.out]; omega, by rw [HL.out]; omega, by rw [HL.out]; omega, by rw [HL.out]; exact h⟩, fun h => ?_⟩
                have h5 := h.2.2.2.2
                rw [HL.out] at h5
                exact h5
              by_cases hcc : ((codeTo bs p j : Nat) : Int) = codeAt xs k
              · have hH := Lib.hid (hit.out.1 hcc)
                go_wp2
                refine bodyPost_ret (v := .tuple #[.int .i64 k, .int .i64 j]) (by simp [results, Tryd.results45, go_sem]) rfl ⟨.inl ⟨k, hH.out, by rw [HL.out]⟩, Hb1.out⟩
              · have hH := Lib.hid (fun h => hcc (hit.out.2 h))
                have d1 : (((codeTo bs p j : Nat) : Int) == codeAt xs k) = false := by simpa using hcc
                go_wp2
                go_round
                case rel => exact ⟨k + 1, by omega, by go_num, next.out hH.out⟩
                case measure => simp [intOf]; omega
    · obtain rfl : k = n := by omega
      go_wp2
      refine bodyPost_ret (v := .tuple #[.int .i64 (-1), .int .i64 0]) (by simp [results, Tryd.results45, go_sem]) rfl ⟨.inr ⟨fun s hs => Hno.out s (by have := hs.1; rw [hxl.out] at this; exact this) hs, rfl⟩, Hb1.out⟩
end Go.Proofs.YtkjoncllnlmdgaaDoor
/-
  The walk of the document's Right (inkwellref05).
-/
namespace Go.Proofs.YtkjoncllnlmdgaaDoor
open Go.RowKit

theorem shr_len : ∀ k : Nat, k ≤ 15 → (32768 : Int) / 2 ^ k = 2 ^ (15 - k) := by decide +kernel
theorem lensOk_cell {xs : List Int} (s : Nat) (hs : s < xs.length) (h : ¬ (0 ≤ rd xs s ∧ rd xs s ≤ 15)) : lensOk xs = false := by
  unfold lensOk
  rw [List.all_eq_false]
  exact ⟨xs[s], List.getElem_mem _, by rw [← rd_getElem hs]; simpa using h⟩
theorem befores_le (xs : List Int) (s j : Nat) : 0 ≤ befores xs s j ∧ befores xs s j ≤ s := by
  have := before_le xs j s
  unfold befores
  omega
theorem pow_15_le : ∀ k : Nat, k ≤ 15 → (0 : Int) ≤ 2 ^ (15 - k) ∧ (2 : Int) ^ (15 - k) ≤ 32768 := by decide +kernel
set_option maxHeartbeats 1000000 in
set_option maxRecDepth 100000 in
theorem refRight_calls (A : Option Addr) (n cap : Nat) (xs : List Int) (w : World) (hR : Rd w .i64 A n xs) (hn : n ≤ 1000000) :
    Calls Tryd.prog 44 #[.slice A n cap] w fun e w' => e = .returned (.bool (rightB xs)) ∧ Below w.heap.size w w' := by
  have HR := Lib.hid hR
  have hlen := Lib.hid hR.1
  have Heq := Lib.hid (rightR_eq xs)
  clear hR
  go_enter Tryd.func44, Tryd.ntmps44
  go_wp2
  go_loop [3, 4, 5, 6] (fun a b c i => ∃ s : Nat, s ≤ n ∧ i = .int .i64 s ∧ a = .int .i64 (sumR xs s) ∧ b = .int .i64 (manyR xs s) ∧ c = .int .i64 (befores xs s 1) ∧ Hid (lensOk (xs.take s) = true) ∧ 0 ≤ sumR xs s ∧ sumR xs s ≤ 32768 * s ∧ 0 ≤ manyR xs s ∧ manyR xs s ≤ s) (fun _ _ _ i => n - (intOf i).toNat)
  case atStart => exact ⟨0, by omega, rfl, by rw [sumR_start], by rw [manyR_start], by unfold befores; rw [before_zero]; rfl, rfl, by rw [sumR_start]; omega, by rw [sumR_start]; omega, by rw [manyR_start]; omega, by rw [manyR_start]; omega⟩
  case round =>
    obtain ⟨s, hs, rfl, rfl, rfl, rfl, Hok, g1, g2, g3, g4⟩ := hrel
    have hbf := befores_le xs s 1
    by_cases hlt : s < n
    · obtain ⟨b, o, rfl, hcx⟩ := HR.out.2 (by omega)
      have z := hcx s hlt
      clear hcx
      have hlt' : s < xs.length := by rw [hlen.out]; exact hlt
      by_cases hx : 0 ≤ rd xs s ∧ rd xs s ≤ 15
      · obtain ⟨k, hk⟩ : ∃ k : Nat, rd xs s = k := ⟨(rd xs s).toNat, by omega⟩
        have hok2 : Hid (lensOk (xs.take (s + 1)) = true) := by
          show lensOk _ = true
          have h1 : lensOk (xs.take s) = true := Hok.out
          rw [List.take_succ_eq_append_getElem hlt']
          unfold lensOk at *
          rw [List.all_append, h1, ← rd_getElem hlt', hk]
          simp
          omega
        have hb := befores_next xs s k hlt' hk 1
        rw [hk] at z hx
        by_cases h0 : k = 0
        · subst h0
          have e1 := Lib.hid (sumR_zero xs s hlt' hk)
          have e2 := Lib.hid (manyR_zero xs s hlt' hk)
          have e3 : Hid (befores xs (s + 1) 1 = befores xs s 1) := by show befores xs (s + 1) 1 = _; rw [hb, if_neg (by omega), Int.add_zero]
          clear hb hk hx
          go_wp2
          go_round
          case rel => exact ⟨s + 1, by omega, by go_num, by rw [e1.out], by rw [e2.out], by rw [e3.out], hok2, by rw [e1.out]; exact g1, by rw [e1.out]; omega, by rw [e2.out]; exact g3, by rw [e2.out]; omega⟩
          case measure => simp [intOf]; omega
        · have hk0 : 0 < k := by omega
          have e1 := Lib.hid (sumR_next xs s k hlt' hk hk0 (by omega))
          have e2 := Lib.hid (manyR_next xs s k hlt' hk hk0 (by omega))
          have hp := pow_15_le k (by omega)
          have hsh := shr_len k (by omega)
          by_cases h1 : k = 1
          · subst h1
            have e3 : Hid (befores xs (s + 1) 1 = befores xs s 1 + 1) := hb
            clear hb hk hx
            rw [show ((2 : Int) ^ (15 - 1)) = 16384 from by decide +kernel] at e1
            go_wp2
            go_round
            case rel => exact ⟨s + 1, by omega, by go_num, by rw [e1.out], by rw [e2.out], by rw [e3.out], hok2, by rw [e1.out]; omega, by rw [e1.out]; omega, by rw [e2.out]; omega, by rw [e2.out]; omega⟩
            case measure => simp [intOf]; omega
          · have e3 : Hid (befores xs (s + 1) 1 = befores xs s 1) := by show befores xs (s + 1) 1 = _; rw [hb, if_neg (by omega), Int.add_zero]
            have h1' : ((k : Int) == 1) = false := by simp; omega
            clear hb hk
            go_wp2
            go_round
            case rel => exact ⟨s + 1, by omega, by go_num, by rw [e1.out], by rw [e2.out], by rw [e3.out], hok2, by rw [e1.out]; omega, by rw [e1.out]; omega, by rw [e2.out]; omega, by rw [e2.out]; omega⟩
            case measure => simp [intOf]; omega
      · have hno := lensOk_cell s hlt' hx
        have hr : rightB xs = false := by rw [← Heq.out]; unfold rightR; rw [hno, Bool.false_and]
        have Hr := Lib.hid hr
        have hways : rd xs s < 0 ∨ (0 ≤ rd xs s ∧ 15 < rd xs s) := by omega
        clear hx hno hr
        rcases hways with h1 | ⟨h1, h2⟩
        all_goals
          go_wp2
          go_ret
          exact ⟨by rw [Hr.out]; rfl, Below.refl _ _⟩
    · obtain rfl : s = n := by omega
      have hok : lensOk xs = true := by
        have h1 : lensOk (xs.take s) = true := Hok.out
        rwa [List.take_of_length_le (by rw [hlen.out]; exact Nat.le_refl _)] at h1
      have hfin : rightB xs = (sumR xs s == 32768 || (manyR xs s == 1 && befores xs s 1 == 1)) := by
        rw [← Heq.out]; unfold rightR; rw [hok, hlen.out, Bool.true_and]
      have Hfin := Lib.hid hfin
      clear hok hfin
      cases c1 : (sumR xs s == 32768)
      · cases c2 : (manyR xs s == 1)
        · go_wp2
          go_ret
          exact ⟨by rw [Hfin.out, c1, c2]; rfl, Below.refl _ _⟩
        · cases c3 : (befores xs s 1 == 1)
          all_goals
            go_wp2
            go_ret
            exact ⟨by rw [Hfin.out, c1, c2, c3]; rfl, Below.refl _ _⟩
      · go_wp2
        go_ret
        exact ⟨by rw [Hfin.out, c1]; rfl, Below.refl _ _⟩
end Go.Proofs.YtkjoncllnlmdgaaDoor
