/-
  Texts joined into one file: Last.
-/
import Derived.Test.YtendohnkhbgfbaaDoorJBytZ1
import Derived.Deep.RegionHeld3
/-
  A region that draws its order, whose last operation waits for all others: what is held till then need not be held behind it.
-/
namespace Go.Proofs.YtendohnkhbgfbaaDoor
open Go.RowKit

/-- The post of all but the last operation: what the last one asks; no panic. -/
def LastQ (P : Program) (ops : Array Oper) (on : Oper) (Q : Exit → Act → World → Prop) : Exit → Act → World → Prop
  | .normal, a, w => wpList P ops Q [on] a w
  | .panic _, _, _ => False
  | e, a, w => Q e a w
theorem LastQ.imp {P : Program} {ops : Array Oper} {on : Oper} {Q : Exit → Act → World → Prop} : ∀ (e : Exit) (a : Act) (w : World), e ≠ .normal → LastQ P ops on Q e a w → Q e a w := fun e a w hn h => by
  cases e <;> first | exact absurd rfl hn | exact h | exact (h : False).elim
theorem upon_monoQ {P : Program} {o : Oper} {a : Act} {next : Act → World → Prop} {Q Q' : Exit → Act → World → Prop} (hQ : ∀ e a w, e ≠ .normal → Q' e a w → Q e a w) : ∀ r, o.upon P a next Q' r → o.upon P a next Q r := by
  intro r h
  rcases r with ⟨n, w'⟩ | ⟨hh, w'⟩
  · cases n with
    | enter f args =>
      refine Calls.mono h fun e w'' he => ?_
      cases e with
      | returned u => exact he
      | panicked c => exact hQ _ _ _ (by simp) he
      | outgrown => obtain ⟨a, w, hq⟩ := he; exact ⟨a, w, hQ _ _ _ (by simp) hq⟩
    | _ => exact h
  · cases hh with
    | panic v => exact hQ _ _ _ (by simp) h
    | _ => exact h
theorem wpOp_monoQ {P : Program} {ops : Array Oper} {i : Nat} {K : Act → World → Prop} {a : Act} {w : World} {Q Q' : Exit → Act → World → Prop} (hQ : ∀ e a w, e ≠ .normal → Q' e a w → Q e a w) (h : wpOp P ops Q' i K a w) : wpOp P ops Q i K a w := by
  unfold wpOp at *
  split
  · simpa [*] using h
  · rename_i o ho
    simp only [ho] at h
    split
    · rename_i hw
      simp only [hw, if_true] at h
      rcases h with h | ⟨h1, a', w', h2⟩
      · exact .inl (upon_monoQ hQ _ h)
      · exact .inr ⟨h1, a', w', hQ _ _ _ (by simp) h2⟩
    · rename_i hw
      simp only [hw] at h
      exact h
/-- Every operation waits for earlier ones alone; the last for all others. -/
def lastB (md : Region.Mode) (ops : Array Oper) (n : Nat) : Bool :=
  decide (ops.size = n + 1) && (List.range ops.size).all (fun i => ((ops[i]?).map fun o => o.after.all fun e => !Region.binds md e || decide (e.on < i)).getD false) &&
    (List.range n).all (fun i => (List.range (n + 1)).any fun j => decide (i < j) && ((ops[j]?).map fun o => o.after.any fun e => Region.binds md e && e.on == i).getD false)
structure LastOk (md : Region.Mode) (ops : Array Oper) (n : Nat) (on : Oper) : Prop where
  hn : ops[n]? = some on
  size : ops.size = n + 1
  down : ∀ i o, ops[i]? = some o → ∀ e ∈ o.after, Region.binds md e = true → e.on < i
  all : ∀ i, i < n → ∃ j o, i < j ∧ j ≤ n ∧ ops[j]? = some o ∧ ∃ e ∈ o.after, Region.binds md e = true ∧ e.on = i
/-- Who has come up has come up behind those for whom it waits. -/
def Closed (md : Region.Mode) (ops : Array Oper) (listed : Array Bool) : Prop := ∀ j o, ops[j]? = some o → listed.getD j false = true → ∀ e ∈ o.after, Region.binds md e = true → listed.getD e.on false = true
theorem Closed.set {md : Region.Mode} {ops : Array Oper} {listed : Array Bool} (hc : Closed md ops listed) {i : Nat} (hi : i ∈ Region.ready md ops listed) : Closed md ops (listed.setIfInBounds i true) := by
  obtain ⟨_, oi, hoi, hall⟩ := mem_ready.1 hi
  intro j o hj hl e he hb
  by_cases hij : i = j
  · subst hij
    have : o = oi := Option.some.inj (hj.symm.trans hoi)
    subst this
    exact getD_set_true (hall e he hb)
  · rw [getD_set_ne false hij] at hl
    exact getD_set_true (hc j o hj hl e he hb)
theorem LastOk.of {md : Region.Mode} {ops : Array Oper} {n : Nat} {on : Oper} (hn : ops[n]? = some on) (h : lastB md ops n = true) : LastOk md ops n on := by
  unfold lastB at h
  simp only [Bool.and_eq_true, decide_eq_true_eq] at h
  obtain ⟨⟨h1, h2⟩, h3⟩ := h
  refine ⟨hn, h1, fun i o ho e he hb => ?_, fun i hi => ?_⟩
  · have hlt : i < ops.size := (Array.getElem?_eq_some_iff.1 ho).1
    have q := List.all_eq_true.1 h2 i (List.mem_range.2 hlt)
    rw [ho, Option.map_some, Option.getD_some] at q
    have q2 := Array.all_eq_true_iff_forall_mem.1 q e he
    rw [hb] at q2
    simpa using q2
  · have q := List.all_eq_true.1 h3 i (List.mem_range.2 hi)
    obtain ⟨j, hj, q1⟩ := List.any_eq_true.1 q
    simp only [Bool.and_eq_true, decide_eq_true_eq] at q1
    have hjn := List.mem_range.1 hj
    have ho : ops[j]? = some (ops[j]'(by omega)) := Array.getElem?_eq_getElem (by omega)
    have q3 := q1.2
    rw [ho, Option.map_some, Option.getD_some] at q3
    obtain ⟨e, he, q2⟩ := Array.any_eq_true'.1 q3
    simp only [Bool.and_eq_true, beq_iff_eq] at q2
    exact ⟨j, _, q1.1, by omega, ho, e, he, q2.1, q2.2⟩
/-- Where nothing but the last may come up, all others have. -/
theorem LastOk.listed {md : Region.Mode} {ops : Array Oper} {n : Nat} {on : Oper} (L : LastOk md ops n on) {listed : Array Bool} (hs : listed.size = ops.size) (hr : ∀ i ∈ Region.ready md ops listed, i = n) : ∀ i, i < n → listed.getD i false = true := by
  intro i
  induction i using Nat.strongRecOn with
  | _ i ih =>
    intro hi
    cases e : listed.getD i false with
    | true => rfl
    | false =>
      exfalso
      have hsz := L.size
      have ho : ops[i]? = some (ops[i]'(by omega)) := Array.getElem?_eq_getElem (by omega)
      have : i ∈ Region.ready md ops listed := by
        rw [mem_ready]
        refine ⟨?_, _, ho, fun e' he hb => ih e'.on (L.down i _ ho e' he hb) (by have := L.down i _ ho e' he hb; omega)⟩
        have hil : i < listed.size := by omega
        simp [hil] at e ⊢
        exact e
      have := hr i this
      omega
theorem LastOk.end' {md : Region.Mode} {ops : Array Oper} {n : Nat} {on : Oper} (L : LastOk md ops n on) {listed : Array Bool} (hs : listed.size = ops.size) (hn : listed.getD n true = false) (h : ∀ i, i < n → listed.getD i false = true) : Region.ready md ops listed = [n] ∧ Region.ready md ops (listed.setIfInBounds n true) = [] := by
  have hmem : ∀ j, j ∈ Region.ready md ops listed ↔ j = n := by
    intro j
    rw [mem_ready]
    constructor
    · rintro ⟨h1, o, ho, _⟩
      have hlt : j < ops.size := (Array.getElem?_eq_some_iff.1 ho).1
      rcases Nat.lt_or_ge j n with h2 | h2
      · have h3 := h j h2
        have hj : j < listed.size := by omega
        simp [hj] at h1 h3
        rw [h1] at h3
        cases h3
      · have := L.size; omega
    · rintro rfl
      exact ⟨hn, on, L.hn, fun e he hb => h _ (L.down _ _ L.hn e he hb)⟩
  constructor
  · have hnd : (Region.ready md ops listed).Nodup := (List.nodup_range).sublist (by unfold Region.ready; exact List.filter_sublist)
    generalize Region.ready md ops listed = l at *
    match l, hmem, hnd with
    | [], hm, _ => exact absurd ((hm n).2 rfl) (by simp)
    | [x], hm, _ => rw [(hm x).1 (by simp)]
    | x :: y :: r, hm, hnd =>
      have e1 := (hm x).1 (by simp)
      have e2 := (hm y).1 (by simp)
      simp [e1, e2] at hnd
  · rw [List.eq_nil_iff_forall_not_mem]
    intro j hj
    have h1 := hj
    rw [mem_ready] at h1
    obtain ⟨h1, o, ho, _⟩ := h1
    have hlt : j < ops.size := (Array.getElem?_eq_some_iff.1 ho).1
    have hjs : j < (listed.setIfInBounds n true).size := by simp; omega
    by_cases e : n = j
    · subst e
      simp at h1
    · rw [getD_set_ne true e] at h1
      have h3 := h j (by have := L.size; omega)
      have hj2 : j < listed.size := by omega
      simp [hj2] at h1 h3
      rw [h1] at h3
      cases h3
theorem wpAny_of_last {P : Program} {md : Region.Mode} {ops : Array Oper} {n : Nat} {on : Oper} {Q : Exit → Act → World → Prop} {S : World → Prop} (L : LastOk md ops n on) :
    ∀ (fuel : Nat) (listed : Array Bool) (a : Act) (w : World), listed.size = ops.size → listed.getD n true = false → Closed md ops listed → wpAnyH P md ops (LastQ P ops on Q) S fuel (listed.setIfInBounds n true) a w → wpAny P md ops Q (fuel + 1) listed a w := by
  have fin : ∀ (fuel : Nat) (listed : Array Bool) (a : Act) (w : World), listed.size = ops.size → listed.getD n true = false → (∀ i, i < n → listed.getD i false = true) → LastQ P ops on Q .normal a w → wpAny P md ops Q (fuel + 1) listed a w := by
    intro fuel listed a w hs hn hl h
    obtain ⟨r1, r2⟩ := L.end' hs hn hl
    refine ⟨fun h0 => (by rw [r1] at h0; cases h0), fun i hi => ?_⟩
    rw [r1] at hi
    have hin : i = n := by simpa using hi
    subst hin
    have hw : wpOp P ops Q i (wpList P ops Q []) a w := by unfold wpOp; simp only [L.hn]; exact h
    refine wpOp_mono (fun a' w' h' => ?_) hw
    cases fuel with
    | zero => exact ⟨r2, h'⟩
    | succ f => exact ⟨fun _ => h', fun j hj => by rw [r2] at hj; cases hj⟩
  have emp : ∀ (listed : Array Bool), listed.size = ops.size → Region.ready md ops (listed.setIfInBounds n true) = [] → ∀ i, i < n → listed.getD i false = true := by
    intro listed hs hr
    exact L.listed hs (fun i hi => by
      apply Classical.byContradiction
      intro hne
      have := ready_mono hi hne
      rw [hr] at this
      cases this)
  intro fuel
  induction fuel with
  | zero =>
    intro listed a w hs hn _ h
    exact fin 0 listed a w hs hn (emp listed hs h.1) h.2
  | succ fuel ih =>
    intro listed a w hs hn hc h
    by_cases hr : Region.ready md ops (listed.setIfInBounds n true) = []
    · exact fin (fuel + 1) listed a w hs hn (emp listed hs hr) (h.1 hr)
    · refine ⟨fun h0 => ?_, fun i hi => ?_⟩
      · exfalso
        have hl := L.listed hs (fun i hi => by rw [h0] at hi; cases hi)
        rw [(L.end' hs hn hl).1] at h0
        cases h0
      · by_cases hin : i = n
        · subst hin
          exfalso
          have hl : ∀ d j, i - j = d → j < i → listed.getD j false = true := by
            intro d
            induction d using Nat.strongRecOn with
            | _ d ihd =>
              intro j hd hj
              obtain ⟨j', o, h1, h2, ho, e, he, hb, rfl⟩ := L.all j hj
              rcases Nat.lt_or_ge j' i with h3 | h3
              · exact hc j' o ho (ihd (i - j') (by omega) j' rfl h3) e he hb
              · obtain rfl : j' = i := by omega
                obtain ⟨_, o', ho', hall⟩ := mem_ready.1 hi
                have : o' = o := Option.some.inj (ho'.symm.trans ho)
                subst this
                exact hall e he hb
          exact hr (L.end' hs hn (fun j hj => hl _ j rfl hj)).2
        · have h1 := wpOp_monoQ LastQ.imp (h.2 i (ready_mono hi hin))
          refine wpOp_mono (fun a' w' h' => ih (listed.setIfInBounds i true) a' w' (by simpa using hs) (by rw [getD_set_ne true hin]; exact hn) (hc.set hi) ?_) h1
          rw [Array.setIfInBounds_comm _ _ hin]
          exact h'.2
/-- The beginning: what is held is held till the last operation. -/
theorem wp_region_last {P : Program} {ops : Array Oper} {Q : Exit → Act → World → Prop} {S : World → Prop} {id n : Nat} {on : Oper} {a : Act} {w : World} (hm : P.follows .mixedOrders = true) (hn : ops[n]? = some on) (hB : lastB .any ops n = true) (hS : S w.drew)
    (h : S w.drew → wpAnyH P .any ops (LastQ P ops on Q) S n ((Array.replicate ops.size false).setIfInBounds n true) a w.drew) : (Code.region id ops true).wp P Q a w := by
  have L := LastOk.of hn hB
  refine wp_region_any hm ?_
  have h1 := wpAny_of_last L n (Array.replicate ops.size false) a w.drew (by simp) (by have := L.size; simp [show n < ops.size by omega]) (fun j o _ hl => (by
    rcases Nat.lt_or_ge j ops.size with h' | h'
    · simp [h'] at hl
    · simp [h'] at hl)) (h hS)
  rw [L.size] at h1 ⊢
  exact h1
end Go.Proofs.YtendohnkhbgfbaaDoor
