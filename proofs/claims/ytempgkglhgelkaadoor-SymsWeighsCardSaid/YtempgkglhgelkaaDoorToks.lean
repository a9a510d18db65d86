/-
  Slices of tokens (a byte, a length, a distance) as rows hold them.
-/
import Derived.Test.YtempgkglhgelkaaDoorC
import Derived.ProofKit
import Derived.OpenShut
import Derived.ChangeSame
namespace Go.Proofs.YtempgkglhgelkaaDoor
open Go.RowKit

abbrev Tok := Int × Int × Int
def tokB (ts : List Tok) (j : Nat) : Int := (ts.getD j (0, 0, 0)).1
def tokL (ts : List Tok) (j : Nat) : Int := (ts.getD j (0, 0, 0)).2.1
def tokD (ts : List Tok) (j : Nat) : Int := (ts.getD j (0, 0, 0)).2.2
def Toks (w : World) (A : Option Addr) (n : Nat) (ts : List Tok) : Prop :=
  ts.length = n ∧ (0 < n → ∃ b o, A = some ⟨b, o, none⟩ ∧ ∀ j, j < n → w.cell? ⟨b, o + j * 3, none⟩ = some (.int .u8 (tokB ts j)) ∧ w.cell? ⟨b, o + j * 3 + 1, none⟩ = some (.int .i64 (tokL ts j)) ∧ w.cell? ⟨b, o + j * 3 + 2, none⟩ = some (.int .i64 (tokD ts j)))
theorem Toks.below {w w1 : World} {A : Option Addr} {n : Nat} {ts : List Tok} (h : Toks w A n ts) (hb : Below w.heap.size w w1) : Toks w1 A n ts :=
  ⟨h.1, fun hn => by obtain ⟨b, o, e, hc⟩ := h.2 hn; exact ⟨b, o, e, fun j hj => ⟨kept_cell hb (hc j hj).1, kept_cell hb (hc j hj).2.1, kept_cell hb (hc j hj).2.2⟩⟩⟩
def TokWf (ts : List Tok) (n : Nat) : Prop := ∀ j, j < n → (0 ≤ tokB ts j ∧ tokB ts j ≤ 255) ∧ (-9223372036854775808 ≤ tokL ts j ∧ tokL ts j ≤ 9223372036854775807) ∧ (-9223372036854775808 ≤ tokD ts j ∧ tokD ts j ≤ 9223372036854775807)

theorem list_choice {P : Nat → Tok → Prop} (n : Nat) (h : ∀ j, j < n → ∃ x, P j x) : ∃ l : List Tok, l.length = n ∧ ∀ j, j < n → P j (l.getD j (0, 0, 0)) := by
  have h' : ∀ j, ∃ x, j < n → P j x := fun j => by
    by_cases hj : j < n
    · obtain ⟨x, hx⟩ := h j hj; exact ⟨x, fun _ => hx⟩
    · exact ⟨(0, 0, 0), fun hh => absurd hh hj⟩
  have ⟨f, hf⟩ := Classical.axiomOfChoice h'
  refine ⟨(List.range n).map f, by simp, fun j hj => ?_⟩
  have : ((List.range n).map f).getD j (0, 0, 0) = f j := by simp [List.getD_eq_getElem?_getD, List.getElem?_range hj]
  rw [this]
  exact hf j hj
theorem i64_of_wf {n : Int} (h : (Lit.int .i64 n).wf = true) : -9223372036854775808 ≤ n ∧ n ≤ 9223372036854775807 := by
  simp [Lit.wf, IntKind.min, IntKind.max, IntKind.signed, IntKind.bits] at h
  omega
theorem toks_of_trod {H : Type} {enc : TypeId × Value → H} {P : Program} {w : World} {base : Nat} {sp : Nat → Bool} {held : Bool} {t e : TypeId} {f0 f1 f2 : Field} {v : Value} {d : DataW H} {p : List MemPlace}
    (ht : P.underlying t = some (.slice e)) (he : P.underlying e = some (.struct #[f0, f1, f2])) (o0 : f0.offset = 0) (o1 : f1.offset = 1) (o2 : f2.offset = 2) (k0 : P.underlying f0.type = some (.int .u8)) (k1 : P.underlying f1.type = some (.int .i64)) (k2 : P.underlying f2.type = some (.int .i64))
    (c0 : P.cellsOf f0.type = 1) (c1 : P.cellsOf f1.type = 1) (c2 : P.cellsOf f2.type = 1) (ce : P.cellsOf e = 3) (hv : ∃ A n c, v = .slice A n c)
    (h : DataW.Trod enc P w base sp held t v d p) :
    ∃ A n c ts, v = .slice A n c ∧ n ≤ maxLen ∧ Toks w A n ts ∧ TokWf ts n := by
  obtain ⟨fuel, hf⟩ := h
  obtain ⟨A, n, c, rfl⟩ := hv
  rcases DataW.trod_slice ht hf with ⟨hcs, _⟩ | ⟨a, len, cap, elems, rest, m, _, hcs, _, hb, hl, hm, hlen, hel, _, _⟩
  · simp [Value.cells] at hcs
    obtain ⟨rfl, rfl, rfl⟩ := hcs
    exact ⟨none, 0, 0, [], rfl, by simp [maxLen], ⟨rfl, fun hh => by omega⟩, fun j hj => by omega⟩
  · simp [Value.cells] at hcs
    obtain ⟨rfl, rfl, rfl⟩ := hcs
    obtain ⟨b, o, s⟩ := a
    have each : ∀ j, j < n → ∃ x : Tok, (w.cell? ((⟨b, o, s⟩ : Addr).add (j * 3)) = some (.int .u8 x.1) ∧ w.cell? (((⟨b, o, s⟩ : Addr).add (j * 3)).add 1) = some (.int .i64 x.2.1) ∧ w.cell? (((⟨b, o, s⟩ : Addr).add (j * 3)).add 2) = some (.int .i64 x.2.2)) ∧ (Lit.int .u8 x.1).wf = true ∧ (Lit.int .i64 x.2.1).wf = true ∧ (Lit.int .i64 x.2.2).wf = true := by
      intro j hj
      have hz := hel j hj
      rw [ce, List.getElem?_eq_getElem (show j < elems.length by omega)] at hz
      obtain ⟨cs, hcs, hz⟩ := Option.bind_eq_some_iff.1 hz
      obtain ⟨_, hcl, hcc⟩ := World.cells?_some hcs
      obtain ⟨xs, m', _, _, _, hxl, hx⟩ := DataW.trod_struct he hz
      have hxl3 : xs.length = 3 := by simpa using hxl
      match cs, hcl with
      | [y0, y1, y2], _ =>
        have g0 := hx 0 f0 rfl
        have g1 := hx 1 f1 rfl
        have g2 := hx 2 f2 rfl
        rw [List.getElem?_eq_getElem (by omega), o0, c0] at g0
        rw [List.getElem?_eq_getElem (by omega), o1, c1] at g1
        rw [List.getElem?_eq_getElem (by omega), o2, c2] at g2
        obtain ⟨n0, e0, _, q0⟩ := DataW.trod_int k0 g0
        obtain ⟨n1, e1, _, q1⟩ := DataW.trod_int k1 g1
        obtain ⟨n2, e2, _, q2⟩ := DataW.trod_int k2 g2
        simp at e0 e1 e2
        subst e0 e1 e2
        have a0 := hcc 0 (by omega)
        have a1 := hcc 1 (by omega)
        have a2 := hcc 2 (by omega)
        exact ⟨(n0, n1, n2), ⟨by simpa [Addr.add] using a0, by simpa using a1, by simpa using a2⟩, q0, q1, q2⟩
    obtain ⟨ts, htl, hts⟩ := list_choice n each
    refine ⟨_, n, c, ts, rfl, by omega, ⟨htl, fun hn => ?_⟩, fun j hj => ?_⟩
    · have hs : s = none := by simpa [Addr.add] using World.cell?_spot (hts 0 hn).1.1
      subst hs
      refine ⟨b, o, rfl, fun j hj => ?_⟩
      have ad : ∀ (x k : Nat), (⟨b, x, none⟩ : Addr).add k = ⟨b, x + k, none⟩ := fun x k => by unfold Addr.add; split <;> simp_all
      have := (hts j hj).1
      rw [ad, ad, ad] at this
      exact this
    · obtain ⟨_, q0, q1, q2⟩ := hts j hj
      exact ⟨u8_of_wf q0, i64_of_wf q1, i64_of_wf q2⟩
end Go.Proofs.YtempgkglhgelkaaDoor
