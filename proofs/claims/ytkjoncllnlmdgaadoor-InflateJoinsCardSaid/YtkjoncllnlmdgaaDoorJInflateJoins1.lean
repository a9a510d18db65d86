/-
  Texts joined into one file: InfI, Sl2, InflateJoins.
-/
import Derived.Test.YtkjoncllnlmdgaaDoorJInfH9
import Derived.ProofKit
import Derived.OpenShut
import Derived.ChangeSame
import Derived.ChangeSlices
/-
  One of several slices of bytes that are opened as b.
-/
namespace Go.Proofs.YtkjoncllnlmdgaaDoor
open Go.RowKit

theorem fixedS_few {bs : List Int} {len : Nat} (hl : bs.length = len) (hb : ∀ j, j < len → 0 ≤ rd bs j ∧ rd bs j ≤ 255) (hlen : len ≤ 3000) : (fixedS bs).length ≤ 400000 := by
  have h1 := toksTo_len fixA_rng fixB_rng (tokOk_press hl hb) (pressL bs).length (Nat.le_refl _)
  rw [toksTo_all] at h1
  have h2 := symCode_len fixA_rng 256
  have h3 := pressL_length bs
  unfold fixedS toksS
  rw [List.length_append, List.length_append]
  show 3 + (_ + _) ≤ _
  omega
theorem dynS_few {bs : List Int} {len : Nat} (hl : bs.length = len) (hb : ∀ j, j < len → 0 ≤ rd bs j ∧ rd bs j ≤ 255) (hlen : len ≤ 3000) : (dynS bs).length ≤ 400000 := by
  have h1 := toksTo_len (lenA_rng (pressL bs)) (lenD_rng (pressL bs)) (tokOk_press hl hb) (pressL bs).length (Nat.le_refl _)
  rw [toksTo_all] at h1
  have h2 := symCode_len (lenA_rng (pressL bs)) 256
  have h3 := pressL_length bs
  have h4 := putS_len (lenA (pressL bs)) (lenD (pressL bs)) (by rw [lenA_length]; decide) (by rw [lenA_length]; decide) (by rw [lenD_length]; decide) (by rw [lenD_length]; decide) (lenA_rng _) (lenD_rng _)
  unfold dynS toksS
  rw [List.length_append, List.length_append, List.length_append]
  show 3 + (_ + (_ + _)) ≤ _
  omega
/-- A slice of bytes that is a last block telling b. -/
structure Opens (W : World) (A : Option Addr) (m c : Nat) (bs : List Int) : Prop where
  is : ∃ Z, Rd W .u8 A m Z ∧ (A = none → m = 0 ∧ c = 0) ∧ m ≤ 100000 ∧ OpensTo Z bs ∧ (∀ x ∈ Z, 0 ≤ x ∧ x ≤ 255)
theorem Opens.below {W W' : World} {A : Option Addr} {m c : Nat} {bs : List Int} (h : Opens W A m c bs) (hb : Below W.heap.size W W') : Opens W' A m c bs := by
  obtain ⟨Z, h2, h3⟩ := h.is
  exact ⟨Z, h2.below hb, h3⟩
theorem Opens.of {W : World} {base n : Nat} {v : Value} {Z bs : List Int} (h : W.ownsRow base 5 1 v n (ints .u8 Z)) (hn : n ≤ 100000) (ho : OpensTo Z bs) (hz : ∀ j, j < Z.length → 0 ≤ rd Z j ∧ rd Z j ≤ 255) : ∃ A m c, v = .slice A m c ∧ Opens W A m c bs := by
  obtain ⟨A, c, rfl, _, hr⟩ := own_rd h
  exact ⟨A, n, c, rfl, Z, hr, own_none h, hn, ho, all_of_rd hz⟩
end Go.Proofs.YtkjoncllnlmdgaaDoor
/-
  Slices of slices of bytes, as rows hold them; blocks of them.
-/
namespace Go.Proofs.YtkjoncllnlmdgaaDoor
open Go.RowKit

/-- Slices of bytes behind each other. -/
def Slices (w : World) (A : Option Addr) (n : Nat) (L : List (List Int)) : Prop :=
  L.length = n ∧ (0 < n → ∃ b o, A = some ⟨b, o, none⟩ ∧ ∀ j, j < n → ∃ A' n' c', w.cell? ⟨b, o + j, none⟩ = some (.slice A' n' c') ∧ Rd w .u8 A' n' (L.getD j []) ∧ (A' = none → n' = 0 ∧ c' = 0) ∧ n' ≤ c' ∧ n' ≤ maxLen ∧ ∀ x ∈ L.getD j [], 0 ≤ x ∧ x ≤ 255)
theorem lists_choice {P : Nat → List Int → Prop} (n : Nat) (h : ∀ j, j < n → ∃ x, P j x) : ∃ l : List (List Int), l.length = n ∧ ∀ j, j < n → P j (l.getD j []) := by
  have h' : ∀ j, ∃ x, j < n → P j x := fun j => by
    by_cases hj : j < n
    · obtain ⟨x, hx⟩ := h j hj; exact ⟨x, fun _ => hx⟩
    · exact ⟨[], fun hh => absurd hh hj⟩
  have ⟨f, hf⟩ := Classical.axiomOfChoice h'
  refine ⟨(List.range n).map f, by simp, fun j hj => ?_⟩
  have : ((List.range n).map f).getD j [] = f j := by simp [List.getD_eq_getElem?_getD, List.getElem?_range hj]
  rw [this]
  exact hf j hj
theorem slices_of_trod {H : Type} {enc : TypeId × Value → H} {P : Program} {w : World} {base : Nat} {sp : Nat → Bool} {held : Bool} {t e u : TypeId} {v : Value} {d : DataW H} {p : List MemPlace}
    (ht : P.underlying t = some (.slice e)) (he : P.underlying e = some (.slice u)) (hu : P.underlying u = some (.int .u8)) (ce : P.cellsOf e = 1) (cu : P.cellsOf u = 1) (hv : ∃ A n c, v = .slice A n c)
    (h : DataW.Trod enc P w base sp held t v d p) :
    ∃ A n c L, v = .slice A n c ∧ n ≤ maxLen ∧ Slices w A n L := by
  obtain ⟨fuel, hf⟩ := h
  obtain ⟨A, n, c, rfl⟩ := hv
  rcases DataW.trod_slice ht hf with ⟨hcs, _⟩ | ⟨a, len, cap, elems, rest, m, _, hcs, _, hb, hl, hm, hlen, hel, _, _⟩
  · simp [Value.cells] at hcs
    obtain ⟨rfl, rfl, rfl⟩ := hcs
    exact ⟨none, 0, 0, [], rfl, by simp [maxLen], ⟨rfl, fun hh => by omega⟩⟩
  · simp [Value.cells] at hcs
    obtain ⟨rfl, rfl, rfl⟩ := hcs
    have each : ∀ j, j < n → ∃ l : List Int, ∃ A' n' c', w.cell? (a.add j) = some (.slice A' n' c') ∧ Rd w .u8 A' n' l ∧ (A' = none → n' = 0 ∧ c' = 0) ∧ n' ≤ c' ∧ n' ≤ maxLen ∧ ∀ x ∈ l, 0 ≤ x ∧ x ≤ 255 := by
      intro j hj
      have hz := hel j hj
      rw [ce, Nat.mul_one, List.getElem?_eq_getElem (show j < elems.length by omega)] at hz
      obtain ⟨cs, hcs, hz⟩ := Option.bind_eq_some_iff.1 hz
      obtain ⟨_, hcl, hcc⟩ := World.cells?_some hcs
      rcases Go.ChangeShapes.open_ints he hu cu hz with ⟨rfl, _⟩ | ⟨x, l, c', zs, rfl, _, hl', hm', hzl, _, hcell, hwf⟩
      · have := hcc 0 (by simp)
        exact ⟨[], none, 0, 0, by simpa [Addr.add] using this, ⟨rfl, fun hh => by omega⟩, fun _ => ⟨rfl, rfl⟩, Nat.le_refl _, by simp, fun x hx => by cases hx⟩
      · have h0 := hcc 0 (by simp)
        have hzl' : l ≤ zs.length := by rw [hzl]; split <;> omega
        refine ⟨zs.take l, some x, l, c', by simpa [Addr.add] using h0, ⟨by rw [List.length_take]; omega, fun hn => ?_⟩, (fun e => by cases e), hl', by omega, fun y hy => ?_⟩
        · obtain ⟨b, o, s⟩ := x
          have hs : s = none := by simpa [Addr.add] using World.cell?_spot (hcell 0 (by omega))
          subst hs
          refine ⟨b, o, rfl, fun i hi => ?_⟩
          have := hcell i (by omega)
          rw [addr_add] at this
          rw [this, take_rd hi]
          rfl
        · exact u8_of_wf (hwf y (List.mem_of_mem_take hy))
    obtain ⟨L, hL, hLs⟩ := lists_choice n each
    refine ⟨_, n, c, L, rfl, by omega, hL, fun hn => ?_⟩
    obtain ⟨b, o, s⟩ := a
    have hs : s = none := by
      obtain ⟨A', n', c', h1, _⟩ := hLs 0 hn
      simpa [Addr.add] using World.cell?_spot h1
    subst hs
    refine ⟨b, o, rfl, fun j hj => ?_⟩
    have := hLs j hj
    rw [addr_add] at this
    exact this
/-- What the law adds up. -/
def few (L : List (List Int)) (len j : Nat) : Nat := len + ((L.take j).map fun l => min l.length 701 + 1).sum
theorem few_zero (L : List (List Int)) (len : Nat) : few L len 0 = len := by simp [few]
theorem takeL_next {L : List (List Int)} {j : Nat} (h : j < L.length) : L.take (j + 1) = L.take j ++ [L.getD j []] := by
  rw [List.take_succ_eq_append_getElem h, List.getD_eq_getElem?_getD, List.getElem?_eq_getElem h]
  rfl
theorem few_succ {L : List (List Int)} {len j : Nat} (h : j < L.length) : few L len (j + 1) = few L len j + (min (L.getD j []).length 701 + 1) := by
  unfold few
  rw [takeL_next h, List.map_append, List.sum_append]
  simp
  omega
theorem few_all : ∀ {L : List (List Int)}, (L.map fun l => min l.length 701 + 1).sum ≤ 700 → (∀ l ∈ L, l.length ≤ 700) ∧ L.flatten.length + L.length ≤ (L.map fun l => min l.length 701 + 1).sum := by
  intro L
  induction L with
  | nil => intro _; exact ⟨fun l hl => (by cases hl), by simp⟩
  | cons a L ih =>
    intro h
    rw [List.map_cons, List.sum_cons] at h ⊢
    obtain ⟨h1, h2⟩ := ih (by omega)
    refine ⟨fun l hl => ?_, ?_⟩
    · rcases List.mem_cons.1 hl with rfl | hl
      · omega
      · exact h1 l hl
    · rw [List.flatten_cons, List.length_append, List.length_cons]
      omega
theorem few_is {L : List (List Int)} {len : Nat} (h : few L len L.length ≤ 700) : (∀ l ∈ L, l.length ≤ 700) ∧ L.flatten.length + L.length + len ≤ 700 := by
  unfold few at h
  rw [List.take_length] at h
  obtain ⟨h1, h2⟩ := few_all (L := L) (by omega)
  exact ⟨h1, by omega⟩
theorem blocks_next {L : List (List Int)} {j : Nat} (h : j < L.length) : blocks (L.take (j + 1)) = blocks (L.take j) ++ blkB 0 (L.getD j []) := by
  rw [takeL_next h]
  simp [blocks]
theorem flat_next {L : List (List Int)} {j : Nat} (h : j < L.length) : (L.take (j + 1)).flatten = (L.take j).flatten ++ L.getD j [] := by
  rw [takeL_next h]
  simp
theorem flat_le (L : List (List Int)) (k : Nat) : (L.take k).flatten.length ≤ L.flatten.length := by
  have : L.flatten = (L.take k).flatten ++ (L.drop k).flatten := by rw [← List.flatten_append, List.take_append_drop]
  rw [this, List.length_append]
  omega
theorem blocks_le {L : List (List Int)} {k : Nat} (hk : k ≤ L.length) : (blocks (L.take k)).length ≤ 5 * L.length + L.flatten.length := by
  rw [blocks_len, List.length_take]
  have := flat_le L k
  omega
theorem stored_set {b : List Int} (h : b.length ≤ 65535) : (storedB b).set 0 0 = blkB 0 b := by
  rw [storedB_blk h]
  rfl
theorem strOfNums_app (a b : List Int) : strOfNums (a ++ b) = strOfNums a ++ strOfNums b := by
  apply ByteArray.ext
  simp [strOfNums]
theorem blk_byte {b : List Int} (h : ∀ x ∈ b, 0 ≤ x ∧ x ≤ 255) (hl : b.length ≤ 65535) : ∀ x ∈ blkB 0 b, 0 ≤ x ∧ x ≤ 255 := by
  rw [← stored_set hl]
  intro x hx
  rcases List.mem_or_eq_of_mem_set hx with h1 | h1
  · exact all_of_rd (storedB_byte h) x h1
  · omega
theorem blocks_byte {L : List (List Int)} (h : ∀ l ∈ L, l.length ≤ 65535 ∧ ∀ x ∈ l, 0 ≤ x ∧ x ≤ 255) : ∀ x ∈ blocks L, 0 ≤ x ∧ x ≤ 255 := by
  intro x hx
  obtain ⟨l, hl, hx⟩ := List.mem_flatMap.1 hx
  exact blk_byte (h l hl).2 (h l hl).1 x hx
end Go.Proofs.YtkjoncllnlmdgaaDoor
/-
  The walk of the law InflateJoins.
-/
namespace Go.Proofs.YtkjoncllnlmdgaaDoor
open Go.RowKit

theorem apart_app {w : World} {va vw v5 : Value} {base n : Nat} {e : TypeId} {xs : List Value} (h : Apart va.ownBlock vw.ownBlock) (hw : w.ownsRow base e 1 vw n xs) (hat : v5.ownBlock = va.ownBlock ∨ ∀ k, v5.ownBlock = some k → w.heap.size ≤ k) : Apart v5.ownBlock vw.ownBlock := by
  intro i hi e2
  rcases hat with e3 | e3
  · rw [e3] at hi; exact h i hi e2
  · have h1 := e3 i hi
    have h2 := (hw.lt i e2).2
    omega
set_option maxHeartbeats 1000000 in
set_option maxRecDepth 100000 in
theorem InflateJoins_calls (B : Option Addr) (nl cl : Nat) (L : List (List Int)) (A : Option Addr) (len cap : Nat) (bs : List Int) (w : World) (hL2 : Slices w B nl L) (hnl : nl ≤ maxLen) (hR : Rd w .u8 A len bs) (hb : ∀ j, j < len → 0 ≤ rd bs j ∧ rd bs j ≤ 255) (hA : A = none → len = 0 ∧ cap = 0) (hcap : len ≤ cap) (hlen : len ≤ 140737488351232) (hL : Tabs9 w) :
    Calls Tryd.prog 12 #[.slice B nl cl, .slice A len cap] w fun e w' => e = .returned (.bool true) ∧ Below w.heap.size w w' := by
  unfold maxLen at hnl
  have HA := Lib.hid hA
  have HT := Lib.hid hL.1
  have HO := Lib.hid hL.2
  have HR := Lib.hid hR
  have Hb := Lib.hid hb
  have Hl := Lib.hid hR.1
  have HLl := Lib.hid hL2.1
  have HL2 := Lib.hid hL2.2
  have Hbb : Hid (∀ j, j < bs.length → 0 ≤ rd bs j ∧ rd bs j ≤ 255) := Lib.hid (fun j hj => hb j (by rw [← Hl.out]; exact hj))
  clear hR hb hL hA hL2
  go_enter Tryd.func12, Tryd.ntmps12
  go_wp2_with fail
  go_loopw [5, 6] (fun v i wr => ∃ j s : Nat, j ≤ nl ∧ i = .int .i64 j ∧ v = .int .i64 s ∧ Hid (s = few L len j) ∧ s ≤ 140737488352000 ∧ wr = w) (fun _ i _ => nl - (intOf i).toNat)
  case atStart => exact ⟨0, len, by omega, rfl, rfl, Lib.hid (few_zero L len).symm, by omega, rfl⟩
  case round =>
    obtain ⟨j, s, hj, rfl, rfl, Hs, hs9, rfl⟩ := hrel
    obtain ⟨W0, hW0⟩ : ∃ W, W = wr := ⟨_, rfl⟩
    subst hW0
    by_cases hs : s ≤ 700
    · by_cases hlt : j < nl
      · obtain ⟨b, o, hBa, hc⟩ := HL2.out (by omega)
        subst hBa
        obtain ⟨A', n', c', hc1, hr1, hN1, hcc1, hm1, hx1⟩ := hc j hlt
        unfold maxLen at hm1
        have Hr1 := Lib.hid hr1.1
        clear hc hr1 hx1 hN1
        go_wp2
        go_roundw
        case rel =>
          refine ⟨j + 1, s + (min n' 701 + 1), by omega, by go_num, ?_, ?_, by omega, trivial⟩
          · have : ((s : Int) + if (701 : Int) < n' then 701 else (n' : Int)) + 1 = ((s + (min n' 701 + 1) : Nat) : Int) := by split <;> omega
            rw [this]
          · have h9 := few_succ (len := len) (show j < L.length by rw [HLl.out]; exact hlt)
            rw [Hr1.out, ← Hs.out] at h9
            exact h9.symm
        case measure => simp [intOf]; omega
      · obtain rfl : j = nl := by omega
        have hfew : (∀ l ∈ L, l.length ≤ 700) ∧ L.flatten.length + L.length + len ≤ 700 := few_is (by rw [HLl.out, ← Hs.out]; exact hs)
        obtain ⟨hL7, hF7⟩ := hfew
        rw [HLl.out] at hF7
        have HL7 := Lib.hid hL7
        have HF7 := Lib.hid hF7
        have hnl7 : j ≤ 700 := by omega
        have hlen7 : len ≤ 700 := by omega
        have HLk : Hid (∀ i, i < j → (L.getD i []).length ≤ 700) := fun i hi => by
          rw [← HLl.out] at hi
          rw [List.getD_eq_getElem?_getD, List.getElem?_eq_getElem hi]
          exact HL7.out _ (List.getElem_mem hi)
        clear hL7 hF7 hj hlt
        go_wp2_with fail
        refine (awake10_calls _ HT.out HO.out).mono ?_
        rintro e w1 ⟨rfl, hb1⟩
        have HB1 := Lib.hid hb1
        have hs1 := hb1.size
        clear hb1
        go_wp2_with fail
        go_loopw [7, 8, 9] (fun va vw i w2 => ∃ k : Nat, k ≤ j ∧ i = .int .i64 k ∧ Hid (w2.ownsRow w1.heap.size 5 1 va (blocks (L.take k)).length (ints .u8 (blocks (L.take k)))) ∧ Hid (w2.ownsRow w1.heap.size 5 1 vw (L.take k).flatten.length (ints .u8 (L.take k).flatten)) ∧ Hid (Apart va.ownBlock vw.ownBlock) ∧ Hid (Below w1.heap.size w1 w2)) (fun _ _ i _ => j - (intOf i).toNat)
        case atStart => exact ⟨0, by omega, rfl, World.ownsRow_nil _ _ _ _, World.ownsRow_nil _ _ _ _, (fun k hk => by simp [Value.ownBlock] at hk), Below.refl _ _⟩
        case round =>
          obtain ⟨k, hk, rfl, HOa, HOw, HAp, HB2⟩ := hrel
          obtain ⟨w2, hw2⟩ : ∃ W, W = wr := ⟨_, rfl⟩
          subst hw2
          have HB20 := Lib.hid (below_seq HB1.out (Nat.le_refl _) HB2.out)
          have hsz2 := HB2.out.size
          by_cases hlt : k < j
          · obtain ⟨b, o, hBa, hc⟩ := HL2.out (by omega)
            obtain ⟨A', n', c', hc1, hr1, hN1, hcc1, hm1, hx1⟩ := hc k hlt
            obtain ⟨X, hX⟩ : ∃ X, X = L.getD k [] := ⟨_, rfl⟩
            rw [← hX] at hr1 hx1
            have hX7 : X.length ≤ 700 := by rw [hX]; exact HLk.out k hlt
            have hn7 : n' ≤ 700 := by rw [← hr1.1]; exact hX7
            subst hBa
            have HX := Lib.hid hX
            have Hc1 := Lib.hid hc1
            have Hr1 := Lib.hid hr1
            have HN1 := Lib.hid hN1
            have Hx1 := Lib.hid hx1
            have hc2 := kept_cell HB20.out hc1
            clear hc hX hr1 hN1 hx1 hX7 hm1 hc1
            obtain ⟨BA, hBA⟩ : ∃ BA, BA = blocks (L.take k) := ⟨_, rfl⟩
            obtain ⟨FW, hFW⟩ : ∃ FW, FW = (L.take k).flatten := ⟨_, rfl⟩
            obtain ⟨na, hna⟩ : ∃ na, na = BA.length := ⟨_, rfl⟩
            obtain ⟨nw, hnw⟩ : ∃ nw, nw = FW.length := ⟨_, rfl⟩
            have hF7' := HF7.out
            have hna7 : na ≤ 5000 := by rw [hna, hBA]; have := blocks_le (L := L) (k := k) (by rw [HLl.out]; omega); rw [HLl.out] at this; omega
            have hnw7 : nw ≤ 5000 := by rw [hnw, hFW]; have := flat_le L k; omega
            rw [← hBA, ← hna] at HOa
            rw [← hFW, ← hnw] at HOw
            have HBA := Lib.hid hBA
            have HFW := Lib.hid hFW
            have Hna := Lib.hid hna
            have Hnw := Lib.hid hnw
            clear hBA hFW hna hnw hF7'
            obtain ⟨Aa, ca, hva⟩ := own_slice HOa.out
            obtain ⟨Aw, cw, hvw⟩ := own_slice HOw.out
            subst hva
            subst hvw
            go_wp2_with fail
            refine (Stored_calls A' n' c' X _ (Hr1.out.below HB20.out) Hx1.out HN1.out hcc1 (by omega)).mono ?_
            rintro e w3 ⟨v3, rfl, ho3, hb3⟩
            have h65 : X.length ≤ 65535 := by rw [Hr1.out.1]; omega
            have hsl := storedB_length h65
            rw [Hr1.out.1] at hsl
            rw [hsl] at ho3
            obtain ⟨g, cg, rfl, hg, hg3, hcg, hcell, hfz⟩ := own_form ho3 (by omega)
            have z0 := hcell 0 _ (ints_get (by rw [hsl]; omega))
            have f0 := hfz 0
            obtain ⟨y0, hy0⟩ : ∃ y, y = rd (storedB X) 0 := ⟨_, rfl⟩
            rw [← hy0] at z0
            have ho4 := own_store ho3 0 (.int .u8 0)
            rw [← ints_set, stored_set h65] at ho4
            obtain ⟨_, _, e4, _, hr4⟩ := own_rd ho4
            cases e4
            have hb4 : Below w2.heap.size w2 (w3.setCell ⟨g, 0, none⟩ (.int .u8 0)) := hb3.setCell (p := ⟨g, 0, none⟩) hg _
            have Hb4 := Lib.hid hb4
            have Hr4 := Lib.hid hr4
            have Ha4 := Lib.hid (own_below HOa.out hb4)
            have Hw4 := Lib.hid (own_below HOw.out hb4)
            clear ho3 hb3 h65 hsl hcell hfz hy0 ho4 hr4 hb4 hcg
            obtain ⟨T5, hT5⟩ : ∃ T, T = na + (n' + 5) := ⟨_, rfl⟩
            obtain ⟨T6, hT6⟩ : ∃ T, T = nw + n' := ⟨_, rfl⟩
            have HT5 := Lib.hid hT5
            have HT6 := Lib.hid hT6
            clear hT5 hT6
            go_wp2_with (first
              | (at_builtin; refine wpList_appRdL rfl _ _ rfl elB Ha4.out rfl rfl Hr4.out (fun e => by cases e) (by omega) (by simp; omega) ?_; intro v5 w5 hown5 hfr5 hat5; rw [← HT5.out] at hown5; have hb04 := below_seq HB2.out (Nat.le_refl _) Hb4.out; have hb05 := hb04.trans (hfr5.below hb04.size (fun o ho i e => by simp at ho; subst ho; exact (Ha4.out.lt i e).1)); have hw5 := own_fr Hw4.out hfr5 (fun o ho => by simp at ho; subst ho; exact HAp.out.symm); have hap5 := apart_app HAp.out Hw4.out hat5; obtain ⟨A5, c5, rfl⟩ := own_slice hown5; have hc5 := kept_cell (below_seq HB1.out (Nat.le_refl _) hb05) Hc1.out; have Hown5 := Lib.hid hown5; have Hw5 := Lib.hid hw5; have Hap5 := Lib.hid hap5; have Hb05 := Lib.hid hb05; clear hown5 hfr5 hat5 hb04 hb05 hw5 hap5)
              | (at_builtin; refine wpList_appRdL rfl _ _ rfl elB Hw5.out rfl rfl (Hr1.out.below (below_seq HB1.out (Nat.le_refl _) Hb05.out)) HN1.out (by omega) Hb05.out.size ?_; intro v6 w6 hown6 hfr6 hat6; rw [← HT6.out] at hown6; have hb06 := Hb05.out.trans (hfr6.below Hb05.out.size (fun o ho i e => by simp at ho; subst ho; exact (Hw5.out.lt i e).1)); have ha6 := own_fr Hown5.out hfr6 (fun o ho => by simp at ho; subst ho; exact Hap5.out); have hap6 := (apart_app Hap5.out.symm Hown5.out hat6).symm; obtain ⟨A6, c6, rfl⟩ := own_slice hown6; have Hown6 := Lib.hid hown6; have Ha6 := Lib.hid ha6; have Hap6 := Lib.hid hap6; have Hb06 := Lib.hid hb06; clear hown6 hfr6 hat6 hb06 ha6 hap6))
            go_roundw
            case rel =>
              have hk1 : k < L.length := by rw [HLl.out]; exact hlt
              have e1 := blocks_next hk1
              have e2 := flat_next hk1
              rw [← HBA.out, ← HX.out] at e1
              rw [← HFW.out, ← HX.out] at e2
              have l1 := Ha6.out.1
              have l2 := Hown6.out.1
              rw [ints_length, Nat.mul_one] at l1 l2
              refine ⟨k + 1, by omega, by go_num, ?_, ?_, Hap6.out, Hb06.out⟩
              · rw [e1, l1]; exact Ha6.out
              · rw [e2, l2]; exact Hown6.out
            case measure => simp [intOf]; omega
          · obtain rfl : k = j := by omega
            have hLk : L.take k = L := List.take_of_length_le (by rw [HLl.out]; exact Nat.le_refl _)
            rw [hLk] at HOa HOw
            obtain ⟨BA, hBA⟩ : ∃ BA, BA = blocks L := ⟨_, rfl⟩
            obtain ⟨FW, hFW⟩ : ∃ FW, FW = L.flatten := ⟨_, rfl⟩
            obtain ⟨na, hna⟩ : ∃ na, na = BA.length := ⟨_, rfl⟩
            obtain ⟨nw, hnw⟩ : ∃ nw, nw = FW.length := ⟨_, rfl⟩
            have hF7' := HF7.out
            have hna7 : na ≤ 5000 := by rw [hna, hBA]; have := blocks_len L; rw [HLl.out] at this; omega
            have hnw7 : nw ≤ 700 := by rw [hnw, hFW]; omega
            have hopen : ∃ q, openS (BA ++ pressB bs) ((nw : Int) + len) = .ok (q, FW ++ bs) ∧ (q + 7) / 8 = na + (pressB bs).length := by
              have h := openS_blocks (Z := []) (most := (nw : Int) + len) (L := L) (opens_press Hbb.out (by rw [Hl.out]; omega)) (fun l hl => Nat.le_trans (HL7.out l hl) (by decide)) (by rw [Hl.out, ← hFW, ← hnw]; omega)
              rw [List.append_nil, ← hBA, ← hFW, ← hna] at h
              exact h
            obtain ⟨q, hq, hq8⟩ := hopen
            have hba : ∀ x ∈ BA, 0 ≤ x ∧ x ≤ 255 := by
              rw [hBA]
              refine blocks_byte (fun l hl => ⟨Nat.le_trans (HL7.out l hl) (by decide), ?_⟩)
              obtain ⟨i, hi, rfl⟩ := List.getElem_of_mem hl
              have hi' : i < k := by rw [← HLl.out]; exact hi
              obtain ⟨_, _, _, hcc⟩ := HL2.out (by omega)
              obtain ⟨_, _, _, _, _, _, _, _, hxx⟩ := hcc i hi'
              rw [List.getD_eq_getElem?_getD, List.getElem?_eq_getElem hi] at hxx
              exact hxx
            rw [← hBA, ← hna] at HOa
            rw [← hFW, ← hnw] at HOw
            have Hna := Lib.hid hna
            have Hnw := Lib.hid hnw
            have Hba := Lib.hid hba
            have Hq := Lib.hid hq
            have hpl : (pressB bs).length ≤ len + 5 := by
              have h1 := (pressB_le bs).1
              have h2 := storedB_length (b := bs) (by rw [Hl.out]; omega)
              rw [h2, Hl.out] at h1
              exact h1
            obtain ⟨m, hm⟩ : ∃ m, m = (pressB bs).length := ⟨_, rfl⟩
            rw [← hm] at hpl hq8
            obtain ⟨T8, hT8⟩ : ∃ T, T = na + m := ⟨_, rfl⟩
            have hT87 : T8 ≤ 10000 := by omega
            have Hm := Lib.hid hm
            have HT8 := Lib.hid hT8
            rw [← hT8] at hq8
            have Hq8 := Lib.hid hq8
            clear hBA hFW hna hnw hF7' hba hq hq8 hm hT8 hLk hk
            obtain ⟨Aa, ca, hva⟩ := own_slice HOa.out
            obtain ⟨Aw, cw, hvw⟩ := own_slice HOw.out
            subst hva
            subst hvw
            go_wp2_with fail
            refine (DPress_calls A len cap bs _ (HR.out.below HB20.out) Hb.out HA.out hcap (by omega) (HT.out.below HB20.out) (fun j hj => kept_cell HB20.out (HO.out j hj))).mono ?_
            rintro e w7 ⟨v7, rfl, ho7, hb7⟩
            have HB7 := Lib.hid (below_seq HB2.out (Nat.le_refl _) hb7)
            obtain ⟨A7, c7, rfl, _, hr7⟩ := own_rd ho7
            have HN7 := Lib.hid (own_none ho7)
            have Ha7 := Lib.hid (own_below HOa.out hb7)
            have Hw7 := Lib.hid (own_below HOw.out hb7)
            have hsz7 := HB7.out.size
            rw [← Hm.out] at hr7 HN7 ⊢
            have Hr7 := Lib.hid hr7
            clear ho7 hb7 hr7
            go_wp2_with (at_builtin; refine wpList_appRdL rfl _ _ rfl elB Ha7.out rfl rfl Hr7.out HN7.out (by omega) (by omega) ?_; intro v8 w8 hown8 hfr8 hat8; rw [← HT8.out] at hown8; have hb08 := HB7.out.trans (hfr8.below HB7.out.size (fun o ho i e => by simp at ho; subst ho; exact (Ha7.out.lt i e).1)); have hw8 := own_fr Hw7.out hfr8 (fun o ho => by simp at ho; subst ho; exact HAp.out.symm); have Hown8 := Lib.hid hown8; have Hw8 := Lib.hid hw8; have Hb08 := Lib.hid (below_seq HB1.out (Nat.le_refl _) hb08); clear hown8 hfr8 hat8 hb08 hw8)
            obtain ⟨A8, c8, hv8, _, hr8⟩ := own_rd Hown8.out
            subst hv8
            have HN8 := Lib.hid (own_none Hown8.out)
            have Hr8 := Lib.hid hr8
            obtain ⟨_, _, ew, _, hrw⟩ := own_rd Hw8.out
            cases ew
            have Hrw := Lib.hid hrw
            clear hr8 hrw
            go_wp2_with fail
            refine (Open_calls A8 T8 c8 (BA ++ pressB bs) ((nw : Int) + len) _ Hr8.out HN8.out (fun i hi => rd_bytes (l := BA ++ pressB bs) (fun x hx => (List.mem_append.1 hx).elim (Hba.out x) (all_of_rd (pressB_byte (all_of_rd Hbb.out)) x)) i (by rw [Hr8.out.1]; exact hi)) (by omega) (by omega) (HT.out.below Hb08.out) (fun j hj => kept_cell Hb08.out (HO.out j hj))).mono ?_
            rintro e w9 ⟨Hx, hb9⟩
            have HB9 := Lib.hid (below_seq Hb08.out (Nat.le_refl _) hb9)
            have hrw9 := Hrw.out.below hb9
            rcases Hx.out with ⟨q2, o2, v2, h2, rfl, ho2⟩ | ⟨c2', h2, hc2', rfl⟩
            · rw [Hq.out] at h2
              cases h2
              rw [Hq8.out]
              obtain ⟨R, hR⟩ : ∃ R, R = (FW ++ bs).length := ⟨_, rfl⟩
              rw [← hR] at ho2
              obtain ⟨A9, c9, rfl, _, hr9⟩ := own_rd ho2
              have cv1 := conv_all (c := c9) hr9
              have cv2 := conv_all (c := cap) (HR.out.below HB9.out)
              have cv3 := conv_all (c := cw) hrw9
              rw [strOfNums_app] at cv1
              have hsum : ¬ 9223372036854775807 < (strOfNums FW).size + (strOfNums bs).size := by rw [strOfNums_size, strOfNums_size, ← Hnw.out, Hl.out]; omega
              clear hb9 Hx ho2 hr9 hrw9 hR
              go_wp2_with fail
              go_ret
              exact ⟨rfl, HB9.out⟩
            · rw [Hq.out] at h2; cases h2
    · have hs' : ¬ (s : Int) ≤ 700 := by omega
      by_cases hlt : j < nl
      · go_wp2_with fail
        refine (awake10_calls _ HT.out HO.out).mono ?_
        rintro e w2 ⟨rfl, hb2⟩
        have H2 := Lib.hid hb2
        clear hb2
        go_wp2_with fail
        refine (awake10_calls _ (HT.out.below H2.out) (fun j hj => kept_cell H2.out (HO.out j hj))).mono ?_
        rintro e w3 ⟨rfl, hb3⟩
        have H3 := Lib.hid (below_seq H2.out (Nat.le_refl _) hb3)
        clear hb3
        go_wp2
        go_ret
        exact ⟨rfl, H3.out⟩
      · obtain rfl : j = nl := by omega
        go_wp2_with fail
        refine (awake10_calls _ HT.out HO.out).mono ?_
        rintro e w2 ⟨rfl, hb2⟩
        have H2 := Lib.hid hb2
        clear hb2
        go_wp2_with fail
        refine (awake10_calls _ (HT.out.below H2.out) (fun j hj => kept_cell H2.out (HO.out j hj))).mono ?_
        rintro e w3 ⟨rfl, hb3⟩
        have H3 := Lib.hid (below_seq H2.out (Nat.le_refl _) hb3)
        clear hb3
        go_wp2
        go_ret
        exact ⟨rfl, H3.out⟩
theorem InflateJoins_walk (B : Option Addr) (nl cl : Nat) (L : List (List Int)) (A : Option Addr) (len cap : Nat) (z : List Int) (w : World) (hs : Slices w B nl L) (hn : nl ≤ maxLen) (h : IsRow .u8 w A len cap z) (y : len * 1 ≤ 140737488351232) (hL : Tabs9 w) :
    Calls Tryd.prog 12 #[.slice B nl cl, .slice A len cap] w fun e w' => e = .returned (.bool true) ∧ Below w.heap.size w w' :=
  InflateJoins_calls B nl cl L A len cap (z.take len) w hs hn h.rd h.u8 (isRow_nil h) (isRow_le h) (by omega) hL
end Go.Proofs.YtkjoncllnlmdgaaDoor
