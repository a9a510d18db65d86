/-
  Texts joined into one file: Aw18.
-/
import Derived.Test.YtekhofnfikcpnaaJAw182
import Derived.Test.YtekhofnfikcpnaaJPutA2
/-
  The walk of awake (chapter 18).
-/
namespace Go.Proofs.Ytekhofnfikcpnaa
open Go.RowKit

def opA : OpV := ⟨(0, ByteArray.empty), ByteArray.empty, false, (1, ⟨#[97]⟩), false, 0, 0, 0, 0, ByteArray.empty, [], none, 0, 0⟩
theorem names_opA : namesL [opA] = [(1, ⟨#[97]⟩)] := rfl
theorem table_opA {T : List ByteArray} (h : IsTable ⟨#[98]⟩ (namesL [opA]) T) : T = [⟨#[98]⟩, ⟨#[97]⟩] := by
  refine h.same (N' := namesL [opA]) ⟨[⟨#[97]⟩], rfl, by simp, fun s => ?_⟩ (fun s => Iff.rfl)
  rw [names_opA]
  constructor
  · intro hs
    obtain rfl : s = ⟨#[97]⟩ := by simpa using hs
    exact ⟨by decide, _, List.mem_cons_self .., rfl⟩
  · rintro ⟨_, y, hy, rfl⟩
    obtain rfl : y = (1, ⟨#[97]⟩) := by simpa using hy
    simp
theorem put_opA : putT [⟨#[98]⟩, ⟨#[97]⟩] = [1, 1, 97] := by
  unfold putT
  simp only [List.length_cons, List.length_nil, List.drop_succ_cons, List.drop_zero, List.flatMap_cons, List.flatMap_nil, List.append_nil]
  unfold txtB
  rw [lebU_last (by decide), lebU_last (by decide)]
  rfl
theorem opA_wf : OpWf opA := by
  refine ⟨?_, ?_, ?_, ?_, ?_, ?_, ?_, ?_, ?_, ?_, ?_, ?_, ?_, ?_⟩
  all_goals first
    | (intro y hy; cases hy)
    | (intro _; exact ⟨rfl, rfl⟩)
    | (unfold I64 opA; decide)
    | (unfold opA; decide)
    | (unfold opA maxLen; decide)
theorem opA_few : FewAt opA := by
  refine ⟨?_, ?_, ?_, ?_, ?_, fun i hi => ?_⟩
  · decide
  · decide
  · decide
  · decide
  · decide
  · have : i < 0 := hi
    omega
theorem opA_at (w : World) : OpsAt (w.alloc (.cells #[.int .i64 0, .string ⟨#[]⟩, .string ⟨#[]⟩, .bool false, .int .i64 1, .string ⟨#[97]⟩, .bool false, .int .i64 0, .int .i64 0, .int .u64 0, .int .i64 0, .string ⟨#[]⟩, .slice none 0 0] 32)) (some ⟨w.heap.size, 0, none⟩) 1 [opA] := by
  refine ⟨rfl, fun x hx => ?_, fun _ => ⟨w.heap.size, 0, rfl, fun j hj => ?_⟩⟩
  · obtain rfl : x = opA := by simpa using hx
    exact ⟨opA_wf, rfl, fun h => absurd h (by decide)⟩
  · obtain rfl : j = 0 := by omega
    have hn : ∀ (i : Nat) (u : Value), (#[Value.int .i64 0, .string ⟨#[]⟩, .string ⟨#[]⟩, .bool false, .int .i64 1, .string ⟨#[97]⟩, .bool false, .int .i64 0, .int .i64 0, .int .u64 0, .int .i64 0, .string ⟨#[]⟩, .slice none 0 0] : Array Value)[i]? = some u → (w.alloc (.cells #[.int .i64 0, .string ⟨#[]⟩, .string ⟨#[]⟩, .bool false, .int .i64 1, .string ⟨#[97]⟩, .bool false, .int .i64 0, .int .i64 0, .int .u64 0, .int .i64 0, .string ⟨#[]⟩, .slice none 0 0] 32)).cell? ⟨w.heap.size, i, none⟩ = some u := fun i u h => (laid_kept (Below.refl _ _) i u h).1
    exact ⟨hn 0 _ rfl, hn 1 _ rfl, hn 2 _ rfl, hn 3 _ rfl, hn 4 _ rfl, hn 5 _ rfl, hn 6 _ rfl, hn 7 _ rfl, hn 8 _ rfl, hn 9 _ rfl, hn 10 _ rfl, hn 11 _ rfl, hn 12 _ rfl⟩
set_option maxHeartbeats 1000000 in
set_option maxRecDepth 100000 in
theorem awake18_calls (w : World) : Calls Try.prog 10 #[] w fun e w' => e = .returned (.bool true) ∧ Below w.heap.size w w' := by
  go_enter Try.func10, Try.ntmps10
  go_wp2_with fail
  refine (Table_calls ⟨#[98]⟩ _ 1 1 [opA] _ (by decide) (opA_at w) (by decide) (fun i hi => by cases (show i = 0 from Nat.lt_one_iff.1 hi); exact opA_few)).mono ?_
  rintro e w1 ⟨v1, T, rfl, hT, ho1, hb1⟩
  obtain rfl := table_opA hT
  have HB1 := Lib.hid (((Below.refl w.heap.size w).alloc (Nat.le_refl _) _).trans (hb1.mono (by simp)))
  obtain ⟨A1, c1, rfl, hc1, hr1, hn1⟩ := own_rdS ho1
  obtain ⟨b, o, e1, hcell⟩ := hr1.2 (by decide)
  subst e1
  have z0 := hcell 0 (by decide)
  have z1 := hcell 1 (by decide)
  have Hr1 := Lib.hid hr1
  clear hT ho1 hb1 hr1 hcell
  simp only [str, List.getD_cons_zero, List.getD_cons_succ, Nat.add_zero] at z0 z1
  go_wp2_with fail
  refine (Put_calls _ 2 c1 _ _ Hr1.out (fun e => by cases e) hc1 (by decide) (fun s hs => by simp at hs; rcases hs with rfl | rfl <;> decide)).mono ?_
  rintro e w2 ⟨v2, rfl, ho2, hb2⟩
  rw [put_opA] at ho2
  obtain ⟨A2, c2, rfl, _, hr2⟩ := own_rd ho2
  have HB2 := Lib.hid (below_seq HB1.out (Nat.le_refl _) hb2)
  have cv := conv_all (n := 3) (c := c2) hr2
  have hs : strOfNums [1, 1, 97] = ⟨#[1, 1, 97]⟩ := rfl
  rw [hs] at cv
  clear ho2 hb2 hr2 hs
  go_wp2_with fail
  go_ret
  exact ⟨rfl, HB2.out⟩
end Go.Proofs.Ytekhofnfikcpnaa
