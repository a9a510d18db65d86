/-
  Texts joined into one file: Tabs4, Loops, RefShaF, ApK, RefShaA, RefShaB.
-/
import Derived.Test.YtendohnkhbgfbaaDoorJChunkPuts1
import Derived.Test.YtendohnkhbgfbaaDoorJRefPk1
import Derived.Test.YtendohnkhbgfbaaDoorJRefPk3
import Derived.Test.YtendohnkhbgfbaaDoorJRefPk2
import Derived.Deep.DeepAppendRoom
import Derived.Test.YtendohnkhbgfbaaDoorJRefPk4
import Derived.Deep.RegionHeld3
namespace Go.Proofs.YtendohnkhbgfbaaDoor
open Go.RowKit

theorem elU32 : ElT Tryd.prog 65 81 (.int .u32 0) 1 4 := ⟨Tryd.underlying65, by kernel_rfl, rfl, by decide, by decide⟩
structure TwoW (B : Nat) (w W : World) (va : Value) (la : Nat) (a : List Int) (vb : Value) (lb : Nat) (b : List Int) : Prop where
 a : W.ownsRow B 81 1 va la (ints .u32 a)
 b : W.ownsRow B 81 1 vb lb (ints .u32 b)
 apart : Apart va.ownBlock vb.ownBlock
 bel : Below B w W
 sz : B ≤ W.heap.size
theorem TwoW.swap {B : Nat} {w W : World} {va vb : Value} {la lb : Nat} {a b : List Int} (h : TwoW B w W va la a vb lb b) : TwoW B w W vb lb b va la a := ⟨h.b, h.a, h.apart.symm, h.bel, h.sz⟩
theorem TwoW.below {B : Nat} {w W W' : World} {va vb : Value} {la lb : Nat} {a b : List Int} (h : TwoW B w W va la a vb lb b) (hb : Below W.heap.size W W') : TwoW B w W' va la a vb lb b :=
 ⟨own_below h.a hb, own_below h.b hb, h.apart, h.bel.trans (hb.mono h.sz), Nat.le_trans h.sz hb.size⟩
theorem TwoW.grow {B : Nat} {w W W' : World} {va vb : Value} {la lb : Nat} {a b : List Int} (h : TwoW B w W va la a vb lb b) {g cap : Nat} {x : Int} (ho : W'.ownsRow B 81 1 (.slice (some ⟨g, 0, none⟩) (la + 1) cap) (la + 1) (ints .u32 a ++ #[Value.int .u32 x].toList)) (hf : Fr W W' [va.ownBlock]) (hat : va.ownBlock = some g ∨ W.heap.size ≤ g) :
  TwoW B w W' (.slice (some ⟨g, 0, none⟩) (la + 1) cap) (la + 1) (a ++ [x]) vb lb b := by
 refine ⟨?_, own_fr h.b hf (fun o ho => by simp at ho; subst ho; exact h.apart.symm), ?_, h.bel.trans (hf.below h.sz (fun o ho j e => by simp at ho; subst ho; exact (h.a.lt j e).1)), Nat.le_trans h.sz hf.size⟩
 ·rw [ints_append]
  exact ho
 ·intro q hq e
  simp [Value.ownBlock] at hq
  subst hq
  rcases hat with h1 | h1
  ·exact h.apart g h1 e
  ·have := (h.b.lt g e).2
   omega
theorem lo_two {j : Nat} (h : j < 8) : primeN j * 65536 ^ (2 * 2) < 68719476736 ^ 2 := by
 have h1 : ∀ j, j < 8 → primeN j * 65536 ^ (2 * 2) < 68719476736 ^ 2 := by decide
 exact h1 j h
theorem lo_three {j : Nat} (h : j < 64) : primeN j * 65536 ^ (2 * 3) < 68719476736 ^ 3 := by
 have h1 : ∀ j, j < 64 → primeN j * 65536 ^ (2 * 3) < 68719476736 ^ 3 := by decide
 exact h1 j h
theorem prime_small {j : Nat} (h : j < 64) : primeN j < 65536 := by
 have h1 : ∀ j, j < 64 → primeN j < 65536 := by decide
 exact h1 j h
theorem take_nextI {l : List Int} {j : Nat} (h : j < l.length) : l.take (j + 1) = l.take j ++ [rd l j] := by
 rw [List.take_succ_eq_append_getElem h, rd_getElem h]
set_option maxHeartbeats 1000000 in set_option maxRecDepth 100000 in
theorem Tables_calls (w : World) :
  Calls Tryd.prog 34 #[] w fun e w' => ∃ va vb, e = .returned (.tuple #[va, vb]) ∧ Hid (w'.ownsRow w.heap.size 81 1 va 8 (ints .u32 firstL)) ∧ Hid (w'.ownsRow w.heap.size 81 1 vb 64 (ints .u32 keyL)) ∧ Below w.heap.size w w' := by
 go_enter Tryd.func34, Tryd.ntmps34
 go_wp2_with fail
 refine (primes_calls w).mono ?_
 rintro e w1 ⟨vp, rfl, HP, hb1⟩
 obtain ⟨Ap, cp, e1, _, hrp⟩ := own_rd HP.out
 subst e1
 obtain ⟨bp, op, rfl, hxp⟩ := hrp.2 (by omega)
 have Hxp := Lib.hid hxp
 have HB1 := Lib.hid hb1
 clear hrp hxp hb1 HP
 go_wp2_with fail
 go_loopw [3, 4, 5] (fun va vb i wr => ∃ (j la : Nat), j ≤ 64 ∧ la = min j 8 ∧ i = .int .i64 j ∧ Hid (TwoW w1.heap.size w1 wr va la (firstL.take j) vb j (keyL.take j))) (fun _ _ i _ => 64 - (intOf i).toNat)
 case atStart => exact ⟨0, 0, by omega, by simp, rfl, Lib.hid ⟨World.ownsRow_nil _ _ _ _, World.ownsRow_nil _ _ _ _, fun k hk => by simp [Value.ownBlock] at hk, Below.refl _ _, Nat.le_refl _⟩⟩
 case round =>
  obtain ⟨j, la, hj, hla, rfl, HT⟩ := hrel
  obtain ⟨W, hW⟩ : ∃ W, W = wr := ⟨_, rfl⟩
  subst hW
  obtain ⟨Aa, ca, ea⟩ := own_slice HT.out.a
  subst ea
  obtain ⟨Ab, cb, eb⟩ := own_slice HT.out.b
  subst eb
  by_cases hlt : j < 64
  ·have z := kept_cell HT.out.bel (Hxp.out j hlt)
   rw [nz_rd] at z
   have hpn : primeL.getD j 0 = primeN j := rfl
   rw [hpn] at z
   obtain ⟨p, hp⟩ : ∃ p, p = primeN j := ⟨_, rfl⟩
   rw [← hp] at z
   have HPp := Lib.hid hp
   have hpl := prime_small hlt
   rw [← hp] at hpl
   clear hp hpn
   by_cases h8 : j < 8
   ·obtain rfl : la = j := by omega
    clear hla
    go_wp2_with fail
    refine (root_calls p 2 (rootsTwo.getD la 0) W hpl (by omega) (by omega) (by rw [HPp.out]; exact lo_two h8) (by rw [HPp.out]; exact (root_two h8).1)).mono ?_
    rintro e w3 ⟨rfl, hb3⟩
    rw [(root_two h8).2]
    obtain ⟨x, hx⟩ : ∃ x, x = rd firstL la := ⟨_, rfl⟩
    rw [← hx]
    have Hx := Lib.hid hx
    have H3 := Lib.hid (HT.out.below hb3)
    have hs3 := H3.out.sz
    clear hx hb3
    go_wp2_with (at_builtin; refine wpList_app3 rfl _ _ rfl elU32 H3.out.a rfl rfl rfl rfl rfl (by omega) hs3 ?_; intro g5 c5 w5 ho5 hf5 hat5 _; have H5 := Lib.hid (H3.out.grow ho5 hf5 hat5); have z := kept_cell H5.out.bel (Hxp.out la hlt); rw [nz_rd, show primeL.getD la 0 = primeN la from rfl, ← HPp.out] at z; clear ho5 hf5 hat5)
    refine (root_calls p 3 (rootsThree.getD la 0) _ hpl (by omega) (by omega) (by rw [HPp.out]; exact lo_three hlt) (by rw [HPp.out]; exact (root_three hlt).1)).mono ?_
    rintro e w6 ⟨rfl, hb6⟩
    rw [(root_three hlt).2]
    obtain ⟨y, hy⟩ : ∃ y, y = rd keyL la := ⟨_, rfl⟩
    rw [← hy]
    have Hy := Lib.hid hy
    have H6 := Lib.hid (H5.out.below hb6)
    have hs6 := H6.out.sz
    clear hy hb6
    go_wp2_with (at_builtin; refine wpList_app3 rfl _ _ rfl elU32 H6.out.b rfl rfl rfl rfl rfl (by omega) hs6 ?_; intro g7 c7 w7 ho7 hf7 hat7 _; have H7 := Lib.hid (H6.out.swap.grow ho7 hf7 hat7).swap; clear ho7 hf7 hat7)
    go_roundw
    case rel =>
     refine ⟨la + 1, la + 1, by omega, by omega, by go_num, ?_⟩
     have h9 := H7.out
     rw [Hy.out, ← take_nextI (show la < keyL.length from hlt), Hx.out, ← take_nextI (show la < firstL.length from h8)] at h9
     exact Lib.hid h9
    case measure => simp [intOf]; omega
   ·have h88 := Lib.hid (show la = 8 by omega)
    have hla8 : la ≤ 8 := by omega
    clear hla
    go_wp2_with fail
    refine (root_calls p 3 (rootsThree.getD j 0) _ hpl (by omega) (by omega) (by rw [HPp.out]; exact lo_three hlt) (by rw [HPp.out]; exact (root_three hlt).1)).mono ?_
    rintro e w6 ⟨rfl, hb6⟩
    rw [(root_three hlt).2]
    obtain ⟨y, hy⟩ : ∃ y, y = rd keyL j := ⟨_, rfl⟩
    rw [← hy]
    have Hy := Lib.hid hy
    have H6 := Lib.hid (HT.out.below hb6)
    have hs6 := H6.out.sz
    clear hy hb6
    go_wp2_with (at_builtin; refine wpList_app3 rfl _ _ rfl elU32 H6.out.b rfl rfl rfl rfl rfl (by omega) hs6 ?_; intro g7 c7 w7 ho7 hf7 hat7 _; have H7 := Lib.hid (H6.out.swap.grow ho7 hf7 hat7).swap; clear ho7 hf7 hat7)
    go_roundw
    case rel =>
     refine ⟨j + 1, la, by omega, by have := h88.out; omega, by go_num, ?_⟩
     have h9 := H7.out
     rw [Hy.out, ← take_nextI (show j < keyL.length from hlt), show firstL.take j = firstL.take (j + 1) by rw [List.take_of_length_le (show firstL.length ≤ j by show 8 ≤ j; omega), List.take_of_length_le (show firstL.length ≤ j + 1 by show 8 ≤ j + 1; omega)]] at h9
     exact Lib.hid h9
    case measure => simp [intOf]; omega
  ·obtain rfl : j = 64 := by omega
   obtain rfl : la = 8 := by omega
   have Ha := Lib.hid (own_mono HT.out.a HB1.out.size)
   have Hb := Lib.hid (own_mono HT.out.b HB1.out.size)
   have Hbb := Lib.hid (below_seq HB1.out (Nat.le_refl _) HT.out.bel)
   clear hla HT
   go_wp2_with fail
   refine bodyPost_ret (v := .tuple #[.slice Aa 8 ca, .slice Ab 64 cb]) (by simp [results, Tryd.results34, go_sem]) rfl ⟨_, _, rfl, Ha, Hb, Hbb.out⟩
end Go.Proofs.YtendohnkhbgfbaaDoor
namespace Go.Proofs.YtendohnkhbgfbaaDoor
open Go.RowKit

def loopsOf : Code → List Code
 | .loop c => [c]
 | .seq a b => loopsOf a ++ loopsOf b
 | .block _ c => loopsOf c
 | .cond _ a b => loopsOf a ++ loopsOf b
 | _ => []
noncomputable def shaLoops : List Code := loopsOf (Tryd.f35.body.getD .skip)
theorem shaLoops_four : shaLoops.length = 4 := by kernel_rfl
noncomputable def shaBlock : Code := shaLoops.getD 2 .skip
theorem shaBlock_two : (loopsOf shaBlock).length = 2 := by kernel_rfl
noncomputable def shaWords : Code := (loopsOf shaBlock).getD 0 .skip
noncomputable def shaRounds : Code := (loopsOf shaBlock).getD 1 .skip
end Go.Proofs.YtendohnkhbgfbaaDoor
namespace Go.Proofs.YtendohnkhbgfbaaDoor
open Go.RowKit

def getL : List Value → Nat → Value
 | [], _ => undef
 | x :: _, 0 => x
 | _ :: l, n + 1 => getL l n
def getU (a : Act) (n : Nat) : Value := getL a.tmps.toList n
set_option maxRecDepth 100000 in
def fB (u : Nat → Value) (fk rc al sv at0 : Value) : Act := ⟨#[u 0, u 1, fk, u 3, u 4, u 5, rc, al, u 8, u 9, sv, at0, u 12, u 13, u 14, u 15, u 16, u 17, u 18, u 19, u 20, u 21, u 22, u 23, u 24, u 25, u 26, u 27, u 28, u 29, u 30, u 31, 
 u 32, u 33, u 34, u 35, u 36, u 37, u 38, u 39, u 40, u 41, u 42, u 43, u 44, u 45, u 46, u 47, u 48, u 49, u 50, u 51, u 52, u 53, u 54, u 55, u 56, u 57, u 58, u 59, u 60, u 61, 
 u 62, u 63, u 64, u 65, u 66, u 67, u 68, u 69, u 70, u 71, u 72, u 73, u 74, u 75, u 76, u 77, u 78, u 79, u 80, u 81, u 82, u 83, u 84, u 85, u 86, u 87, u 88, u 89, u 90, u 91, 
 u 92, u 93, u 94, u 95, u 96, u 97, u 98, u 99, u 100, u 101, u 102, u 103, u 104, u 105, u 106, u 107, u 108, u 109, u 110, u 111, u 112, u 113, u 114, u 115, u 116, u 117, 
 u 118, u 119, u 120, u 121, u 122, u 123, u 124, u 125, u 126, u 127, u 128, u 129, u 130, u 131, u 132, u 133, u 134, u 135, u 136, u 137, u 138, u 139, u 140, u 141, u 142, 
 u 143, u 144, u 145, u 146, u 147, u 148, u 149, u 150, u 151, u 152, u 153, u 154, u 155, u 156, u 157, u 158, u 159, u 160, u 161, u 162, u 163, u 164, u 165, u 166, u 167, 
 u 168, u 169, u 170, u 171, u 172, u 173, u 174, u 175, u 176, u 177, u 178, u 179, u 180, u 181, u 182, u 183, u 184, u 185, u 186, u 187, u 188, u 189, u 190, u 191, u 192, 
 u 193, u 194, u 195, u 196, u 197, u 198, u 199, u 200, u 201, u 202, u 203, u 204, u 205, u 206, u 207, u 208, u 209, u 210, u 211, u 212, u 213, u 214, u 215, u 216, u 217, 
 u 218, u 219, u 220, u 221, u 222, u 223, u 224, u 225, u 226, u 227, u 228, u 229, u 230, u 231, u 232, u 233, u 234, u 235, u 236, u 237, u 238, u 239, u 240, u 241, u 242, 
 u 243, u 244, u 245, u 246, u 247, u 248, u 249, u 250, u 251, u 252, u 253, u 254, u 255, u 256, u 257, u 258, u 259, u 260, u 261, u 262, u 263, u 264, u 265, u 266, u 267, 
 u 268, u 269, u 270, u 271, u 272, u 273, u 274, u 275, u 276, u 277, u 278, u 279, u 280, u 281, u 282, u 283, u 284, u 285], []⟩
set_option maxRecDepth 100000 in
def fW (u : Nat → Value) (fk rc al sv at0 wl i0 : Value) : Act := ⟨#[u 0, u 1, fk, u 3, u 4, u 5, rc, al, u 8, u 9, sv, at0, wl, i0, u 14, u 15, u 16, u 17, u 18, u 19, u 20, u 21, u 22, u 23, u 24, u 25, u 26, u 27, u 28, u 29, u 30, u 31, u 32, 
 u 33, u 34, u 35, u 36, u 37, u 38, u 39, u 40, u 41, u 42, u 43, u 44, u 45, u 46, u 47, u 48, u 49, u 50, u 51, u 52, u 53, u 54, u 55, u 56, u 57, u 58, u 59, u 60, u 61, u 62, 
 u 63, u 64, u 65, u 66, u 67, u 68, u 69, u 70, u 71, u 72, u 73, u 74, u 75, u 76, u 77, u 78, u 79, u 80, u 81, u 82, u 83, u 84, u 85, u 86, u 87, u 88, u 89, u 90, u 91, u 92, 
 u 93, u 94, u 95, u 96, u 97, u 98, u 99, u 100, u 101, u 102, u 103, u 104, u 105, u 106, u 107, u 108, u 109, u 110, u 111, u 112, u 113, u 114, u 115, u 116, u 117, u 118, 
 u 119, u 120, u 121, u 122, u 123, u 124, u 125, u 126, u 127, u 128, u 129, u 130, u 131, u 132, u 133, u 134, u 135, u 136, u 137, u 138, u 139, u 140, u 141, u 142, u 143, 
 u 144, u 145, u 146, u 147, u 148, u 149, u 150, u 151, u 152, u 153, u 154, u 155, u 156, u 157, u 158, u 159, u 160, u 161, u 162, u 163, u 164, u 165, u 166, u 167, u 168, 
 u 169, u 170, u 171, u 172, u 173, u 174, u 175, u 176, u 177, u 178, u 179, u 180, u 181, u 182, u 183, u 184, u 185, u 186, u 187, u 188, u 189, u 190, u 191, u 192, u 193, 
 u 194, u 195, u 196, u 197, u 198, u 199, u 200, u 201, u 202, u 203, u 204, u 205, u 206, u 207, u 208, u 209, u 210, u 211, u 212, u 213, u 214, u 215, u 216, u 217, u 218, 
 u 219, u 220, u 221, u 222, u 223, u 224, u 225, u 226, u 227, u 228, u 229, u 230, u 231, u 232, u 233, u 234, u 235, u 236, u 237, u 238, u 239, u 240, u 241, u 242, u 243, 
 u 244, u 245, u 246, u 247, u 248, u 249, u 250, u 251, u 252, u 253, u 254, u 255, u 256, u 257, u 258, u 259, u 260, u 261, u 262, u 263, u 264, u 265, u 266, u 267, u 268, 
 u 269, u 270, u 271, u 272, u 273, u 274, u 275, u 276, u 277, u 278, u 279, u 280, u 281, u 282, u 283, u 284, u 285], []⟩
set_option maxRecDepth 100000 in
def fR (u : Nat → Value) (fk rc al sv at0 wl xa xb xc xd xe xf xg xh i0 : Value) : Act := ⟨#[u 0, u 1, fk, u 3, u 4, u 5, rc, al, u 8, u 9, sv, at0, wl, u 13, u 14, u 15, u 16, u 17, xa, xb, xc, xd, xe, xf, xg, xh, i0, u 27, u 28, u 29, u 30, u 31, u 32, u 33, u 34, u 35, 
 u 36, u 37, u 38, u 39, u 40, u 41, u 42, u 43, u 44, u 45, u 46, u 47, u 48, u 49, u 50, u 51, u 52, u 53, u 54, u 55, u 56, u 57, u 58, u 59, u 60, u 61, u 62, u 63, u 64, u 65, 
 u 66, u 67, u 68, u 69, u 70, u 71, u 72, u 73, u 74, u 75, u 76, u 77, u 78, u 79, u 80, u 81, u 82, u 83, u 84, u 85, u 86, u 87, u 88, u 89, u 90, u 91, u 92, u 93, u 94, u 95, 
 u 96, u 97, u 98, u 99, u 100, u 101, u 102, u 103, u 104, u 105, u 106, u 107, u 108, u 109, u 110, u 111, u 112, u 113, u 114, u 115, u 116, u 117, u 118, u 119, u 120, u 121, 
 u 122, u 123, u 124, u 125, u 126, u 127, u 128, u 129, u 130, u 131, u 132, u 133, u 134, u 135, u 136, u 137, u 138, u 139, u 140, u 141, u 142, u 143, u 144, u 145, u 146, 
 u 147, u 148, u 149, u 150, u 151, u 152, u 153, u 154, u 155, u 156, u 157, u 158, u 159, u 160, u 161, u 162, u 163, u 164, u 165, u 166, u 167, u 168, u 169, u 170, u 171, 
 u 172, u 173, u 174, u 175, u 176, u 177, u 178, u 179, u 180, u 181, u 182, u 183, u 184, u 185, u 186, u 187, u 188, u 189, u 190, u 191, u 192, u 193, u 194, u 195, u 196, 
 u 197, u 198, u 199, u 200, u 201, u 202, u 203, u 204, u 205, u 206, u 207, u 208, u 209, u 210, u 211, u 212, u 213, u 214, u 215, u 216, u 217, u 218, u 219, u 220, u 221, 
 u 222, u 223, u 224, u 225, u 226, u 227, u 228, u 229, u 230, u 231, u 232, u 233, u 234, u 235, u 236, u 237, u 238, u 239, u 240, u 241, u 242, u 243, u 244, u 245, u 246, 
 u 247, u 248, u 249, u 250, u 251, u 252, u 253, u 254, u 255, u 256, u 257, u 258, u 259, u 260, u 261, u 262, u 263, u 264, u 265, u 266, u 267, u 268, u 269, u 270, u 271, 
 u 272, u 273, u 274, u 275, u 276, u 277, u 278, u 279, u 280, u 281, u 282, u 283, u 284, u 285], []⟩
def OnlyExit (k : Nat) (R : Act → World → Prop) : Exit → Act → World → Prop
 | .exit i, a, w => i = k ∧ R a w
 | _, _, _ => False
theorem wp_onlyExit {P : Program} {c : Code} {Q : Exit → Act → World → Prop} {a : Act} {w : World} {k : Nat} {R : Act → World → Prop} (h : c.wp P (OnlyExit k R) a w) (hR : ∀ a' w', R a' w' → Q (.exit k) a' w') : c.wp P Q a w :=
 Code.wp_mono (fun e a' w' hq => by
  cases e with
  | exit i => obtain ⟨hk, hr⟩ := hq; subst hk; exact hR _ _ hr
  | normal => exact hq.elim
  | goto _ => exact hq.elim
  | ret => exact hq.elim
  | panic _ => exact hq.elim
  | outgrown => exact hq.elim) h
end Go.Proofs.YtendohnkhbgfbaaDoor
namespace Go.Proofs.YtendohnkhbgfbaaDoor
open Go.RowKit

theorem news_rd {w : World} {k : IntKind} {A : Addr} {m : Nat} {zs : List Int} (hR : Rd w k (some A) m zs) (hm : 0 < m) : ∀ j u, (ints k zs)[j]? = some u → w.cell? (A.add j) = some u := by
 intro j u hu
 have hl := hR.1
 have hj : j < zs.length := by
  have := (List.getElem?_eq_some_iff.1 hu).1
  rwa [ints_length] at this
 obtain ⟨b, o', e', hc⟩ := hR.2 hm
 cases e'
 rw [ints_get hj] at hu
 cases hu
 rw [addr_add]
 exact hc j (by omega)
theorem rd_lit1 (w : World) (k : IntKind) (z : Int) (T : TypeId) : Rd (w.alloc (.cells #[.int k z] T)) k (some ⟨w.heap.size, 0, none⟩) 1 [z] :=
 ⟨rfl, fun _ => ⟨w.heap.size, 0, rfl, fun j hj => by
  obtain rfl : j = 0 := by omega
  rw [cell_of_row _ w.heap.size _ _ _ (0, 0) (heap_alloc_new w _)]
  rfl⟩⟩
theorem run_append_keep {P : Program} {w : World} {t ty e : TypeId} {k : IntKind} {bytes : Nat} (El : ElT P t e (.int k 0) 1 bytes) {base g n cap : Nat} {ys : List Int} (hown : w.ownsRow base e 1 (.slice (some ⟨g, 0, none⟩) n cap) n (ints k ys))
  {A : Addr} {m c : Nat} {zs : List Int} (hR : Rd w k (some A) m zs) (hm : 0 < m) (hbytes : (n + m) * bytes ≤ 140737488355328) (hbase : base ≤ w.heap.size) :
  ∃ v' w', (Builtin.append_ #[t, t] ty #[.slice (some ⟨g, 0, none⟩) n cap, .slice (some A) m c]).run P w = .ok v' w' ∧ w'.ownsRow base e 1 v' (n + m) (ints k (ys ++ zs)) ∧ w.grownBy w' (some g) ∧ ∀ j, j < n → w'.cell? ⟨g, j, none⟩ = w.cell? ⟨g, j, none⟩ := by
 obtain ⟨i0, hi, hz0, hz1, hz2⟩ := info_parts El.info
 have hn : n + m ≤ maxLen := by
  have := Nat.mul_le_mul_left (n + m) El.bpos
  unfold maxLen
  omega
 have hnews := news_rd hR hm
 have hone : ∀ u ∈ ints k zs, u.oneCell' = true := fun u hu => by
  obtain ⟨q, _, rfl⟩ := List.mem_map.1 hu
  rfl
 have hlz : (ints k zs).length = m * 1 := by rw [ints_length, hR.1, Nat.mul_one]
 have hly : (ints k ys).length = n * 1 := hown.1
 have hold := hown.cells (g := g) rfl
 by_cases hroom : n + m ≤ cap
 ·obtain ⟨w', hr, ho, hg⟩ := run_append_own_spare (P := P) w base t ty e i0 1 El.und hi hz1 g n cap _ hown A m c (ints k zs) hlz hnews hone hroom
  refine ⟨_, w', hr, by rw [ints_append]; exact ho, hg, fun j hj => ?_⟩
  have h0 : (ints k ys)[j]? = some ((ints k ys)[j]'(by omega)) := List.getElem?_eq_getElem _
  have h1 := hold j _ h0
  have h2 := ho.cells (g := g) rfl j ((ints k ys)[j]'(by omega)) (by rw [List.getElem?_append_left (by omega)]; exact h0)
  rw [addr_add, Nat.zero_add] at h1 h2
  rw [h1, h2]
 ·have hc1 : (n + m : Nat) ≤ 9223372036854775807 := by unfold maxLen at hn; omega
  have hr := run_append_grow (P := P) w t ty e i0 _ El.und hi hz0 ⟨g, 0, none⟩ n cap (ints k ys) (by rw [hz1]; exact hly) hold A m c (ints k zs) (by rw [hz1]; exact hlz) hnews (by omega) (by omega) (growslice_fits (by omega) (by rw [hz2]; exact hbytes))
  obtain ⟨v', w', hr2, ho, hg, _, _⟩ := run_append_own_at (P := P) w base t ty e i0 _ 1 bytes El.und hi hz0 hz1 hz2 El.zs El.pos _ n _ hown A m c (ints k zs) hlz hnews hone hn hbytes hbase
  have e9 := hr.symm.trans hr2
  cases e9
  refine ⟨_, _, hr, by rw [ints_append]; exact ho, hg, fun j hj => World.cell?_of_block (heap_alloc_old w.drew _ ?_)⟩
  exact (hown.lt g rfl).2
theorem step_appKeep {P : Program} {w : World} {ops : Array Oper} {o : Oper} {a : Act} {K : Act → World → Prop} {Q : Exit → Act → World → Prop} {E : Prop} (hgd : o.guard = none) (s x : Operand) {t : TypeId}
  (ho : o.op = .call { callee := .builtin .append, args := #[s, x], argTypes := #[t, t] })
  {base : Nat} {e : TypeId} {k : IntKind} {bytes : Nat} (El : ElT P t e (.int k 0) 1 bytes) {g n cap : Nat} {ys : List Int} (hown : w.ownsRow base e 1 (.slice (some ⟨g, 0, none⟩) n cap) n (ints k ys)) (hs : a.eval s = .slice (some ⟨g, 0, none⟩) n cap)
  {A : Addr} {m c : Nat} {zs : List Int} (hx : a.eval x = .slice (some A) m c) (hR : Rd w k (some A) m zs) (hm : 0 < m) (hbytes : (n + m) * bytes ≤ 140737488355328) (hbase : base ≤ w.heap.size)
  (h : ∀ v' w', w'.ownsRow base e 1 v' (n + m) (ints k (ys ++ zs)) → w.grownBy w' (some g) → (∀ j, j < n → w'.cell? ⟨g, j, none⟩ = w.cell? ⟨g, j, none⟩) → K (a.put o.dst v') w') : if Region.wanted o (yielded ops a.tmps) = true then Oper.wp P o a w K Q else E := by
 have hw : Region.wanted o (yielded ops a.tmps) = true := by simp [Region.wanted, hgd]
 rw [if_pos hw]
 obtain ⟨v', w', hr, h1, h2, h3⟩ := run_append_keep (P := P) (ty := o.type) (c := c) El hown hR hm hbytes hbase
 have h9 := h v' w' h1 h2 h3
 unfold Oper.wp execOp
 simp only [ho, resolve, invoke, builtin, Sem.run_bind, Sem.run_pure, Result.andThen_ok, List.map_toArray, List.map_cons, List.map_nil, hs, hx, hr]
 exact h9
end Go.Proofs.YtendohnkhbgfbaaDoor
namespace Go.Proofs.YtendohnkhbgfbaaDoor
open Go.RowKit

def schL (b : List Int) (p j : Nat) : List Int := (List.range j).map fun i => wv (sch b p i)
theorem schL_length (b : List Int) (p j : Nat) : (schL b p j).length = j := by simp [schL]
theorem schL_rd (b : List Int) (p : Nat) {j i : Nat} (h : i < j) : rd (schL b p j) i = wv (sch b p i) := by
 rw [rd_getElem (by rw [schL_length]; exact h)]
 simp [schL]
theorem schL_next (b : List Int) (p j : Nat) : schL b p (j + 1) = schL b p j ++ [wv (sch b p j)] := by
 unfold schL
 rw [List.range_succ, List.map_append]
 rfl
def beT (b : List Int) (p : Nat) : Nat → Int
 | 0 => 0
 | k + 1 => beT b p k * 256 + rd b (p + k)
theorem beT_four {b : List Int} {p : Nat} (h : ∀ i, i < 4 → 0 ≤ rd b (p + i) ∧ rd b (p + i) ≤ 255) : beT b p 4 = wv (be4 b p) := by
 have h0 := h 0 (by omega)
 have h1 := h 1 (by omega)
 have h2 := h 2 (by omega)
 have h3 := h 3 (by omega)
 unfold be4 wv
 rw [BitVec.toNat_ofNat]
 simp only [beT, Nat.add_zero] at *
 omega
set_option maxHeartbeats 2000000 in
set_option maxRecDepth 100000 in
theorem sha_words {a : Act} {W : World} (fk rc sv : Value) (Ae : Option Addr) (ce M t : Nat) (P : List Int) (hM : t + 64 ≤ M) (hM9 : M ≤ 100000200) (hPr : Rd W .u8 Ae M P) (hPb : ∀ j, j < M → 0 ≤ rd P j ∧ rd P j ≤ 255)
  (ha : a = fW (getU a) fk rc (.slice Ae M ce) sv (.int .i64 t) (.slice none 0 0) (.int .i64 0)) :
  Code.wp Tryd.prog (Code.loop shaWords) (OnlyExit 6 fun a' w' => ∃ v, Hid (w'.ownsRow W.heap.size 81 1 v 64 (ints .u32 (schL P t 64))) ∧ Hid (Below W.heap.size W w') ∧ a' = fW (getU a') fk rc (.slice Ae M ce) sv (.int .i64 t) v (.int .i64 64)) a W := by
 have HPr := Lib.hid hPr
 have HPb := Lib.hid hPb
 clear hPr hPb
 refine wp_loop_ghost_k (fun n a' w' => ∃ (v : Value) (j : Nat), j + n = 64 ∧ Hid (w'.ownsRow W.heap.size 81 1 v j (ints .u32 (schL P t j))) ∧ Hid (Below W.heap.size W w') ∧ a' = fW (getU a') fk rc (.slice Ae M ce) sv (.int .i64 t) v (.int .i64 j)) 64 ⟨.slice none 0 0, 0, by omega, Lib.hid (World.ownsRow_nil _ _ _ _), Lib.hid (Below.refl _ _), ha⟩ ?_
 clear ha
 rintro n a' W4 ⟨v, j, hj, HW, HX4, ha⟩ J K hJ hK
 obtain ⟨u, hu⟩ : ∃ u, u = getU a' := ⟨_, rfl⟩
 rw [← hu] at ha
 clear hu
 subst ha
 have HJ := Lib.hid hJ
 clear hJ
 have hs4 : W.heap.size ≤ W4.heap.size := HX4.out.size
 obtain ⟨Aw, cw, hvw⟩ := own_slice HW.out
 subst hvw
 conv => arg 4; unfold fW
 conv => arg 2; whnf
 by_cases hlt2 : j < 64
 ·by_cases h16 : j < 16
  ·obtain ⟨j4, hj4⟩ : ∃ j4, j4 = 4 * j := ⟨_, rfl⟩
   have hj4i : IntKind.i64.wrap (4 * (j : Int)) = (j4 : Int) := by rw [IntWalk.i64_in _ (by omega)]; omega
   have hj460 : j4 ≤ 60 := by omega
   have Hj4 := Lib.hid hj4
   have Hrp := Lib.hid (HPr.out.below HX4.out)
   clear hj4
   go_wp2_with fail
   go_loopw [14, 15] (fun xv i wy => ∃ (k : Nat) (y : Int), k ≤ 4 ∧ i = .int .i64 k ∧ xv = .int .u32 y ∧ 0 ≤ y ∧ Hid (y < 256 ^ k) ∧ Hid (y = beT P (t + j4) k) ∧ Hid (wy = W4)) (fun _ i _ => 4 - (intOf i).toNat)
   case atStart => exact ⟨0, 0, by omega, rfl, rfl, by omega, Lib.hid (by decide), Lib.hid rfl, Lib.hid (by trivial)⟩
   case round =>
    obtain ⟨k, y, hk4, rfl, rfl, hy0, Hy1, Hy2, HWW⟩ := hrel
    have hWW := HWW.out
    subst hWW
    obtain ⟨W4, hW4⟩ : ∃ W, W = wr := ⟨_, rfl⟩
    subst hW4
    by_cases hlt5 : k < 4
    ·obtain ⟨bp, op, rfl, hxp⟩ := Hrp.out.2 (by omega)
     have z := hxp (t + j4 + k) (by omega)
     have hbt := HPb.out (t + j4 + k) (by omega)
     have hy3 : y ≤ 16777215 := by
      have h1 := Hy1.out
      rcases (show k = 0 ∨ k = 1 ∨ k = 2 ∨ k = 3 by omega) with rfl | rfl | rfl | rfl <;> simp at h1 <;> omega
     obtain ⟨x, hx⟩ : ∃ x, x = rd P (t + j4 + k) := ⟨_, rfl⟩
     rw [← hx] at z hbt
     have Hx := Lib.hid hx
     clear hxp hx
     go_wp2_with fail
     go_roundw
     case rel =>
      refine ⟨k + 1, y * 256 + x, by omega, by go_num, by go_num, by omega, Lib.hid ?_, Lib.hid (by rw [Hy2.out, Hx.out]; rfl), Lib.hid (by trivial)⟩
      have h1 := Hy1.out
      rcases (show k = 0 ∨ k = 1 ∨ k = 2 ∨ k = 3 by omega) with rfl | rfl | rfl | rfl <;> simp at h1 ⊢ <;> omega
     case measure => simp [intOf]; omega
    ·obtain rfl : k = 4 := by omega
     have hys : y = wv (sch P t j) := by
      rw [Hy2.out, sch_low h16, ← Hj4.out]
      exact beT_four (fun i hi => HPb.out _ (by omega))
     have Hys := Lib.hid hys
     clear hys
     go_wp2_with (at_builtin; refine wpList_app1 rfl _ _ rfl elU32 HW.out rfl rfl rfl rfl (by omega) hs4 ?_; intro v5 w5 hown5 hbel5 _; have Hown5 := Lib.hid hown5; have Hbel5 := Lib.hid hbel5; clear hown5 hbel5)
     have h5 := Hown5.out
     rw [show ints .u32 (schL P t j) ++ #[Value.int .u32 y].toList = ints .u32 (schL P t (j + 1)) by rw [schL_next, ← Hys.out]; simp [ints]] at h5
     exact Handed.intro (n - 1) (by omega) (HJ.out _ _ _ ⟨_, j + 1, by omega, Lib.hid h5, Lib.hid (HX4.out.trans Hbel5.out), rfl⟩)
  ·obtain ⟨bw, cw', hvw, hgw, _⟩ := HW.out.form (by omega)
   cases hvw
   obtain ⟨_, _, ea, _, hrw⟩ := own_rd HW.out
   cases ea
   obtain ⟨_, _, ea, hxw⟩ := hrw.2 (by omega)
   cases ea
   simp only [Nat.zero_add] at hxw
   have z15 := hxw (j - 15) (by omega)
   have z2 := hxw (j - 2) (by omega)
   have z16 := hxw (j - 16) (by omega)
   have z7 := hxw (j - 7) (by omega)
   rw [schL_rd _ _ (by omega)] at z15 z2 z16 z7
   have hsc := Lib.hid (sch_high (b := P) (p := t) (j := j) (by omega))
   obtain ⟨x15, hx15⟩ : ∃ x, x = sch P t (j - 15) := ⟨_, rfl⟩
   obtain ⟨x2, hx2⟩ : ∃ x, x = sch P t (j - 2) := ⟨_, rfl⟩
   obtain ⟨x16, hx16⟩ : ∃ x, x = sch P t (j - 16) := ⟨_, rfl⟩
   obtain ⟨x7, hx7⟩ : ∃ x, x = sch P t (j - 7) := ⟨_, rfl⟩
   rw [← hx15, ← hx2, ← hx16, ← hx7] at hsc
   rw [← hx15] at z15
   rw [← hx2] at z2
   rw [← hx16] at z16
   rw [← hx7] at z7
   clear hx15 hx2 hx16 hx7 hxw hrw
   obtain ⟨i16, hi16⟩ : ∃ i, i = j - 16 := ⟨_, rfl⟩
   obtain ⟨i7, hi7⟩ : ∃ i, i = j - 7 := ⟨_, rfl⟩
   rw [← hi16] at z16
   rw [← hi7] at z7
   have hw16 : IntKind.i64.wrap ((j : Int) - 16) = (i16 : Int) := by rw [IntWalk.i64_in _ (by omega)]; omega
   have hw7 : IntKind.i64.wrap ((j : Int) - 7) = (i7 : Int) := by rw [IntWalk.i64_in _ (by omega)]; omega
   have hi16j : i16 < j := by omega
   have hi7j : i7 < j := by omega
   clear hi16 hi7
   go_wp2_with fail
   go_region
   obtain ⟨W5, hW5⟩ : ∃ X, X = W4.drew := ⟨_, rfl⟩
   have y16 : W5.cell? ⟨bw, i16, none⟩ = some (.int .u32 (wv x16)) := by rw [hW5]; exact z16
   have y7 : W5.cell? ⟨bw, i7, none⟩ = some (.int .u32 (wv x7)) := by rw [hW5]; exact z7
   have HW5 : Hid (W5.ownsRow W.heap.size 81 1 (.slice (some ⟨bw, 0, none⟩) j cw) j (ints .u32 (schL P t j))) := by rw [hW5]; exact HW
   have HX5 : Hid (Below W.heap.size W W5) := by rw [hW5]; exact Lib.hid ⟨HX4.out.os, HX4.out.tape, HX4.out.output, HX4.out.size, HX4.out.block⟩
   have hs5 : W.heap.size ≤ W5.heap.size := HX5.out.size
   rw [← hW5]
   clear hW5 z16 z7 z15 z2
   go_wp2_with fail
   --G26
   have d16 : W5.drew.cell? ⟨bw, i16, none⟩ = some (.int .u32 (wv x16)) := y16
   have d7 : W5.drew.cell? ⟨bw, i7, none⟩ = some (.int .u32 (wv x7)) := y7
   have D16 := Lib.hid d16
   have D7 := Lib.hid d7
   refine wp_region_noPanic ?_
   refine wp_region_held_drew (S := fun W => W.cell? ⟨bw, i16, none⟩ = some (.int .u32 (wv x16)) ∧ W.cell? ⟨bw, i7, none⟩ = some (.int .u32 (wv x7))) (by kernel_rfl) (⟨d16, d7⟩) (fun hHeld => ?_)
   refine' wpAnyH_take (i := 0) (oi := ⟨_, _, _, _, _, _⟩) rfl (by kernel_rfl) (by kernel_rfl) (by kernel_rfl) (fun _ _ _ h => h) (Or.inl ⟨by rfl, ?a0⟩) (by assumption) ?b0
   case a0 => (intro w hSw; (try dsimp only at hSw); go_simp; try with_reducible rfl)
   try simp only [Act.put, List.setIfInBounds_toArray, List.set_cons_zero, List.set_cons_succ]
   refine' wpAnyH_take (i := 1) (oi := ⟨_, _, _, _, _, _⟩) rfl (by kernel_rfl) (by kernel_rfl) (by kernel_rfl) (fun _ _ _ h => h) (Or.inl ⟨by rfl, ?a1⟩) (by assumption) ?b1
   case a1 => (intro w hSw; (try dsimp only at hSw); go_simp; try with_reducible rfl)
   try simp only [Act.put, List.setIfInBounds_toArray, List.set_cons_zero, List.set_cons_succ]
   refine' wpAnyH_take (i := 2) (oi := ⟨_, _, _, _, _, _⟩) rfl (by kernel_rfl) (by kernel_rfl) (by kernel_rfl) (fun _ _ _ h => h) (Or.inl ⟨by rfl, ?a2⟩) (by assumption) ?b2
   case a2 => (intro w hSw; (try dsimp only at hSw); go_simp; try with_reducible rfl)
   try simp only [Act.put, List.setIfInBounds_toArray, List.set_cons_zero, List.set_cons_succ]
   refine' wpAnyH_take (i := 3) (oi := ⟨_, _, _, _, _, _⟩) rfl (by kernel_rfl) (by kernel_rfl) (by kernel_rfl) (fun _ _ _ h => h) (Or.inl ⟨by rfl, ?a3⟩) (by assumption) ?b3
   case a3 => (intro w hSw; (try dsimp only at hSw); go_simp; try with_reducible rfl)
   try simp only [Act.put, List.setIfInBounds_toArray, List.set_cons_zero, List.set_cons_succ]
   refine' wpAnyH_take (i := 4) (oi := ⟨_, _, _, _, _, _⟩) rfl (by kernel_rfl) (by kernel_rfl) (by kernel_rfl) (fun _ _ _ h => h) (Or.inl ⟨by rfl, ?a4⟩) (by assumption) ?b4
   case a4 => (intro w hSw; (try dsimp only at hSw); go_simp; try with_reducible rfl)
   try simp only [Act.put, List.setIfInBounds_toArray, List.set_cons_zero, List.set_cons_succ]
   refine' wpAnyH_take (i := 5) (oi := ⟨_, _, _, _, _, _⟩) rfl (by kernel_rfl) (by kernel_rfl) (by kernel_rfl) (fun _ _ _ h => h) (Or.inl ⟨by rfl, ?a5⟩) (by assumption) ?b5
   case a5 => (intro w hSw; (try dsimp only at hSw); go_simp; try with_reducible rfl)
   try simp only [Act.put, List.setIfInBounds_toArray, List.set_cons_zero, List.set_cons_succ]
   refine' wpAnyH_take (i := 6) (oi := ⟨_, _, _, _, _, _⟩) rfl (by kernel_rfl) (by kernel_rfl) (by kernel_rfl) (fun _ _ _ h => h) (Or.inl ⟨by rfl, ?a6⟩) (by assumption) ?b6
   case a6 => (intro w hSw; (try dsimp only at hSw); go_simp; try with_reducible rfl)
   try simp only [Act.put, List.setIfInBounds_toArray, List.set_cons_zero, List.set_cons_succ]
   refine' wpAnyH_take (i := 8) (oi := ⟨_, _, _, _, _, _⟩) rfl (by kernel_rfl) (by kernel_rfl) (by kernel_rfl) (fun _ _ _ h => h) (Or.inl ⟨by rfl, ?a7⟩) (by assumption) ?b7
   case a7 => (intro w hSw; (try dsimp only at hSw); go_simp; try with_reducible rfl)
   try simp only [Act.put, List.setIfInBounds_toArray, List.set_cons_zero, List.set_cons_succ]
   refine' wpAnyH_take (i := 11) (oi := ⟨_, _, _, _, _, _⟩) rfl (by kernel_rfl) (by kernel_rfl) (by kernel_rfl) (fun _ _ _ h => h) (Or.inl ⟨by rfl, ?a8⟩) (by assumption) ?b8
   case a8 => (intro w hSw; (try dsimp only at hSw); go_simp; try with_reducible rfl)
   try simp only [Act.put, List.setIfInBounds_toArray, List.set_cons_zero, List.set_cons_succ]
   refine' wpAnyH_take (i := 15) (oi := ⟨_, _, _, _, _, _⟩) rfl (by kernel_rfl) (by kernel_rfl) (by kernel_rfl) (fun _ _ _ h => h) (Or.inl ⟨by rfl, ?a9⟩) (by assumption) ?b9
   case a9 => (intro w hSw; (try dsimp only at hSw); go_simp; try with_reducible rfl)
   try simp only [Act.put, List.setIfInBounds_toArray, List.set_cons_zero, List.set_cons_succ]
   refine' wpAnyH_take (i := 16) (oi := ⟨_, _, _, _, _, _⟩) rfl (by kernel_rfl) (by kernel_rfl) (by kernel_rfl) (fun _ _ _ h => h) (Or.inl ⟨by rfl, ?a10⟩) (by assumption) ?b10
   case a10 => (intro w hSw; (try dsimp only at hSw); go_simp; try with_reducible rfl)
   try simp only [Act.put, List.setIfInBounds_toArray, List.set_cons_zero, List.set_cons_succ]
   refine' wpAnyH_take (i := 17) (oi := ⟨_, _, _, _, _, _⟩) rfl (by kernel_rfl) (by kernel_rfl) (by kernel_rfl) (fun _ _ _ h => h) (Or.inl ⟨by rfl, ?a11⟩) (by assumption) ?b11
   case a11 => (intro w hSw; (try dsimp only at hSw); go_simp; try with_reducible rfl)
   try simp only [Act.put, List.setIfInBounds_toArray, List.set_cons_zero, List.set_cons_succ]
   refine' wpAnyH_take (i := 18) (oi := ⟨_, _, _, _, _, _⟩) rfl (by kernel_rfl) (by kernel_rfl) (by kernel_rfl) (fun _ _ _ h => h) (Or.inl ⟨by rfl, ?a12⟩) (by assumption) ?b12
   case a12 => (intro w hSw; (try dsimp only at hSw); go_simp; try with_reducible rfl)
   try simp only [Act.put, List.setIfInBounds_toArray, List.set_cons_zero, List.set_cons_succ]
   refine' wpAnyH_take (i := 19) (oi := ⟨_, _, _, _, _, _⟩) rfl (by kernel_rfl) (by kernel_rfl) (by kernel_rfl) (fun _ _ _ h => h) (Or.inl ⟨by rfl, ?a13⟩) (by assumption) ?b13
   case a13 => (intro w hSw; (try dsimp only at hSw); go_simp; try with_reducible rfl)
   try simp only [Act.put, List.setIfInBounds_toArray, List.set_cons_zero, List.set_cons_succ]
   refine' wpAnyH_take (i := 21) (oi := ⟨_, _, _, _, _, _⟩) rfl (by kernel_rfl) (by kernel_rfl) (by kernel_rfl) (fun _ _ _ h => h) (Or.inl ⟨by rfl, ?a14⟩) (by assumption) ?b14
   case a14 => (intro w hSw; (try dsimp only at hSw); go_simp; try with_reducible rfl)
   try simp only [Act.put, List.setIfInBounds_toArray, List.set_cons_zero, List.set_cons_succ]
   refine' wpAnyH_take (i := 23) (oi := ⟨_, _, _, _, _, _⟩) rfl (by kernel_rfl) (by kernel_rfl) (by kernel_rfl) (fun _ _ _ h => h) (Or.inl ⟨by rfl, ?a15⟩) (by assumption) ?b15
   case a15 => (intro w hSw; (try dsimp only at hSw); go_simp; try with_reducible rfl)
   try simp only [Act.put, List.setIfInBounds_toArray, List.set_cons_zero, List.set_cons_succ]
   refine' wpAnyH_take (i := 26) (oi := ⟨_, _, _, _, _, _⟩) rfl (by kernel_rfl) (by kernel_rfl) (by kernel_rfl) (fun _ _ _ h => h) (Or.inl ⟨by rfl, ?a16⟩) (by assumption) ?b16
   case a16 => (intro w hSw; (try dsimp only at hSw); go_simp; try with_reducible rfl)
   try simp only [Act.put, List.setIfInBounds_toArray, List.set_cons_zero, List.set_cons_succ]
   refine wpAnyH_ready (rs := [7]) (by kernel_rfl) (by simp) ?_
   refine AllReadyH.cons (o := ⟨_, _, _, _, _, _⟩) rfl (fun K hK => ?_) AllReadyH.nil
   go_simp
   go_at_call 69
   refine (turn_calls x15 7 _ (by omega)).mono ?_
   rintro e wA ⟨rfl, rfl⟩
   refine hK.out _ _ (⟨d16, d7⟩) (fun hHeldN => ?_)
   clear hK K hHeld
   have hHeld := hHeldN
   clear hHeldN
   try simp only [Act.put, List.setIfInBounds_toArray, List.set_cons_zero, List.set_cons_succ]
   refine wpAnyH_ready (rs := [9]) (by kernel_rfl) (by simp) ?_
   refine AllReadyH.cons (o := ⟨_, _, _, _, _, _⟩) rfl (fun K hK => ?_) AllReadyH.nil
   go_simp
   go_at_call 69
   refine (turn_calls x15 18 _ (by omega)).mono ?_
   rintro e wA ⟨rfl, rfl⟩
   refine hK.out _ _ (⟨d16, d7⟩) (fun hHeldN => ?_)
   clear hK K hHeld
   have hHeld := hHeldN
   clear hHeldN
   try simp only [Act.put, List.setIfInBounds_toArray, List.set_cons_zero, List.set_cons_succ]
   refine' wpAnyH_take (i := 10) (oi := ⟨_, _, _, _, _, _⟩) rfl (by kernel_rfl) (by kernel_rfl) (by kernel_rfl) (fun _ _ _ h => h) (Or.inl ⟨by rfl, ?a17⟩) (by assumption) ?b17
   case a17 => (intro w hSw; (try dsimp only at hSw); go_simp; try with_reducible rfl)
   try simp only [Act.put, List.setIfInBounds_toArray, List.set_cons_zero, List.set_cons_succ]
   refine wpAnyH_ready (rs := [12]) (by kernel_rfl) (by simp) ?_
   refine AllReadyH.cons (o := ⟨_, _, _, _, _, _⟩) rfl (fun K hK => ?_) AllReadyH.nil
   go_simp
   go_at_call 70
   refine (shift_calls x15 3 _ (by omega)).mono ?_
   rintro e wA ⟨rfl, rfl⟩
   refine hK.out _ _ (⟨d16, d7⟩) (fun hHeldN => ?_)
   clear hK K hHeld
   have hHeld := hHeldN
   clear hHeldN
   try simp only [Act.put, List.setIfInBounds_toArray, List.set_cons_zero, List.set_cons_succ]
   refine' wpAnyH_take (i := 13) (oi := ⟨_, _, _, _, _, _⟩) rfl (by kernel_rfl) (by kernel_rfl) (by kernel_rfl) (fun _ _ _ h => h) (Or.inl ⟨by rfl, ?a18⟩) (by assumption) ?b18
   case a18 => (intro w hSw; (try dsimp only at hSw); go_simp; try with_reducible rfl)
   try simp only [Act.put, List.setIfInBounds_toArray, List.set_cons_zero, List.set_cons_succ]
   refine' wpAnyH_take (i := 14) (oi := ⟨_, _, _, _, _, _⟩) rfl (by kernel_rfl) (by kernel_rfl) (by kernel_rfl) (fun _ _ _ h => h) (Or.inl ⟨by rfl, ?a19⟩) (by assumption) ?b19
   case a19 => (intro w hSw; (try dsimp only at hSw); go_simp; try with_reducible rfl)
   try simp only [Act.put, List.setIfInBounds_toArray, List.set_cons_zero, List.set_cons_succ]
   refine' wpAnyH_take (i := 20) (oi := ⟨_, _, _, _, _, _⟩) rfl (by kernel_rfl) (by kernel_rfl) (by kernel_rfl) (fun _ _ _ h => h) (Or.inl ⟨by rfl, ?a20⟩) (by assumption) ?b20
   case a20 => (intro w hSw; (try dsimp only at hSw); go_simp; try with_reducible rfl)
   try simp only [Act.put, List.setIfInBounds_toArray, List.set_cons_zero, List.set_cons_succ]
   refine wpAnyH_ready (rs := [22]) (by kernel_rfl) (by simp) ?_
   refine AllReadyH.cons (o := ⟨_, _, _, _, _, _⟩) rfl (fun K hK => ?_) AllReadyH.nil
   go_simp
   go_at_call 69
   refine (turn_calls x2 17 _ (by omega)).mono ?_
   rintro e wA ⟨rfl, rfl⟩
   refine hK.out _ _ (⟨d16, d7⟩) (fun hHeldN => ?_)
   clear hK K hHeld
   have hHeld := hHeldN
   clear hHeldN
   try simp only [Act.put, List.setIfInBounds_toArray, List.set_cons_zero, List.set_cons_succ]
   refine wpAnyH_ready (rs := [24]) (by kernel_rfl) (by simp) ?_
   refine AllReadyH.cons (o := ⟨_, _, _, _, _, _⟩) rfl (fun K hK => ?_) AllReadyH.nil
   go_simp
   go_at_call 69
   refine (turn_calls x2 19 _ (by omega)).mono ?_
   rintro e wA ⟨rfl, rfl⟩
   refine hK.out _ _ (⟨d16, d7⟩) (fun hHeldN => ?_)
   clear hK K hHeld
   have hHeld := hHeldN
   clear hHeldN
   try simp only [Act.put, List.setIfInBounds_toArray, List.set_cons_zero, List.set_cons_succ]
   refine' wpAnyH_take (i := 25) (oi := ⟨_, _, _, _, _, _⟩) rfl (by kernel_rfl) (by kernel_rfl) (by kernel_rfl) (fun _ _ _ h => h) (Or.inl ⟨by rfl, ?a21⟩) (by assumption) ?b21
   case a21 => (intro w hSw; (try dsimp only at hSw); go_simp; try with_reducible rfl)
   try simp only [Act.put, List.setIfInBounds_toArray, List.set_cons_zero, List.set_cons_succ]
   refine wpAnyH_ready (rs := [27]) (by kernel_rfl) (by simp) ?_
   refine AllReadyH.cons (o := ⟨_, _, _, _, _, _⟩) rfl (fun K hK => ?_) AllReadyH.nil
   go_simp
   go_at_call 70
   refine (shift_calls x2 10 _ (by omega)).mono ?_
   rintro e wA ⟨rfl, rfl⟩
   refine hK.out _ _ (⟨d16, d7⟩) (fun hHeldN => ?_)
   clear hK K hHeld
   have hHeld := hHeldN
   clear hHeldN
   try simp only [Act.put, List.setIfInBounds_toArray, List.set_cons_zero, List.set_cons_succ]
   refine' wpAnyH_take (i := 28) (oi := ⟨_, _, _, _, _, _⟩) rfl (by kernel_rfl) (by kernel_rfl) (by kernel_rfl) (fun _ _ _ h => h) (Or.inl ⟨by rfl, ?a22⟩) (by assumption) ?b22
   case a22 => (intro w hSw; (try dsimp only at hSw); go_simp; try with_reducible rfl)
   try simp only [Act.put, List.setIfInBounds_toArray, List.set_cons_zero, List.set_cons_succ]
   refine' wpAnyH_take (i := 29) (oi := ⟨_, _, _, _, _, _⟩) rfl (by kernel_rfl) (by kernel_rfl) (by kernel_rfl) (fun _ _ _ h => h) (Or.inl ⟨by rfl, ?a23⟩) (by assumption) ?b23
   case a23 => (intro w hSw; (try dsimp only at hSw); go_simp; try with_reducible rfl)
   try simp only [Act.put, List.setIfInBounds_toArray, List.set_cons_zero, List.set_cons_succ]
   rw [wv_xor (rotr x15 7) (rotr x15 18), wv_xor _ (x15 >>> 3), wv_xor (rotr x2 17) (rotr x2 19), wv_xor _ (x2 >>> 10)]
   rw [wv_add, wv_add, wv_add, show x16 + (rotr x15 7 ^^^ rotr x15 18 ^^^ x15 >>> 3) + x7 + (rotr x2 17 ^^^ rotr x2 19 ^^^ x2 >>> 10) = sch P t j from hsc.out.symm]
   refine wpAnyH_ready (rs := [30]) (by kernel_rfl) (by simp) ?_
   refine AllReadyH.cons (o := ⟨_, _, _, _, _, _⟩) rfl (fun K hK => ?_) AllReadyH.nil
   go_simp
   refine hK.out _ _ (⟨kept_new D16.out _, kept_new D7.out _⟩) (fun hHeldN => ?_)
   clear hK K hHeld
   have hHeld := hHeldN
   clear hHeldN
   try simp only [Act.put, List.setIfInBounds_toArray, List.set_cons_zero, List.set_cons_succ]
   refine wpAnyH_ready (rs := [31]) (by kernel_rfl) (by simp) ?_
   refine AllReadyH.cons (o := ⟨_, _, _, _, _, _⟩) rfl (fun K hK => ?_) AllReadyH.nil
   have hO5 : W5.drew.ownsRow W.heap.size 81 1 (.slice (some ⟨bw, 0, none⟩) j cw) j (ints .u32 (schL P t j)) := HW5.out
   refine step_appKeep (by rfl) _ _ (by rfl) elU32 (hO5.alloc _) (by rfl) (by rfl) (rd_lit1 W5.drew .u32 (wv (sch P t j)) 81) (by omega) (by omega) (by simp; omega) ?_
   intro v5 w5 ho5 hg5 hk5
   refine hK.out _ _ (⟨(hk5 _ hi16j).trans (kept_new D16.out _), (hk5 _ hi7j).trans (kept_new D7.out _)⟩) (fun hHeldN => ?_)
   clear hK K hHeld
   have hHeld := hHeldN
   clear hHeldN
   try simp only [Act.put, List.setIfInBounds_toArray, List.set_cons_zero, List.set_cons_succ]
   refine' wpAnyH_take (i := 32) (oi := ⟨_, _, _, _, _, _⟩) rfl (by kernel_rfl) (by kernel_rfl) (by kernel_rfl) (fun _ _ _ h => h) (Or.inl ⟨by rfl, ?a24⟩) (by assumption) ?b24
   case a24 => (intro w hSw; (try dsimp only at hSw); go_simp; try with_reducible rfl)
   try simp only [Act.put, List.setIfInBounds_toArray, List.set_cons_zero, List.set_cons_succ]
   refine wpAnyH_done (by kernel_rfl) ?_ _
   refine NoPanic.normal ?_
   go_wp2_with fail
   have hd5 : Below W.heap.size W W5.drew := ⟨HX5.out.os, HX5.out.tape, HX5.out.output, HX5.out.size, HX5.out.block⟩
   have hb5 : Below W.heap.size W w5 := (hd5.alloc hs5 _).grown hg5 (by simp; omega) (fun k hk => by cases hk; exact hgw)
   rw [show schL P t j ++ [wv (sch P t j)] = schL P t (j + 1) from (schL_next P t j).symm] at ho5
   exact Handed.intro (n - 1) (by omega) (HJ.out _ _ _ ⟨_, j + 1, by omega, Lib.hid ho5, Lib.hid hb5, rfl⟩)
   --E26
 ·obtain rfl : j = 64 := by omega
  go_wp2_with fail
  exact ⟨rfl, _, HW, HX4, rfl⟩
end Go.Proofs.YtendohnkhbgfbaaDoor
namespace Go.Proofs.YtendohnkhbgfbaaDoor
open Go.RowKit

theorem keyL_rd {j : Nat} (h : j < 64) : rd keyL j = wv (keyS j) := by
 have : ∀ i : Fin 64, rd keyL i.1 = wv (keyS i.1) := by decide
 exact this ⟨j, h⟩
set_option maxHeartbeats 2000000 in
set_option maxRecDepth 100000 in
theorem sha_rounds {a : Act} {W : World} (rc al sv at0 : Value) (K : Option Addr) (ck : Nat) (Aw : Option Addr) (cw t : Nat) (P : List Int) (s : S8) (hK : Rd W .u32 K 64 keyL) (hW : Rd W .u32 Aw 64 (schL P t 64))
  (ha : a = fR (getU a) (.slice K 64 ck) rc al sv at0 (.slice Aw 64 cw) (.int .u32 (wv s.a)) (.int .u32 (wv s.b)) (.int .u32 (wv s.c)) (.int .u32 (wv s.d)) (.int .u32 (wv s.e)) (.int .u32 (wv s.f)) (.int .u32 (wv s.g)) (.int .u32 (wv s.h)) (.int .i64 0)) :
  Code.wp Tryd.prog (Code.loop shaRounds) (OnlyExit 10 fun a' w' => ∃ r, Hid (r = roundsS P t s 64) ∧ Hid (Below W.heap.size W w') ∧ a' = fR (getU a') (.slice K 64 ck) rc al sv at0 (.slice Aw 64 cw) (.int .u32 (wv r.a)) (.int .u32 (wv r.b)) (.int .u32 (wv r.c)) (.int .u32 (wv r.d)) (.int .u32 (wv r.e)) (.int .u32 (wv r.f)) (.int .u32 (wv r.g)) (.int .u32 (wv r.h)) (.int .i64 64)) a W := by
 obtain ⟨gK, oK, rfl, hxK⟩ := hK.2 (by omega)
 obtain ⟨gW, oW, rfl, hxW⟩ := hW.2 (by omega)
 have HXK := Lib.hid hxK
 have HXW := Lib.hid hxW
 clear hK hW hxK hxW
 refine wp_loop_ghost_k (fun n a' w' => ∃ (j : Nat) (r : S8), j + n = 64 ∧ Hid (r = roundsS P t s j) ∧ Hid (Below W.heap.size W w') ∧ a' = fR (getU a') (.slice (some ⟨gK, oK, none⟩) 64 ck) rc al sv at0 (.slice (some ⟨gW, oW, none⟩) 64 cw) (.int .u32 (wv r.a)) (.int .u32 (wv r.b)) (.int .u32 (wv r.c)) (.int .u32 (wv r.d)) (.int .u32 (wv r.e)) (.int .u32 (wv r.f)) (.int .u32 (wv r.g)) (.int .u32 (wv r.h)) (.int .i64 j)) 64 ⟨0, s, by omega, Lib.hid rfl, Lib.hid (Below.refl _ _), ha⟩ ?_
 clear ha
 rintro n a' W4 ⟨j, r, hj, HR, HX4, ha⟩ J K hJ hK
 obtain ⟨u, hu⟩ : ∃ u, u = getU a' := ⟨_, rfl⟩
 rw [← hu] at ha
 clear hu
 subst ha
 have HJ := Lib.hid hJ
 clear hJ
 conv => arg 4; unfold fR
 conv => arg 2; whnf
 by_cases hlt : j < 64
 ·have zk := kept_cell HX4.out (HXK.out j hlt)
  have zw := kept_cell HX4.out (HXW.out j hlt)
  rw [keyL_rd hlt] at zk
  rw [schL_rd _ _ hlt] at zw
  obtain ⟨ky, hky⟩ : ∃ x, x = keyS j := ⟨_, rfl⟩
  obtain ⟨wd, hwd⟩ : ∃ x, x = sch P t j := ⟨_, rfl⟩
  rw [← hky] at zk
  rw [← hwd] at zw
  have HKY := Lib.hid hky
  have HWD := Lib.hid hwd
  clear hky hwd
  have hrs : Hid (roundS r ky wd = roundsS P t s (j + 1)) := Lib.hid (by rw [HKY.out, HWD.out, HR.out]; rfl)
  obtain ⟨xa, xb, xc, xd, xe, xf, xg, xh⟩ := r
  dsimp only at *
  go_wp2_with fail
  refine wp_region_still_lit (by kernel_rfl) (by kernel_rfl) ?_
  repeat still_step
  still_call (turn_calls xe 6 _ (by omega))
  repeat still_step
  still_call (turn_calls xe 11 _ (by omega))
  repeat still_step
  still_call (turn_calls xe 25 _ (by omega))
  repeat still_step
  refine wpStill_nil ?_
  have hnot : IntKind.u32.wrap (4294967295 - wv xe) = wv (~~~xe) := by
   have := wv_rng (~~~xe)
   rw [wv_not, IntKind.wrap_u32]
   omega
  rw [wv_xor (rotr xe 6) (rotr xe 11), wv_xor _ (rotr xe 25), wv_add xh, hnot, wv_and xe xf, wv_and (~~~xe) xg, wv_or, wv_add, wv_add, wv_add]
  obtain ⟨T, hT⟩ : ∃ T, T = xh + (rotr xe 6 ^^^ rotr xe 11 ^^^ rotr xe 25) + (xe &&& xf ||| ~~~xe &&& xg) + ky + wd := ⟨_, rfl⟩
  rw [← hT]
  have HT := Lib.hid hT
  clear hT hnot
  go_wp2_with fail
  refine (turn_calls xa 2 _ (by omega)).mono ?_
  rintro e w6 ⟨rfl, rfl⟩
  go_wp2_with fail
  refine (turn_calls xa 13 _ (by omega)).mono ?_
  rintro e w6 ⟨rfl, rfl⟩
  go_wp2_with fail
  refine (turn_calls xa 22 _ (by omega)).mono ?_
  rintro e w6 ⟨rfl, rfl⟩
  go_wp2_with fail
  rw [wv_xor (rotr xa 2) (rotr xa 13), wv_xor _ (rotr xa 22), wv_and xa xb, wv_and xa xc, wv_and xb xc, wv_or, wv_or, wv_addM, wv_addM, wv_addM]
  obtain ⟨U, hU⟩ : ∃ U, U = (rotr xa 2 ^^^ rotr xa 13 ^^^ rotr xa 22) + (xa &&& xb ||| xa &&& xc ||| xb &&& xc) := ⟨_, rfl⟩
  rw [← hU]
  have hts : tS ⟨xa, xb, xc, xd, xe, xf, xg, xh⟩ ky wd = T := by
   rw [HT.out]
   unfold tS bg1
   rw [chS_or]
  have hus : uS ⟨xa, xb, xc, xd, xe, xf, xg, xh⟩ = U := by
   rw [hU]
   unfold uS bg0
   rw [majS_or]
  have e9 : (⟨T + U, xa, xb, xc, xd + T, xe, xf, xg⟩ : S8) = roundsS P t s (j + 1) := by
   rw [← hrs.out]
   unfold roundS
   rw [hts, hus]
  exact Handed.intro (n - 1) (by omega) (HJ.out _ _ _ ⟨j + 1, ⟨T + U, xa, xb, xc, xd + T, xe, xf, xg⟩, by omega, Lib.hid e9, Lib.hid ⟨HX4.out.os, HX4.out.tape, HX4.out.output, HX4.out.size, HX4.out.block⟩, rfl⟩)
 ·obtain rfl : j = 64 := by omega
  go_wp2_with fail
  exact ⟨rfl, _, HR, HX4, rfl⟩
end Go.Proofs.YtendohnkhbgfbaaDoor
