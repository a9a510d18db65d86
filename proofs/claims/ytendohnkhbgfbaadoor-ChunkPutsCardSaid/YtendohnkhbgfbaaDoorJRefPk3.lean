/-
  Texts joined into one file: ShaW, ShaX, ShaS, ShaO.
-/
import Derived.Test.YtendohnkhbgfbaaDoorJRefPk2
import Derived.Deep.RegionLaw
import Derived.StillTailTactics
namespace Go.Proofs.YtendohnkhbgfbaaDoor
open Go.RowKit

def BeginAt (w : World) : Prop := ∀ j, j < 8 → w.cell? ⟨2, j, none⟩ = some (.int .u32 (wv (firstS.at j)))
theorem HAt.c8 {w : World} {h : Nat} {s : S8} {rdy : Bool} {v : Value} {n : Nat} (H : HAt w h s rdy v n) : w.cell? ⟨h, 8, none⟩ = some (.bool rdy) := by rw [cell_of_row w h 8 _ _ (0, 0) H.at']; rfl
theorem HAt.c9 {w : World} {h : Nat} {s : S8} {rdy : Bool} {v : Value} {n : Nat} (H : HAt w h s rdy v n) : w.cell? ⟨h, 9, none⟩ = some v := by rw [cell_of_row w h 9 _ _ (0, 0) H.at']; rfl
theorem HAt.c10 {w : World} {h : Nat} {s : S8} {rdy : Bool} {v : Value} {n : Nat} (H : HAt w h s rdy v n) : w.cell? ⟨h, 10, none⟩ = some (.int .u64 n) := by rw [cell_of_row w h 10 _ _ (0, 0) H.at']; rfl
theorem HAt.frozen {w : World} {h : Nat} {s : S8} {rdy : Bool} {v : Value} {n : Nat} (H : HAt w h s rdy v n) (j : Nat) : w.frozen? ⟨h, j, none⟩ = false := frozen_of_row w h j _ _ H.at'
theorem HAt.setR {w : World} {h : Nat} {s : S8} {rdy : Bool} {v : Value} {n : Nat} (H : HAt w h s rdy v n) (b : Bool) : HAt (w.setCell ⟨h, 8, none⟩ (.bool b)) h s b v n := by
 constructor
 rw [heap_setCell_same w h 8 _ _ _ H.at']
 rfl
theorem HAt.setV {w : World} {h : Nat} {s : S8} {rdy : Bool} {v : Value} {n : Nat} (H : HAt w h s rdy v n) (v' : Value) : HAt (w.setCell ⟨h, 9, none⟩ v') h s rdy v' n := by
 constructor
 rw [heap_setCell_same w h 9 _ _ _ H.at']
 rfl
theorem HAt.setN {w : World} {h : Nat} {s : S8} {rdy : Bool} {v : Value} {n : Nat} (H : HAt w h s rdy v n) (m : Nat) : HAt (w.setCell ⟨h, 10, none⟩ (.int .u64 m)) h s rdy v m := by
 constructor
 rw [heap_setCell_same w h 10 _ _ _ H.at']
 rfl
theorem HAt.fr {w w' : World} {h : Nat} {s : S8} {rdy : Bool} {v : Value} {n : Nat} {S : List (Option Nat)} (H : HAt w h s rdy v n) (hf : Fr w w' S) (hS : some h ∉ S) : HAt w' h s rdy v n :=
 ⟨(hf.block h H.lt (fun _ ho e => hS (e ▸ ho))).trans H.at'⟩
def zeroS : S8 := ⟨0, 0, 0, 0, 0, 0, 0, 0⟩
set_option maxHeartbeats 1000000 in set_option maxRecDepth 100000 in
theorem start_calls (h : Nat) (s : S8) (rdy : Bool) (v : Value) (nn : Nat) (w : World) (hH : HAt w h s rdy v nn) (hB : BeginAt w) :
  Calls Tryd.prog 77 #[.pointer (some ⟨h, 0, none⟩)] w fun e w' => e = .returned (.tuple #[]) ∧ HAt w' h (if rdy then s else firstS) true v nn ∧ Fr w w' [some h] := by
 have HH := Lib.hid hH
 have c8 := hH.c8
 have f8 := hH.frozen 8
 cases rdy
 ·have b0 := hB 0 (by omega)
  have b1 := hB 1 (by omega)
  have b2 := hB 2 (by omega)
  have b3 := hB 3 (by omega)
  have b4 := hB 4 (by omega)
  have b5 := hB 5 (by omega)
  have b6 := hB 6 (by omega)
  have b7 := hB 7 (by omega)
  have z0 := hH.cell (j := 0) (by omega)
  have z1 := hH.cell (j := 1) (by omega)
  have z2 := hH.cell (j := 2) (by omega)
  have z3 := hH.cell (j := 3) (by omega)
  have z4 := hH.cell (j := 4) (by omega)
  have z5 := hH.cell (j := 5) (by omega)
  have z6 := hH.cell (j := 6) (by omega)
  have z7 := hH.cell (j := 7) (by omega)
  have f0 := hH.frozen 0
  have f1 := hH.frozen 1
  have f2 := hH.frozen 2
  have f3 := hH.frozen 3
  have f4 := hH.frozen 4
  have f5 := hH.frozen 5
  have f6 := hH.frozen 6
  have f7 := hH.frozen 7
  clear hH hB
  go_enter Tryd.func77, Tryd.ntmps77
  go_wp2
  go_end0
  refine ⟨rfl, ?_, ?_⟩
  ·have h9 := ((((((((HH.out.put (j := 0) (by omega) (firstS.at 0)).put (j := 1) (by omega) (firstS.at 1)).put (j := 2) (by omega) (firstS.at 2)).put (j := 3) (by omega) (firstS.at 3)).put (j := 4) (by omega) (firstS.at 4)).put (j := 5) (by omega) (firstS.at 5)).put (j := 6) (by omega) (firstS.at 6)).put (j := 7) (by omega) (firstS.at 7)).setR true
   exact ⟨h9.at'⟩
  ·exact (((((((((Fr.refl _ _).set _ _ (.inl (by simp))).set _ _ (.inl (by simp))).set _ _ (.inl (by simp))).set _ _ (.inl (by simp))).set _ _ (.inl (by simp))).set _ _ (.inl (by simp))).set _ _ (.inl (by simp))).set _ _ (.inl (by simp))).set _ _ (.inl (by simp))
 ·clear hH hB
  go_enter Tryd.func77, Tryd.ntmps77
  go_wp2
  go_end0
  exact ⟨rfl, HH.out, Fr.refl _ _⟩
theorem wpList_appRdF {P : Program} {w : World} {ops : Array Oper} {rest : List Oper} {o : Oper} {a : Act} {Q : Exit → Act → World → Prop} (hgd : o.guard = none) (s x : Operand) {t : TypeId}
  (ho : o.op = .call { callee := .builtin .append, args := #[s, x], argTypes := #[t, t] })
  {base : Nat} {e : TypeId} {k : IntKind} {bytes : Nat} (El : ElT P t e (.int k 0) 1 bytes) {v : Value} {n : Nat} {ys : List Int} (hown : w.ownsRow base e 1 v n (ints k ys)) (hs : a.eval s = v)
  {A : Option Addr} {m c : Nat} {zs : List Int} (hx : a.eval x = .slice A m c) (hR : Rd w k A m zs) (hA : A = none → m = 0 ∧ c = 0) (hbytes : (n + m) * bytes ≤ 140737488355328) (hbase : base ≤ w.heap.size)
  (h : ∀ v' w', w'.ownsRow base e 1 v' (n + m) (ints k (ys ++ zs)) → Fr w w' [v.ownBlock] → (v'.ownBlock = v.ownBlock ∨ ∀ k, v'.ownBlock = some k → w.heap.size ≤ k) → wpList P ops Q rest (a.put o.dst v') w') : wpList P ops Q (o :: rest) a w := by
 obtain ⟨i0, hi, hz0, hz1, hz2⟩ := info_parts El.info
 have hn : n + m ≤ maxLen := by
  have := Nat.mul_le_mul_left (n + m) El.bpos
  unfold maxLen
  omega
 have hl := hR.1
 cases A with
 | none =>
  obtain ⟨rfl, rfl⟩ := hA rfl
  have hz : zs = [] := List.length_eq_zero_iff.1 hl
  subst hz
  refine wpList_append_own_none hgd s x t ho base e i0 1 El.und hi v n _ hs hown hx (h v w ?_ (Fr.refl _ _) (.inl rfl))
  simpa using hown
 | some ad =>
  refine wpList_append_own_at _ hgd s x t ho base e i0 (.int k 0) 1 bytes El.und hi hz0 hz1 hz2 El.zs El.pos v n _ hs hown ad m c (ints k zs) hx (by rw [ints_length]; omega) ?_ (fun u hu => ?_) hn hbytes hbase ?_
  ·intro j u hu
   have hj : j < zs.length := by
    have := (List.getElem?_eq_some_iff.1 hu).1
    rwa [ints_length] at this
   obtain ⟨b, o', e', hc⟩ := hR.2 (by omega)
   cases e'
   rw [ints_get hj] at hu
   cases hu
   rw [addr_add]
   exact hc j (by omega)
  ·unfold ints at hu
   obtain ⟨y, _, rfl⟩ := List.mem_map.1 hu
   rfl
  ·intro v' w' h2 h3 _ h5
   rw [← ints_append] at h2
   exact h v' w' h2 (Fr.ofGrown h3) (h5.imp id (fun e k hk => by rw [e] at hk; cases hk; exact Nat.le_refl _))
theorem cell_fr {w w' : World} {S : List (Option Nat)} (hf : Fr w w' S) {b o : Nat} {v : Value} (hc : w.cell? ⟨b, o, none⟩ = some v) (hb : some b ∉ S) : w'.cell? ⟨b, o, none⟩ = some v := by
 have hlt : b < w.heap.size := by
  rcases Nat.lt_or_ge b w.heap.size with h | h
  ·exact h
  ·have : w.heap[b]? = none := Array.getElem?_eq_none h
   simp [World.cell?, this] at hc
 have := hf.block b hlt (fun _ ho e => hb (e ▸ ho))
 unfold World.cell? at hc ⊢
 rw [this]
 exact hc
theorem rd_fr {w w' : World} {S : List (Option Nat)} (hf : Fr w w' S) {k : IntKind} {A : Option Addr} {n : Nat} {xs : List Int} (h : Rd w k A n xs) (hA : ∀ b o, A = some ⟨b, o, none⟩ → 0 < n → some b ∉ S) : Rd w' k A n xs :=
 ⟨h.1, fun h0 => by
  obtain ⟨b, o, e, hc⟩ := h.2 h0
  exact ⟨b, o, e, fun j hj => cell_fr hf (hc j hj) (hA b o e h0)⟩⟩
structure PartsAt (w : World) (A : Option Addr) (n : Nat) (P : List (List Int)) : Prop where
 len : P.length = n
 at' : 0 < n → ∃ b o, A = some ⟨b, o, none⟩ ∧ ∀ j, j < n → ∃ A' n' c', w.cell? ⟨b, o + j, none⟩ = some (.slice A' n' c') ∧ Rd w .u8 A' n' (P.getD j []) ∧ (A' = none → n' = 0 ∧ c' = 0) ∧ n' ≤ c'
def flat (P : List (List Int)) (j : Nat) : List Int := (P.take j).flatten
theorem flatP_next {P : List (List Int)} {j : Nat} (h : j < P.length) : flat P (j + 1) = flat P j ++ P.getD j [] := by
 unfold flat
 rw [List.take_add_one, List.getElem?_eq_getElem h, List.flatten_append, List.getD_eq_getElem?_getD, List.getElem?_eq_getElem h]
 simp
theorem flatP_le (P : List (List Int)) (j : Nat) : (flat P j).length ≤ P.flatten.length := by
 have h : P.flatten = (P.take j).flatten ++ (P.drop j).flatten := by rw [← List.flatten_append, List.take_append_drop]
 rw [h, List.length_append]
 exact Nat.le_add_right _ _
theorem flatP_all (P : List (List Int)) : flat P P.length = P.flatten := by unfold flat; rw [List.take_length]
structure HSt (w : World) (h : Nat) (b : List Int) (A : Option Addr) (m c : Nat) : Prop where
 at' : HAt w h (blocksS b (b.length / 64)) true (.slice A m c) b.length
 rd : Rd w .u8 A m (b.drop (64 * (b.length / 64)))
 nil : A = none → m = 0 ∧ c = 0
 cap : m ≤ c
end Go.Proofs.YtendohnkhbgfbaaDoor
namespace Go.Proofs.YtendohnkhbgfbaaDoor
open Go.RowKit

theorem elBy : ElT Tryd.prog 22 5 (.int .u8 0) 1 1 := ⟨Tryd.underlying22, by kernel_rfl, rfl, by decide, by decide⟩
theorem rd_drop_at2 {b : List Int} (d j : Nat) : rd (b.drop d) j = rd b (d + j) := by
 unfold rd
 rw [List.getD_eq_getElem?_getD, List.getD_eq_getElem?_getD, List.getElem?_drop]
theorem block_at (b : List Int) (q : Nat) : blockS8 (b.drop (64 * q)) 0 (blocksS b q) = blocksS b (q + 1) := by
 rw [blocksS]
 exact block_cong (fun j _ => by rw [rd_drop_at2, Nat.zero_add]) _
theorem rd_drop_w {w : World} {b0 o0 n : Nat} {b : List Int} (h : Rd w .u8 (some ⟨b0, o0, none⟩) n b) (hn : 0 < n) {k : Nat} (hk : k ≤ n) : Rd w .u8 (some ⟨b0, o0 + k, none⟩) (n - k) (b.drop k) := by
 refine ⟨by rw [List.length_drop, h.1], fun h0 => ⟨b0, o0 + k, rfl, fun j hj => ?_⟩⟩
 obtain ⟨_, _, e, hc⟩ := h.2 hn
 cases e
 rw [rd_drop_at2, Nat.add_assoc]
 exact hc (k + j) (by omega)
theorem parts_far {w : World} {S : List (Option Nat)} {h bA oA n : Nat} {P : List (List Int)} (hP : ∀ wr, Fr w wr S → PartsAt wr (some ⟨bA, oA, none⟩) n P) (hh : some h ∈ S) (hn : 0 < n) : bA ≠ h := by
 rintro rfl
 obtain ⟨_, _, e, hx⟩ := (hP w (Fr.refl _ _)).at' hn
 cases e
 obtain ⟨A1, n1, c1, h1, _⟩ := hx 0 hn
 obtain ⟨_, _, e, hy⟩ := (hP (w.setCell ⟨bA, oA + 0, none⟩ (.bool true)) ((Fr.refl _ _).set _ _ (.inl hh))).at' hn
 cases e
 obtain ⟨A2, n2, c2, h2, _⟩ := hy 0 hn
 rw [World.cell?_setCell_same _ _ _ h1] at h2
 cases h2
theorem rd_far {w : World} {h : Nat} {s : S8} {rdy : Bool} {v : Value} {n : Nat} (H : HAt w h s rdy v n) (hv : ∀ x, v ≠ .int .u8 x) {b4 o4 m : Nat} {xs : List Int} (hR : Rd w .u8 (some ⟨b4, o4, none⟩) m xs) (hm : 0 < m) : b4 ≠ h := by
 rintro rfl
 obtain ⟨_, _, e, hc⟩ := hR.2 hm
 cases e
 have h0 := hc 0 hm
 rw [cell_of_row w b4 _ _ _ (0, 0) H.at'] at h0
 rcases Nat.lt_or_ge (o4 + 0) 11 with hl | hl
 ·rcases (show o4 + 0 = 0 ∨ o4 + 0 = 1 ∨ o4 + 0 = 2 ∨ o4 + 0 = 3 ∨ o4 + 0 = 4 ∨ o4 + 0 = 5 ∨ o4 + 0 = 6 ∨ o4 + 0 = 7 ∨ o4 + 0 = 8 ∨ o4 + 0 = 9 ∨ o4 + 0 = 10 by omega) with e | e | e | e | e | e | e | e | e | e | e <;> rw [e] at h0 <;> simp at h0
  exact hv _ h0
 ·rw [Array.getElem?_eq_none (by simpa using hl)] at h0
  cases h0
set_option maxHeartbeats 1000000 in set_option maxRecDepth 100000 in
theorem Write_calls (B h : Nat) (s : S8) (rdy : Bool) (v : Value) (m0 : Nat) (b0 : List Int) (A : Option Addr) (n c : Nat) (P : List (List Int)) (w : World) (hH : HAt w h s rdy v b0.length) (hs : (if rdy then s else firstS) = blocksS b0 (b0.length / 64))
  (hm0 : m0 = b0.length - 64 * (b0.length / 64)) (hv : w.ownsRow B 5 1 v m0 (ints .u8 (b0.drop (64 * (b0.length / 64))))) (hB : B ≤ h) (hb0 : ∀ x ∈ b0, 0 ≤ x ∧ x ≤ 255) (hbP : ∀ l ∈ P, ∀ x ∈ l, 0 ≤ x ∧ x ≤ 255)
  (hP : ∀ wr, Fr w wr [some h, v.ownBlock] → PartsAt wr A n P) (hK : ∀ wr, Fr w wr [some h, v.ownBlock] → KeysAt wr) (hBg : BeginAt w)
  (hlen : b0.length + P.flatten.length ≤ 1000000000) (hn : n ≤ 1000000) (hsm : ∀ j, j + 1 < n → b0.length % 64 + (flat P (j + 1)).length < 64) :
  Calls Tryd.prog 45 #[.pointer (some ⟨h, 0, none⟩), .slice A n c] w fun e w' => ∃ A' m' c', e = .returned (.tuple #[]) ∧ HSt w' h (b0 ++ P.flatten) A' m' c' ∧ Fr w w' [some h, v.ownBlock] := by
 have HH := Lib.hid hH
 have Hs := Lib.hid hs
 have Hm0 := Lib.hid hm0
 have Hv := Lib.hid hv
 have Hb0 := Lib.hid hb0
 have HbP := Lib.hid hbP
 have HP := Lib.hid hP
 have HK := Lib.hid hK
 have HBg := Lib.hid hBg
 have Hsm := Lib.hid hsm
 have Hlen := Lib.hid hlen
 clear hH hs hm0 hv hb0 hbP hP hK hBg hsm hlen
 go_enter Tryd.func45, Tryd.ntmps45
 go_wp2_with fail
 refine (start_calls h s rdy v b0.length w HH.out HBg.out).mono ?_
 rintro e w1 ⟨rfl, hH1, hf1⟩
 rw [Hs.out] at hH1
 have hap : Apart v.ownBlock (some h) := own_apart HH.out.at' (by decide) Hv.out
 have hv1 := own_fr Hv.out hf1 (fun o ho => by simp at ho; subst ho; exact hap)
 obtain ⟨A0, c0, rfl⟩ := own_slice hv1
 have HH1 := Lib.hid hH1
 have Hf1 := Lib.hid (hf1.mono (T := [some h, (Value.slice A0 m0 c0).ownBlock]) (fun o ho => by simp at ho; subst ho; simp))
 have Hv1 := Lib.hid hv1
 have Hap := Lib.hid hap
 have hzh : B ≤ w.heap.size := Nat.le_trans hB (Nat.le_of_lt HH.out.lt)
 clear hH1 hf1 hv1 hap
 go_wp2
 go_loopw [12] (fun i wr => ∃ (j : Nat) (A' : Option Addr) (m' c' : Nat), j ≤ n ∧ i = .int .i64 j ∧ Hid (HSt wr h (b0 ++ flat P j) A' m' c') ∧
   Hid (j < n → wr.ownsRow B 5 1 (.slice A' m' c') m' (ints .u8 ((b0 ++ flat P j).drop (64 * ((b0 ++ flat P j).length / 64)))) ∧ ((Value.slice A' m' c').ownBlock = (Value.slice A0 m0 c0).ownBlock ∨ ∀ k, (Value.slice A' m' c').ownBlock = some k → w.heap.size ≤ k)) ∧
   Hid (Fr w wr [some h, (Value.slice A0 m0 c0).ownBlock])) (fun i _ => n - (intOf i).toNat)
 case atStart =>
  refine ⟨0, A0, m0, c0, by omega, rfl, ?_, ?_, Hf1⟩
  ·have e0 : b0 ++ flat P 0 = b0 := by simp [flat]
   rw [e0]
   obtain ⟨_, _, e1, hc1, hr1⟩ := own_rd Hv1.out
   cases e1
   exact Lib.hid ⟨HH1.out, hr1, own_none Hv1.out, hc1⟩
  ·have e0 : b0 ++ flat P 0 = b0 := by simp [flat]
   rw [e0]
   exact Lib.hid (fun _ => ⟨Hv1.out, .inl rfl⟩)
 case round =>
  obtain ⟨j, A1, m1, c1, hj, rfl, HS, HO, HF⟩ := hrel
  obtain ⟨W, hW⟩ : ∃ W, W = wr := ⟨_, rfl⟩
  subst hW
  by_cases hlt : j < n
  ·obtain ⟨bA, oA, rfl, hPj⟩ := (HP.out W HF.out).at' (by omega)
   obtain ⟨A2, n2, c2, hcell, hRd, hA2, hcap2⟩ := hPj j hlt
   obtain ⟨hO1, hO2⟩ := HO.out hlt
   have h10 := HS.out.at'.c10
   have h9 := HS.out.at'.c9
   have f10 := HS.out.at'.frozen 10
   have f9 := HS.out.at'.frozen 9
   have hlp : P.length = n := (HP.out W HF.out).len
   have hle : (b0 ++ flat P j).length + n2 ≤ 1000000000 := by
    have h1 := Hlen.out
    have h2 := flatP_next (P := P) (j := j) (by omega)
    have h3 : (flat P (j + 1)).length ≤ P.flatten.length := flatP_le P (j + 1)
    rw [h2, List.length_append, hRd.1] at h3
    rw [List.length_append]
    omega
   obtain ⟨Lb, hLb⟩ : ∃ x, x = (b0 ++ flat P j).length := ⟨_, rfl⟩
   rw [← hLb] at h10 hle
   have HLb := Lib.hid hLb
   have HRd := Lib.hid hRd
   have HA2 := Lib.hid hA2
   have HO1 := Lib.hid hO1
   have HO2 := Lib.hid hO2
   have Hlp := Lib.hid hlp
   clear hLb hRd hA2 hO1 hO2 hlp hPj HO
   obtain ⟨W1, hW1⟩ : ∃ X, X = W.setCell ⟨h, 10, none⟩ (.int .u64 ((Lb : Int) + (n2 : Int))) := ⟨_, rfl⟩
   have hN1 : HAt W1 h (blocksS (b0 ++ flat P j) (Lb / 64)) true (.slice A1 m1 c1) (Lb + n2) := by
    have := HS.out.at'.setN (Lb + n2)
    rw [← HLb.out, show ((Lb + n2 : Nat) : Int) = (Lb : Int) + (n2 : Int) by omega] at this
    rw [hW1]
    exact this
   have hF1 : Fr W W1 [some h] := by rw [hW1]; exact (Fr.refl _ _).set _ _ (.inl (by simp))
   have hFw1 : Fr w W1 [some h, (Value.slice A0 m0 c0).ownBlock] := HF.out.trans hF1 (fun o ho => by simp at ho; subst ho; exact .inl (by simp))
   have hap1 : Apart (Value.slice A1 m1 c1).ownBlock (some h) := own_apart HS.out.at'.at' (by decide) HO1.out
   have hO1' := own_fr HO1.out hF1 (fun o ho => by simp at ho; subst ho; exact hap1)
   have hfar : bA ≠ h := parts_far (S := [some h, (Value.slice A0 m0 c0).ownBlock]) HP.out (by simp) (by omega)
   have hRd1 : Rd W1 .u8 A2 n2 (P.getD j []) := by
    obtain ⟨_, _, ea, hx⟩ := (HP.out W1 hFw1).at' (by omega)
    cases ea
    obtain ⟨A9, n9, c9, hc9, hr9, _, _⟩ := hx j hlt
    have e9 := cell_fr hF1 hcell (by simp [hfar])
    rw [e9] at hc9
    cases hc9
    exact hr9
   have hm1 : m1 ≤ Lb := by
    have h1 := hO1'.1
    rw [ints_length, List.length_drop, ← HLb.out] at h1
    omega
   have hsz1 : B ≤ W1.heap.size := Nat.le_trans hzh hFw1.size
   have HW1 := Lib.hid hW1
   have HN1 := Lib.hid hN1
   have HFw1 := Lib.hid hFw1
   have HO1' := Lib.hid hO1'
   have Hap1 := Lib.hid hap1
   have HRd1 := Lib.hid hRd1
   have Hfar := Lib.hid hfar
   clear hW1 hN1 hF1 hFw1 hO1' hap1 hRd1 hfar
   go_wp2_with (at_builtin; rw [← HW1.out]; refine wpList_appRdF rfl _ _ rfl elBy HO1'.out rfl rfl HRd1.out HA2.out (by omega) hsz1 ?_; intro v2 W2 hown2 hfr2 hli2; obtain ⟨A3, c3, rfl⟩ := own_slice hown2; have hN2 := HN1.out.fr hfr2 (by simpa using fun e => Hap1.out h e.symm rfl); have f9 := hN2.frozen 9; have h99 := hN2.c9; have HN2 := Lib.hid hN2; have Hown2 := Lib.hid hown2; have Hfr2 := Lib.hid hfr2; have Hli2 := Lib.hid hli2; clear hown2 hfr2 hli2 hN2)
   obtain ⟨b2, hb2⟩ : ∃ x, x = b0 ++ flat P (j + 1) := ⟨_, rfl⟩
   have eb2 : b2 = b0 ++ flat P j ++ P.getD j [] := by rw [hb2, flatP_next (by have := Hlp.out; omega), List.append_assoc]
   have hl2 : b2.length = Lb + n2 := by rw [eb2, List.length_append, ← HLb.out, HRd.out.1]
   have hd2 : (b0 ++ flat P j).drop (64 * ((b0 ++ flat P j).length / 64)) ++ P.getD j [] = b2.drop (64 * (Lb / 64)) := by
    rw [eb2, ← HLb.out]
    exact (List.drop_append_of_le_length (by rw [← HLb.out]; omega)).symm
   have hk2 : blocksS (b0 ++ flat P j) (Lb / 64) = blocksS b2 (Lb / 64) := by
    rw [eb2]
    exact (blocks_app _ _ _ (by rw [← HLb.out]; omega)).symm
   have hby : ∀ x ∈ b2, 0 ≤ x ∧ x ≤ 255 := by
    intro x hx
    rw [hb2] at hx
    rcases List.mem_append.1 hx with h1 | h1
    ·exact Hb0.out x h1
    ·unfold flat at h1
     obtain ⟨l, hl, hx2⟩ := List.mem_flatten.1 h1
     exact HbP.out l (List.mem_of_mem_take hl) x hx2
   obtain ⟨W3, hW3⟩ : ∃ X, X = W2.setCell ⟨h, 9, none⟩ (.slice A3 (m1 + n2) c3) := ⟨_, rfl⟩
   obtain ⟨m3, hm3⟩ : ∃ m3, m3 = m1 + n2 := ⟨_, rfl⟩
   have hown2 := Hown2.out
   rw [hd2, ← hm3] at hown2
   have hm3l : m3 + 64 * (Lb / 64) = Lb + n2 := by
    have h1 := hown2.1
    rw [ints_length, List.length_drop, hl2] at h1
    omega
   have hN3 : HAt W3 h (blocksS b2 (Lb / 64)) true (.slice A3 m3 c3) (Lb + n2) := by
    rw [hW3, hm3, ← hk2]
    exact HN2.out.setV _
   have hF3 : Fr W2 W3 [some h] := by rw [hW3]; exact (Fr.refl _ _).set _ _ (.inl (by simp))
   have hap2 : Apart (Value.slice A3 m3 c3).ownBlock (some h) := own_apart HN2.out.at' (by decide) hown2
   have hown3 := own_fr hown2 hF3 (fun o ho => by simp at ho; subst ho; exact hap2)
   have hfw2 : Fr w W2 [some h, (Value.slice A0 m0 c0).ownBlock] := HFw1.out.trans Hfr2.out (fun o ho => by
    simp at ho
    subst ho
    rcases HO2.out with e | e
    ·exact .inl (by simp [e])
    ·exact .inr e)
   have hfw3 : Fr w W3 [some h, (Value.slice A0 m0 c0).ownBlock] := hfw2.trans hF3 (fun o ho => by simp at ho; subst ho; exact .inl (by simp))
   have hli3 : (Value.slice A3 m3 c3).ownBlock = (Value.slice A0 m0 c0).ownBlock ∨ ∀ k, (Value.slice A3 m3 c3).ownBlock = some k → w.heap.size ≤ k := by
    rw [hm3]
    rcases Hli2.out with e | e
    ·rcases HO2.out with e2 | e2
     ·exact .inl (e.trans e2)
     ·exact .inr (fun k hk => e2 k (by rw [← hk]; exact e.symm))
    ·exact .inr (fun k hk => Nat.le_trans HFw1.out.size (e k hk))
   rw [← hW3, ← hm3]
   obtain ⟨_, _, e1, hc3, hr3⟩ := own_rd hown3
   cases e1
   have HB2 := Lib.hid hb2
   have Hl2 := Lib.hid hl2
   have Hby := Lib.hid hby
   have HN3 := Lib.hid hN3
   have Hown3 := Lib.hid hown3
   have Hfw3 := Lib.hid hfw3
   have Hli3 := Lib.hid hli3
   have Hr3 := Lib.hid hr3
   have Hm3 := Lib.hid hm3l
   clear hb2 eb2 hl2 hd2 hk2 hby hN3 hF3 hap2 hown3 hown2 hfw2 hfw3 hli3 hr3 hW3 hm3 HW1 HN1 HFw1 HO1' Hap1 HRd1 HN2 Hown2 Hfr2 Hli2 h99 f9 h10 h9 f10 hcell HO1 HO2 HA2 hsz1 HRd HS HF
   go_loopg [] m3 (fun g wr => ∃ (q : Nat) (A4 : Option Addr) (m4 c4 : Nat), m4 ≤ g ∧ Hid (Lb / 64 ≤ q ∧ m4 + 64 * q = Lb + n2) ∧ (A4 = none → m4 = 0 ∧ c4 = 0) ∧ m4 ≤ c4 ∧
    Hid (HAt wr h (blocksS b2 q) true (.slice A4 m4 c4) (Lb + n2)) ∧ Hid (Rd wr .u8 A4 m4 (b2.drop (64 * q))) ∧ Hid (q = Lb / 64 → Value.slice A4 m4 c4 = Value.slice A3 m3 c3) ∧ Hid (Fr W3 wr [some h]))
   case atStart => exact ⟨Lb / 64, A3, m3, c3, Nat.le_refl _, Lib.hid ⟨Nat.le_refl _, Hm3.out⟩, own_none Hown3.out, hc3, HN3, Hr3, Lib.hid (fun _ => rfl), Lib.hid (Fr.refl _ _)⟩
   case round =>
    obtain ⟨q, A4, m4, c4, hg4, Hq4, hA4, hc4, HN4, HR4, HE4, HF4⟩ := hrel
    obtain ⟨W4, hW4⟩ : ∃ W, W = wr := ⟨_, rfl⟩
    subst hW4
    have h9 := HN4.out.c9
    have f9 := HN4.out.frozen 9
    by_cases h64 : 64 ≤ m4
    ·cases A4 with
     | none => have := hA4 rfl; omega
     | some a4 =>
      obtain ⟨b4, o4, s4⟩ := a4
      obtain ⟨_, _, e4, _⟩ := HR4.out.2 (by omega)
      cases e4
      have HA4 := Lib.hid hA4
      clear hA4
      go_wp2_with fail
      go_still_tail 7, (by kernel_rfl)
      change wpList _ _ _ _ _ W4.drew
      go_wp2_with fail
      refine (block_calls h (blocksS b2 q) true (.slice (some ⟨b4, o4, none⟩) m4 c4) (Lb + n2) (some ⟨b4, o4, none⟩) m4 c4 (b2.drop (64 * q)) W4.drew ⟨HN4.out.at'⟩ ⟨HR4.out.1, HR4.out.2⟩ (fun i hi => ?_) h64 (HK.out _ ((Hfw3.out.trans HF4.out (fun o ho => by simp at ho; subst ho; exact .inl (by simp))).drew))).mono ?_
      ·rw [rd_drop_at2, rd_getElem (by rw [Hl2.out]; have := Hq4.out; omega)]
       exact Hby.out _ (List.getElem_mem _)
      rintro e w5 ⟨rfl, hH5, hF5⟩
      rw [block_at] at hH5
      have hF5' : Fr W3 w5 [some h] := HF4.out.drew.trans hF5 (fun o ho => .inl ho)
      have hb4 : b4 ≠ h := rd_far HN4.out (by intro x e; cases e) HR4.out (by omega)
      have hR5 : Rd w5 .u8 (some ⟨b4, o4, none⟩) m4 (b2.drop (64 * q)) := rd_fr hF5 ⟨HR4.out.1, HR4.out.2⟩ (fun b o e _ => by cases e; simpa using hb4)
      have h9 := hH5.c9
      have f9 := hH5.frozen 9
      have HH5 := Lib.hid hH5
      have HF5 := Lib.hid hF5'
      have HR5 := Lib.hid hR5
      have Hb4 := Lib.hid hb4
      clear hH5 hF5 hF5' hR5 hb4
      by_cases hcc : 64 < c4
      ·go_wp2
       go_roundg (gk - 64)
       case measure => omega
       case rel =>
        have hR6 : Rd (w5.setCell ⟨h, 9, none⟩ (.slice (some ⟨b4, o4 + 64, none⟩) (m4 - 64) (c4 - 64))) .u8 (some ⟨b4, o4 + 64, none⟩) (m4 - 64) (b2.drop (64 * (q + 1))) := by
         have h1 := rd_drop_w HR5.out (by omega) (k := 64) h64
         rw [List.drop_drop, show 64 * q + 64 = 64 * (q + 1) by omega] at h1
         exact rd_fr ((Fr.refl w5 [some h]).set _ _ (.inl (by simp))) h1 (fun b o e _ => by cases e; simpa using Hb4.out)
        exact ⟨q + 1, some ⟨b4, o4 + 64, none⟩, m4 - 64, c4 - 64, by omega, Lib.hid (by have := Hq4.out; omega), (fun e => by cases e), by omega, Lib.hid (HH5.out.setV _), Lib.hid hR6, Lib.hid (fun e => by have := Hq4.out; omega), Lib.hid (HF5.out.set _ _ (.inl (by simp)))⟩
      ·obtain rfl : c4 = 64 := by omega
       obtain rfl : m4 = 64 := by omega
       go_wp2
       go_roundg (gk - 64)
       case measure => omega
       case rel =>
        exact ⟨q + 1, some ⟨b4, o4, none⟩, 0, 0, by omega, Lib.hid (by have := Hq4.out; omega), (fun e => by cases e), by omega, Lib.hid (HH5.out.setV _), Lib.hid ⟨by rw [List.length_drop, Hl2.out]; have := Hq4.out; omega, fun e => by omega⟩, Lib.hid (fun e => by have := Hq4.out; omega), Lib.hid (HF5.out.set _ _ (.inl (by simp)))⟩
    ·go_wp2
     go_roundw
     case rel =>
      have hq5 : q = (Lb + n2) / 64 := by have := Hq4.out; omega
      have hN5 := HN4.out
      have hR5 := HR4.out
      have hl5 := Hl2.out
      rw [hq5, ← hl5] at hN5 hR5
      refine ⟨j + 1, A4, m4, c4, by omega, by go_num, Lib.hid ?_, Lib.hid (fun hj1 => ?_), Lib.hid (Hfw3.out.trans HF4.out (fun o ho => by simp at ho; subst ho; exact .inl (by simp)))⟩
      ·rw [← HB2.out]
       exact ⟨hN5, hR5, hA4, hc4⟩
      ·have h1 := Hsm.out j hj1
       have h2 := congrArg List.length HB2.out
       rw [hl5, List.length_append] at h2
       have h3 := HLb.out
       rw [List.length_append] at h3
       have h4 := HE4.out (by omega)
       rw [h4]
       have h5 := own_fr Hown3.out HF4.out (fun o ho => by simp at ho; subst ho; exact own_apart HN3.out.at' (by decide) Hown3.out)
       rw [← HB2.out, hl5, ← hq5]
       have h6 : q = Lb / 64 := by omega
       rw [h6]
       cases h4
       exact ⟨h5, Hli3.out⟩
     case measure => simp [intOf]; omega
  ·obtain rfl : j = n := by omega
   go_wp2
   go_end0
   have hlP := (HP.out W HF.out).len
   rw [← hlP, flatP_all] at HS
   exact ⟨A1, m1, c1, rfl, HS.out, HF.out⟩
end Go.Proofs.YtendohnkhbgfbaaDoor
namespace Go.Proofs.YtendohnkhbgfbaaDoor
open Go.RowKit

theorem beB_next (N : Nat) {k : Nat} (hk : k < 8) : (beB N).take (k + 1) = (beB N).take k ++ [(N : Int) / 2 ^ (56 - 8 * k) % 256] := by
 rcases (show k = 0 ∨ k = 1 ∨ k = 2 ∨ k = 3 ∨ k = 4 ∨ k = 5 ∨ k = 6 ∨ k = 7 by omega) with rfl | rfl | rfl | rfl | rfl | rfl | rfl | rfl <;> simp [beB]
theorem beB_byte (N : Nat) : ∀ x ∈ beB N, 0 ≤ x ∧ x ≤ 255 := by
 intro x hx
 simp only [beB, List.mem_cons, List.not_mem_nil, or_false] at hx
 rcases hx with h | h | h | h | h | h | h | h <;> subst h <;> omega
theorem zerosN_le (n : Nat) : zerosN n ≤ 63 := by unfold zerosN; omega
theorem bytes_len (R : S8) : R.bytes.length = 32 := rfl
def outTo (R : S8) (k : Nat) : List Int := R.bytes.take (4 * k) ++ List.replicate (32 - 4 * k) 0
theorem outTo_zero (R : S8) : outTo R 0 = List.replicate 32 0 := rfl
theorem outTo_all (R : S8) : outTo R 8 = R.bytes := rfl
theorem outTo_length (R : S8) {k : Nat} (hk : k ≤ 8) : (outTo R k).length = 32 := by
 unfold outTo
 rw [List.length_append, List.length_take, List.length_replicate, bytes_len]
 omega
theorem outTo_next (R : S8) {k : Nat} (hk : k < 8) : outTo R (k + 1) = ((((outTo R k).set (4 * k) (wv (R.at k) / 16777216)).set (4 * k + 1) (wv (R.at k) / 65536 % 256)).set (4 * k + 2) (wv (R.at k) / 256 % 256)).set (4 * k + 3) (wv (R.at k) % 256) := by
 rcases (show k = 0 ∨ k = 1 ∨ k = 2 ∨ k = 3 ∨ k = 4 ∨ k = 5 ∨ k = 6 ∨ k = 7 by omega) with rfl | rfl | rfl | rfl | rfl | rfl | rfl | rfl <;> rfl
theorem own_lit0 (w : World) (e : TypeId) : (w.alloc (.cells #[] e)).ownsRow w.heap.size e 1 (.slice (some ⟨w.heap.size, 0, none⟩) 0 0) 0 [] :=
 World.ownsRow_lit w #[] 0 (Nat.le_refl _) (by decide) rfl
set_option maxHeartbeats 1000000 in set_option maxRecDepth 100000 in
theorem Sum_calls (h : Nat) (b : List Int) (A : Option Addr) (m c : Nat) (w : World) (hS : HSt w h b A m c) (hb : ∀ x ∈ b, 0 ≤ x ∧ x ≤ 255) (hlen : b.length ≤ 900000000) (hK : KeysAt w) (hBg : BeginAt w) :
  Calls Tryd.prog 46 #[.pointer (some ⟨h, 0, none⟩)] w fun e w' => e = .returned (.agg (ints .u8 (shaS b)).toArray) ∧ Below w.heap.size w w' := by
 have HS := Lib.hid hS
 have Hb := Lib.hid hb
 have HK := Lib.hid hK
 have HBg := Lib.hid hBg
 obtain ⟨s, hs⟩ : ∃ s, s = blocksS b (b.length / 64) := ⟨_, rfl⟩
 have hH := hS.at'
 rw [← hs] at hH
 obtain ⟨L, hL⟩ : ∃ L, L = b.length := ⟨_, rfl⟩
 rw [← hL] at hlen hH
 have Hs := Lib.hid hs
 have HL := Lib.hid hL
 have HH := Lib.hid hH
 clear hS hb hK hBg hs hL hH
 go_enter Tryd.func46, Tryd.ntmps46
 go_upto_region 1 with fail
 obtain ⟨g, hg⟩ : ∃ g, g = w.heap.size := ⟨_, rfl⟩
 obtain ⟨w0, hw0⟩ : ∃ W, W = w.alloc (.cells (ints .u8 (List.replicate 32 0)).toArray 52) := ⟨_, rfl⟩
 have hB0 : Blk w0 g 52 .u8 (List.replicate 32 0) := by rw [hw0, hg]; exact heap_alloc_new w _
 have hF0 : Fr w w0 [] := by rw [hw0]; exact (Fr.refl w []).alloc _
 have hz0 : w0.heap.size = g + 1 := by rw [hw0, hg]; simp
 have hH0 : HAt w0 h s true (.slice A m c) L := HH.out.fr hF0 (by simp)
 simp only [ints, List.replicate, List.map] at hw0
 rw [← hw0, ← hg]
 have HB0 := Lib.hid hB0
 have HF0 := Lib.hid hF0
 have HG := Lib.hid hg
 have HZ0 := Lib.hid hz0
 have c0 := hH0.cell (j := 0) (by omega)
 have c1 := hH0.cell (j := 1) (by omega)
 have c2 := hH0.cell (j := 2) (by omega)
 have c3 := hH0.cell (j := 3) (by omega)
 have c4 := hH0.cell (j := 4) (by omega)
 have c5 := hH0.cell (j := 5) (by omega)
 have c6 := hH0.cell (j := 6) (by omega)
 have c7 := hH0.cell (j := 7) (by omega)
 have c8 := hH0.c8
 have c10 := hH0.c10
 have HH0 := Lib.hid hH0
 have a0 := fun o => kept_new c0 o
 have a1 := fun o => kept_new c1 o
 have a2 := fun o => kept_new c2 o
 have a3 := fun o => kept_new c3 o
 have a4 := fun o => kept_new c4 o
 have a5 := fun o => kept_new c5 o
 have a6 := fun o => kept_new c6 o
 have a7 := fun o => kept_new c7 o
 have a8 := fun o => kept_new c8 o
 have a10 := fun o => kept_new c10 o
 clear hB0 hF0 hw0 hg hz0 hH0
 go_region
 obtain ⟨gc, hgc⟩ : ∃ gc, gc = w0.heap.size := ⟨_, rfl⟩
 obtain ⟨w1, hw1⟩ : ∃ W, W = (w0.alloc (.cells #[.int .u32 (wv (s.at 0)), .int .u32 (wv (s.at 1)), .int .u32 (wv (s.at 2)), .int .u32 (wv (s.at 3)), .int .u32 (wv (s.at 4)), .int .u32 (wv (s.at 5)), .int .u32 (wv (s.at 6)), .int .u32 (wv (s.at 7)), .bool true, .slice none 0 0, .int .u64 (L : Int)] 86)).drew := ⟨_, rfl⟩
 rw [← hw1, ← hgc]
 have hF1 : Fr w0 w1 [] := by rw [hw1]; exact ((Fr.refl w0 []).alloc _).drew
 have hN1 : HAt w1 gc s true (.slice none 0 0) L := by
  constructor
  rw [hw1, hgc]
  exact heap_alloc_new w0 _
 have hz1 : w1.heap.size = gc + 1 := by rw [hw1, hgc]; show (w0.alloc _).heap.size = _; simp
 have HGC := Lib.hid hgc
 have HF1 := Lib.hid hF1
 have HN1 := Lib.hid hN1
 have HZ1 := Lib.hid hz1
 clear hgc hw1 hF1 hN1 hz1 c0 c1 c2 c3 c4 c5 c6 c7 c8 c10 a0 a1 a2 a3 a4 a5 a6 a7 a8 a10
 have hFw1 : Fr w w1 [] := HF0.out.trans HF1.out (fun o ho => .inl ho)
 go_wp2_with fail
 refine (start_calls gc s true (.slice none 0 0) L w1 HN1.out (fun j hj => cell_fr hFw1 (HBg.out j hj) (by simp))).mono ?_
 rintro e w2 ⟨rfl, hN2, hF2⟩
 rw [if_pos rfl] at hN2
 have hF12 : Fr w0 w2 [] := HF1.out.trans hF2 (fun o ho => .inr (fun k e => by simp at ho; subst ho; cases e; rw [HGC.out]; exact Nat.le_refl _))
 have hHS : HSt w2 h b A m c := by
  have hf : Fr w w2 [] := HF0.out.trans hF12 (fun o ho => .inl ho)
  exact ⟨HS.out.at'.fr hf (by simp), rd_fr hf HS.out.rd (fun _ _ _ _ => by simp), HS.out.nil, HS.out.cap⟩
 have hfz := hN2.frozen 9
 have h9 := hHS.at'.c9
 have HN2 := Lib.hid hN2
 have HF12 := Lib.hid hF12
 have HHS := Lib.hid hHS
 have hsz2 : w0.heap.size ≤ w2.heap.size := hF12.size
 clear hN2 hF2 hF12 hHS hFw1
 have a9 := fun o => kept_new h9 o
 have hmL : m ≤ L := by
  have h1 := HHS.out.rd.1
  rw [List.length_drop, ← HL.out] at h1
  omega
 go_wp2_with (at_builtin; refine wpList_appRdF rfl _ _ rfl elBy (ys := []) (own_lit0 w2 _) rfl rfl (HHS.out.rd.below ((Below.refl _ _).alloc (Nat.le_refl _) _)) HHS.out.nil (by omega) (by simp) ?_; intro v3 w3 hown3 hfr3 hli3; rw [Nat.zero_add, List.nil_append] at hown3; obtain ⟨A3, c3, rfl⟩ := own_slice hown3; have hf3 : Fr w2 w3 [] := ((Fr.refl w2 []).alloc _).trans hfr3 (fun o ho => .inr (fun k e => by simp at ho; subst ho; simp [Value.ownBlock] at e; omega)); have hN3 := HN2.out.fr hf3 (by simp); have fz3 := hN3.frozen 9; have h39 := hN3.c9; have HN3 := Lib.hid hN3; have Hown3 := Lib.hid hown3; have Hf3 := Lib.hid hf3; clear hown3 hfr3 hli3 hN3 hf3)
 obtain ⟨W3, hW3⟩ : ∃ W, W = w3.setCell ⟨gc, 9, none⟩ (.slice A3 m c3) := ⟨_, rfl⟩
 have hz3 : W3.heap.size = w3.heap.size := by rw [hW3]; simp
 have hF3 : Fr w2 W3 [some gc] := by rw [hW3]; exact (Hf3.out.mono (fun o ho => by cases ho)).set _ _ (.inl (by simp))
 have hF03 : Fr w0 W3 [] := HF12.out.trans hF3 (fun o ho => .inr (fun k e => by simp at ho; subst ho; cases e; rw [HGC.out]; exact Nat.le_refl _))
 have hHA3 : HAt W3 gc s true (.slice A3 m c3) L := by rw [hW3]; exact HN3.out.setV _
 have hO3 : W3.ownsRow w2.heap.size 5 1 (.slice A3 m c3) m (ints .u8 (b.drop (64 * (b.length / 64)))) := by
  rw [hW3]
  exact own_fr Hown3.out ((Fr.refl _ [some gc]).set _ _ (.inl (by simp))) (fun o ho => by simp at ho; subst ho; exact own_apart HN3.out.at' (by decide) Hown3.out)
 have hHh3 : HAt W3 h (blocksS b (b.length / 64)) true (.slice A m c) b.length := HHS.out.at'.fr hF3 (by have := HH0.out.lt; have := HGC.out; simp; omega)
 rw [← HL.out] at hHh3
 have HHh3 := Lib.hid hHh3
 rw [← hW3, ← hz3]
 have HF03 := Lib.hid hF03
 have HHA3 := Lib.hid hHA3
 have HO3 := Lib.hid hO3
 have hs23 : w2.heap.size ≤ W3.heap.size := hF3.size
 clear hHh3 hW3 hz3 hF3 hF03 hHA3 hO3 hfz h9 a9 fz3 h39 HN3 Hown3 Hf3
 obtain ⟨Z, hZ⟩ : ∃ Z, Z = zerosN L := ⟨_, rfl⟩
 have hmm : m = L % 64 := by
  have h1 := HHS.out.rd.1
  rw [List.length_drop, ← HL.out] at h1
  omega
 have hZ1 : Z ≤ 63 ∧ (m + 1 + Z) % 64 = 56 := by unfold zerosN at hZ; omega
 have HZ := Lib.hid hZ
 have Hmm := Lib.hid hmm
 clear hZ hmm
 go_loopg [4] Z (fun g5 v wr => ∃ z : Nat, z + g5 = Z ∧ Hid (wr.ownsRow W3.heap.size 5 1 v (1 + z) (ints .u8 (128 :: List.replicate z 0))) ∧ Hid (Below W3.heap.size W3 wr))
 case atStart => exact ⟨0, by omega, Lib.hid (World.ownsRow_lit W3 #[.int .u8 128] 1 (Nat.le_refl _) (by decide) rfl), Lib.hid ((Below.refl _ _).alloc (Nat.le_refl _) _)⟩
 case round =>
  obtain ⟨z, hz, HV, HF⟩ := hrel
  obtain ⟨W, hW⟩ : ∃ W, W = wr := ⟨_, rfl⟩
  subst hW
  have hHA := HHA3.out.fr (Fr.ofBelow HF.out []) (by simp)
  have hszW : W3.heap.size ≤ W.heap.size := HF.out.size
  have h9 := hHA.c9
  have f9 := hHA.frozen 9
  have HHA := Lib.hid hHA
  clear hHA
  obtain ⟨Ae, ce, hve⟩ := own_slice HV.out
  subst hve
  by_cases hlt : z < Z
  ·have hmod : (((m : Int) + (1 + (z : Int))) % 64 != 56) = true := by simp; omega
   go_wp2_with (at_builtin; refine wpList_app1 rfl _ _ rfl elBy HV.out rfl rfl rfl rfl (by omega) hszW ?_; intro v5 w5 hown5 hbel5 _; have Hown5 := Lib.hid hown5; have Hbel5 := Lib.hid hbel5; clear hown5 hbel5)
   go_roundg (gk - 1)
   case measure => omega
   case rel =>
    refine ⟨z + 1, by omega, ?_, Lib.hid (HF.out.trans Hbel5.out)⟩
    have h5 := Hown5.out
    rw [show ints .u8 (128 :: List.replicate z 0) ++ #[Value.int .u8 0].toList = ints .u8 (128 :: List.replicate (z + 1) 0) by rw [List.replicate_succ', ← List.cons_append, ints_append]; rfl] at h5
    exact Lib.hid h5
  ·obtain rfl : z = Z := by omega
   have hmod : (((m : Int) + (1 + (z : Int))) % 64 != 56) = false := by simp; omega
   go_wp2_with fail
   clear hmod h9 f9 HHA
   go_loopg [4, 5] 8 (fun g5 v i wr => ∃ (k : Nat) (y : Int), k + g5 = 8 ∧ y = 56 - 8 * (k : Int) ∧ i = .int .i64 y ∧ Hid (wr.ownsRow W3.heap.size 5 1 v (1 + z + k) (ints .u8 (128 :: (List.replicate z 0 ++ (beB (8 * L)).take k)))) ∧ Hid (Below W3.heap.size W3 wr))
   case atStart => exact ⟨0, 56, by omega, by omega, rfl, by simpa using HV, HF⟩
   case round =>
    obtain ⟨k, y, hk, hy, rfl, HV2, HF2⟩ := hrel
    obtain ⟨W5, hW5⟩ : ∃ W, W = wr := ⟨_, rfl⟩
    subst hW5
    have hHh := HHh3.out.fr (Fr.ofBelow HF2.out []) (by simp)
    have h10 := hHh.c10
    have hszW5 : W3.heap.size ≤ W5.heap.size := HF2.out.size
    obtain ⟨Ae, ce, hve⟩ := own_slice HV2.out
    subst hve
    by_cases hlt : k < 8
    ·obtain ⟨d, hd⟩ : ∃ d : Nat, y = d := ⟨y.toNat, by omega⟩
     subst hd
     go_wp2_with (at_builtin; refine wpList_app1 rfl _ _ rfl elBy HV2.out rfl rfl rfl rfl (by omega) hszW5 ?_; intro v6 w6 hown6 hbel6 _; have Hown6 := Lib.hid hown6; have Hbel6 := Lib.hid hbel6; clear hown6 hbel6)
     go_roundg (gk - 1)
     case measure => omega
     case rel =>
      refine ⟨k + 1, _, by omega, ?_, rfl, ?_, Lib.hid (HF2.out.trans Hbel6.out)⟩
      ·omega
      have h5 := Hown6.out
      rw [show ints .u8 (128 :: (List.replicate z 0 ++ (beB (8 * L)).take k)) ++ #[Value.int .u8 (8 * (L : Int) / 2 ^ (56 - 8 * k) % 256)].toList = ints .u8 (128 :: (List.replicate z 0 ++ (beB (8 * L)).take (k + 1))) by
       rw [beB_next (8 * L) hlt, ← List.append_assoc, ← List.cons_append, ints_append]; simp [ints]] at h5
      exact Lib.hid h5
    ·obtain rfl : k = 8 := by omega
     have hgc : gc < W3.heap.size := HHA3.out.lt
     have hA3 : ∀ k, (Value.slice A3 m c3).ownBlock = some k → w2.heap.size ≤ k ∧ k < W3.heap.size := fun k hk => HO3.out.lt k hk
     obtain ⟨E, hE⟩ : ∃ E, E = 128 :: (List.replicate z 0 ++ (beB (8 * L)).take 8) := ⟨_, rfl⟩
     rw [← hE] at HV2
     have HE := Lib.hid hE
     have HGc := Lib.hid hgc
     have HA3 := Lib.hid hA3
     clear hE hgc hA3 h10 hHh
     go_wp2_with fail
     obtain ⟨W6, hW6⟩ : ∃ W, W = W5.alloc (.cells #[.slice Ae (1 + z + 8) ce] 22) := ⟨_, rfl⟩
     obtain ⟨gp, hgp⟩ : ∃ gp, gp = W5.heap.size := ⟨_, rfl⟩
     rw [← hW6, ← hgp]
     have hgcw : w.heap.size ≤ gc := by rw [HGC.out]; exact HF0.out.size
     have hf36 : Fr W3 W6 [] := by rw [hW6]; exact (Fr.ofBelow HF2.out []).alloc _
     have hf06 : Fr w0 W6 [] := HF03.out.trans hf36 (fun o ho => .inl ho)
     have hfw6 : Fr w W6 [] := HF0.out.trans hf06 (fun o ho => .inl ho)
     have hO6 : W6.ownsRow w0.heap.size 5 1 (.slice A3 m c3) m (ints .u8 (b.drop (64 * (b.length / 64)))) := own_mono (own_fr HO3.out hf36 (fun o ho => by cases ho)) hsz2
     have hH6 : HAt W6 gc s true (.slice A3 m c3) b.length := by
      have := HHA3.out.fr hf36 (by simp)
      rwa [HL.out] at this
     have hfree : ∀ wr, Fr W6 wr [some gc, (Value.slice A3 m c3).ownBlock] → Fr w wr [] := fun wr hf => hfw6.trans hf (fun o ho => by
      simp only [List.mem_cons, List.not_mem_nil, or_false] at ho
      rcases ho with rfl | rfl
      ·exact .inr (fun k e => by cases e; exact hgcw)
      ·exact .inr (fun k e => by have := (HA3.out k e).1; have := HF0.out.size; omega))
     have hcp : W6.cell? ⟨gp, 0 + 0, none⟩ = some (.slice Ae (1 + z + 8) ce) := by
      rw [cell_of_row W6 gp _ _ _ (0, 0) (by rw [hW6, hgp]; exact heap_alloc_new W5 _)]
      rfl
     obtain ⟨_, _, e1, hce, hre⟩ := own_rd HV2.out
     cases e1
     have hrd6 : Rd W6 .u8 Ae (1 + z + 8) E := by rw [hW6]; exact hre.below ((Below.refl _ _).alloc (Nat.le_refl _) _)
     have hparts : ∀ wr, Fr W6 wr [some gc, (Value.slice A3 m c3).ownBlock] → PartsAt wr (some ⟨gp, 0, none⟩) 1 [E] := fun wr hf => by
      refine ⟨rfl, fun _ => ⟨gp, 0, rfl, fun j hj => ?_⟩⟩
      obtain rfl : j = 0 := by omega
      refine ⟨Ae, 1 + z + 8, ce, cell_fr hf hcp ?_, rd_fr hf hrd6 (fun bb oo e _ => ?_), own_none HV2.out, hce⟩
      ·simp only [List.mem_cons, List.not_mem_nil, or_false, not_or]
       refine ⟨fun e => ?_, fun e => ?_⟩
       ·cases e; have := HGc.out; have := HF2.out.size; omega
       ·have := (HA3.out gp e.symm).2; omega
      ·subst e
       have hlo := (HV2.out.lt bb rfl).1
       simp only [List.mem_cons, List.not_mem_nil, or_false, not_or]
       refine ⟨fun e => ?_, fun e => ?_⟩
       ·cases e; have := HGc.out; omega
       ·have := (HA3.out bb e.symm).2; omega
     have hpad : b ++ [E].flatten = padS b := by
      rw [HE.out, List.flatten_cons, List.flatten_nil, List.append_nil, List.take_of_length_le (by simp [beB]), HZ.out, HL.out]
      rfl
     have hpl := padS_length b
     have hEb : ∀ l ∈ [E], ∀ x ∈ l, 0 ≤ x ∧ x ≤ 255 := fun l hl x hx => by
      have : l = E := by simpa using hl
      subst this
      have h1 := beB_byte (8 * L)
      rw [HE.out] at hx
      rcases List.mem_cons.1 hx with rfl | hx
      ·omega
      ·rcases List.mem_append.1 hx with h2 | h2
       ·have := List.eq_of_mem_replicate h2; omega
       ·exact h1 x (List.mem_of_mem_take h2)
     refine (Write_calls w0.heap.size gc s true (.slice A3 m c3) m b (some ⟨gp, 0, none⟩) 1 1 [E] W6 hH6 Hs.out (by rw [Hmm.out, HL.out]; omega) hO6 (by rw [HGC.out]; exact Nat.le_refl _) Hb.out hEb hparts
      (fun wr hf j hj => cell_fr (hfree wr hf) (HK.out j hj) (by simp)) (fun j hj => cell_fr hfw6 (HBg.out j hj) (by simp))
      (by rw [← List.length_append, hpad, hpl]; have h1 := zerosN_le b.length; have h2 := HL.out; omega) (by omega) (fun j hj => by omega)).mono ?_
     rintro e w7 ⟨A7, m7, c7, rfl, hS7, hf7⟩
     rw [hpad] at hS7
     have hfw7 : Fr w w7 [] := hfree w7 hf7
     obtain ⟨R, hR⟩ : ∃ R, R = blocksS (padS b) ((padS b).length / 64) := ⟨_, rfl⟩
     have hN7 := hS7.at'
     rw [← hR] at hN7
     have hgz : gc < w7.heap.size := hN7.lt
     have hg7 : w.heap.size ≤ w7.heap.size := hfw7.size
     have hB7 : Blk w7 g 52 .u8 (List.replicate 32 0) := by
      have h6 : Blk W6 g 52 .u8 (List.replicate 32 0) := hf06.blk HB0.out (by simp)
      refine hf7.blk h6 ?_
      have := HG.out
      have := HZ0.out
      have := HGC.out
      simp only [List.mem_cons, List.not_mem_nil, or_false, not_or]
      refine ⟨fun e => ?_, fun e => ?_⟩
      ·cases e; omega
      ·have := (HA3.out g e.symm).1; omega
     have HR := Lib.hid hR
     have HN7 := Lib.hid hN7
     have HFw7 := Lib.hid hfw7
     have HB7 := Lib.hid hB7
     clear hW6 hgp hgcw hf36 hf06 hfw6 hO6 hH6 hfree hcp hce hre hrd6 hparts hpad hpl hEb hR hS7 hf7 hN7 hB7 hfw7
     go_upto_region 13 with fail
     obtain ⟨go, hgo⟩ : ∃ go, go = w7.heap.size := ⟨_, rfl⟩
     obtain ⟨w8, hw8⟩ : ∃ W, W = w7.alloc (.cells (ints .u8 (outTo R 0)).toArray 52) := ⟨_, rfl⟩
     have hB8 : Blk w8 go 52 .u8 (outTo R 0) := by rw [hw8, hgo]; exact heap_alloc_new w7 _
     have hF8 : Fr w7 w8 [] := by rw [hw8]; exact (Fr.refl w7 []).alloc _
     have hN8 : HAt w8 gc R true (.slice A7 m7 c7) (padS b).length := HN7.out.fr hF8 (by simp)
     have hB88 : Blk w8 g 52 .u8 (List.replicate 32 0) := hF8.blk HB7.out (by simp)
     have hog : g < go := by rw [hgo]; exact HB7.out.lt
     rw [outTo_zero] at hw8
     simp only [ints, List.replicate, List.map] at hw8
     rw [← hw8, ← hgo]
     have HB8 := Lib.hid hB8
     have HB88 := Lib.hid hB88
     have HF8 := Lib.hid hF8
     have HGO := Lib.hid hgo
     clear hw8 hgo hB8 hF8 hB88
     have c0 := hN8.cell (j := 0) (by omega)
     have c1 := hN8.cell (j := 1) (by omega)
     have c2 := hN8.cell (j := 2) (by omega)
     have c3 := hN8.cell (j := 3) (by omega)
     have c4 := hN8.cell (j := 4) (by omega)
     have c5 := hN8.cell (j := 5) (by omega)
     have c6 := hN8.cell (j := 6) (by omega)
     have c7 := hN8.cell (j := 7) (by omega)
     clear hN8
     go_wp2
     have e8 : (#[.int .u32 (wv (R.at 0)), .int .u32 (wv (R.at 1)), .int .u32 (wv (R.at 2)), .int .u32 (wv (R.at 3)), .int .u32 (wv (R.at 4)), .int .u32 (wv (R.at 5)), .int .u32 (wv (R.at 6)), .int .u32 (wv (R.at 7))] : Array Value) = (ints .u32 (s8L R)).toArray := rfl
     rw [e8]
     clear e8 c0 c1 c2 c3 c4 c5 c6 c7
     go_loopw [60] (fun i wr => ∃ k : Nat, k ≤ 8 ∧ i = .int .i64 k ∧ Hid (Blk wr go 52 .u8 (outTo R k)) ∧ Hid (Fr w8 wr [some go])) (fun i _ => 8 - (intOf i).toNat)
     case atStart => exact ⟨0, by omega, rfl, HB8, Lib.hid (Fr.refl _ _)⟩
     case round =>
      obtain ⟨k, hk9, rfl, HBk, HFk⟩ := hrel
      obtain ⟨W9, hW9⟩ : ∃ W, W = wr := ⟨_, rfl⟩
      subst hW9
      by_cases hlt4 : k < 8
      ·have hix := run_index8 R hlt4
       have f0 := HBk.out.frozen
       have z0 := HBk.out.cell (j := 4 * k) (by rw [outTo_length R hk9]; omega)
       have z1 := HBk.out.cell (j := 4 * k + 1) (by rw [outTo_length R hk9]; omega)
       have z2 := HBk.out.cell (j := 4 * k + 2) (by rw [outTo_length R hk9]; omega)
       have z3 := HBk.out.cell (j := 4 * k + 3) (by rw [outTo_length R hk9]; omega)
       have hr := wv_rng (R.at k)
       obtain ⟨x, hx⟩ : ∃ x, x = wv (R.at k) := ⟨_, rfl⟩
       rw [← hx] at hix hr
       have HX := Lib.hid hx
       clear hx
       go_wp2
       go_roundw
       case rel =>
        refine ⟨k + 1, by omega, by go_num, ?_, Lib.hid ((((HFk.out.set _ _ (.inl (by simp))).set _ _ (.inl (by simp))).set _ _ (.inl (by simp))).set _ _ (.inl (by simp)))⟩
        rw [outTo_next R hlt4, ← HX.out]
        exact Lib.hid ((((HBk.out.set _ _).set _ _).set _ _).set _ _)
       case measure => simp [intOf]; omega
      ·obtain rfl : k = 8 := by omega
       rw [outTo_all] at HBk
       have hs : (ints .u8 R.bytes).toArray.size = 32 := by rw [ints_size, bytes_len]
       have Hsz := Lib.hid hs
       have hgs : Blk W9 g 52 .u8 (List.replicate 32 0) := HFk.out.blk HB88.out (by simp; omega)
       have HGS := Lib.hid hgs
       clear hs hgs
       go_wp2_with (first
        | (refine wpList_load_row rfl 52 _ rfl go rfl 52 _ (0, 0) _ HBk.out Tryd.underlying52 rfl (by rw [Hsz.out]; kernel_rfl) ?_)
        | (refine wpList_store_row rfl 52 _ _ rfl g _ rfl rfl 52 _ HGS.out (by rw [Hsz.out]; kernel_rfl) (by rw [Hsz.out]; simp [ints]) (ints_one _ _) ?_))
       have hrow := setRow_heap _ g _ (ints .u8 R.bytes).toArray 52 _ HGS.out
       have hl := run_loadVar_row (P := Tryd.prog) _ g 52 52 _ _ _ hrow Tryd.underlying52 rfl (by rw [Hsz.out]; kernel_rfl)
       refine bodyPost_ret (v := .agg (ints .u8 R.bytes).toArray) ?_ rfl ⟨by rw [HR.out]; rfl, ?_⟩
       ·simp [results, Tryd.results46, asAddr, hl, Act.put]
       ·have hf9 : Fr w W9 [] := (HFw7.out.trans HF8.out (fun o ho => .inl ho)).trans HFk.out (fun o ho => .inr (fun k e => by simp at ho; subst ho; cases e; rw [HGO.out]; exact hg7))
        exact (hf9.below (Nat.le_refl _) (fun o ho => by cases ho)).trans ⟨rfl, rfl, rfl, by simp, fun i hi => setRow_other _ g i _ (by have := HG.out; omega)⟩
end Go.Proofs.YtendohnkhbgfbaaDoor
namespace Go.Proofs.YtendohnkhbgfbaaDoor
open Go.RowKit

theorem PartsAt.below {w w' : World} {A : Option Addr} {n : Nat} {P : List (List Int)} (h : PartsAt w A n P) (hb : Below w.heap.size w w') : PartsAt w' A n P :=
 ⟨h.len, fun hn => by
  obtain ⟨b, o, e, hx⟩ := h.at' hn
  exact ⟨b, o, e, fun j hj => by
   obtain ⟨A', n', c', h1, h2, h3⟩ := hx j hj
   exact ⟨A', n', c', kept_cell hb h1, h2.below hb, h3⟩⟩⟩
set_option maxHeartbeats 1000000 in set_option maxRecDepth 100000 in
theorem ShaOf_calls (A : Option Addr) (n c : Nat) (P : List (List Int)) (w : World) (hP : PartsAt w A n P) (hbP : ∀ l ∈ P, ∀ x ∈ l, 0 ≤ x ∧ x ≤ 255) (hK : KeysAt w) (hBg : BeginAt w) (hlen : P.flatten.length ≤ 900000000) (hn : n ≤ 1000000) (hsm : ∀ j, j + 1 < n → (flat P (j + 1)).length < 64) :
  Calls Tryd.prog 26 #[.slice A n c] w fun e w' => e = .returned (.agg (ints .u8 (shaS P.flatten)).toArray) ∧ Below w.heap.size w w' := by
 have HP := Lib.hid hP
 have HbP := Lib.hid hbP
 have HK := Lib.hid hK
 have HBg := Lib.hid hBg
 have Hlen := Lib.hid hlen
 have Hsm := Lib.hid hsm
 clear hP hbP hK hBg hlen hsm
 go_enter Tryd.func26, Tryd.ntmps26
 go_upto_region 1 with fail
 obtain ⟨g, hg⟩ : ∃ g, g = w.heap.size := ⟨_, rfl⟩
 obtain ⟨w0, hw0⟩ : ∃ W, W = w.alloc (.cells (ints .u8 (List.replicate 32 0)).toArray 52) := ⟨_, rfl⟩
 have hB0 : Blk w0 g 52 .u8 (List.replicate 32 0) := by rw [hw0, hg]; exact heap_alloc_new w _
 have hF0 : Fr w w0 [] := by rw [hw0]; exact (Fr.refl w []).alloc _
 have hz0 : w0.heap.size = g + 1 := by rw [hw0, hg]; simp
 simp only [ints, List.replicate, List.map] at hw0
 rw [← hw0, ← hg]
 have HB0 := Lib.hid hB0
 have HF0 := Lib.hid hF0
 have HG := Lib.hid hg
 have HZ0 := Lib.hid hz0
 clear hB0 hF0 hw0 hg hz0
 go_wp2_with fail
 obtain ⟨gc, hgc⟩ : ∃ gc, gc = w0.heap.size := ⟨_, rfl⟩
 obtain ⟨w1, hw1⟩ : ∃ W, W = w0.alloc (.cells #[.int .u32 0, .int .u32 0, .int .u32 0, .int .u32 0, .int .u32 0, .int .u32 0, .int .u32 0, .int .u32 0, .bool false, .slice none 0 0, .int .u64 0] 86) := ⟨_, rfl⟩
 rw [← hw1, ← hgc]
 have hF1 : Fr w0 w1 [] := by rw [hw1]; exact (Fr.refl w0 []).alloc _
 have hN1 : HAt w1 gc zeroS false (.slice none 0 0) 0 := by
  constructor
  rw [hw1, hgc]
  exact heap_alloc_new w0 _
 have hfw1 : Fr w w1 [] := HF0.out.trans hF1 (fun o ho => .inl ho)
 have hgcw : w.heap.size ≤ gc := by rw [hgc]; exact HF0.out.size
 have hfree : ∀ wr, Fr w1 wr [some gc, (Value.slice none 0 0).ownBlock] → Fr w wr [] := fun wr hf => hfw1.trans hf (fun o ho => by
  simp only [List.mem_cons, List.not_mem_nil, or_false] at ho
  rcases ho with rfl | rfl
  ·exact .inr (fun k e => by cases e; exact hgcw)
  ·exact .inr (fun k e => by cases e))
 have hbel : ∀ wr, Fr w wr [] → Below w.heap.size w wr := fun wr hf => hf.below (Nat.le_refl _) (fun o ho => by cases ho)
 refine (Write_calls 0 gc zeroS false (.slice none 0 0) 0 [] A n c P w1 hN1 rfl rfl (World.ownsRow_nil _ _ _ _) (Nat.zero_le _) (fun x hx => by cases hx) HbP.out
  (fun wr hf => HP.out.below (hbel wr (hfree wr hf))) (fun wr hf j hj => cell_fr (hfree wr hf) (HK.out j hj) (by simp)) (fun j hj => cell_fr hfw1 (HBg.out j hj) (by simp))
  (by have := Hlen.out; simp only [List.length_nil]; omega) hn (fun j hj => by have := Hsm.out j hj; simpa using this)).mono ?_
 rintro e w2 ⟨A2, m2, c2, rfl, hS2, hf2⟩
 rw [List.nil_append] at hS2
 have hfw2 := hfree w2 hf2
 have hb : ∀ x ∈ P.flatten, 0 ≤ x ∧ x ≤ 255 := fun x hx => by
  obtain ⟨l, hl, h⟩ := List.mem_flatten.1 hx
  exact HbP.out l hl x h
 have HS2 := Lib.hid hS2
 have HFw2 := Lib.hid hfw2
 have Hb := Lib.hid hb
 have hB2 : Blk w2 g 52 .u8 (List.replicate 32 0) := by
  refine hf2.blk (hF1.blk HB0.out (by simp)) ?_
  have := HG.out
  have := HZ0.out
  simp only [List.mem_cons, List.not_mem_nil, or_false, not_or]
  exact ⟨fun e => by cases e; omega, fun e => by cases e⟩
 have HB2 := Lib.hid hB2
 clear hS2 hfw2 hb hB2 hfree hbel hfw1 hF1 hN1 hf2 hw1 hgc
 go_wp2_with fail
 refine (Sum_calls gc P.flatten A2 m2 c2 w2 HS2.out Hb.out Hlen.out (fun j hj => cell_fr HFw2.out (HK.out j hj) (by simp)) (fun j hj => cell_fr HFw2.out (HBg.out j hj) (by simp))).mono ?_
 rintro e w3 ⟨rfl, hb3⟩
 have hdl := shaS_length P.flatten
 obtain ⟨D, hD⟩ : ∃ D, D = shaS P.flatten := ⟨_, rfl⟩
 rw [← hD] at hdl ⊢
 have HD := Lib.hid hD
 clear hD
 have hs : (ints .u8 (D)).toArray.size = 32 := by rw [ints_size, hdl]
 have Hs := Lib.hid hs
 have hB3 : Blk w3 g 52 .u8 (List.replicate 32 0) := (Fr.ofBelow hb3 []).blk HB2.out (by simp)
 have HB3 := Lib.hid hB3
 have Hb3 := Lib.hid hb3
 clear hs hB3 hb3
 go_wp2_with (refine wpList_store_row rfl 52 _ _ rfl g _ rfl rfl 52 _ HB3.out (by rw [Hs.out]; kernel_rfl) (by rw [Hs.out]; simp [ints]) (ints_one _ _) ?_)
 have hrow := setRow_heap _ g _ (ints .u8 (D)).toArray 52 _ HB3.out
 have hl := run_loadVar_row (P := Tryd.prog) _ g 52 52 _ _ _ hrow Tryd.underlying52 rfl (by rw [Hs.out]; kernel_rfl)
 refine bodyPost_ret (v := .agg (ints .u8 D).toArray) ?_ rfl ⟨by rw [HD.out], ?_⟩
 ·simp [results, Tryd.results26, asAddr, hl, Act.put]
 ·have hf9 : Fr w w3 [] := HFw2.out.trans (Fr.ofBelow Hb3.out []) (fun o ho => .inl ho)
  exact (hf9.below (Nat.le_refl _) (fun o ho => by cases ho)).trans ⟨rfl, rfl, rfl, by simp, fun i hi => setRow_other _ g i _ (by have := HG.out; omega)⟩
end Go.Proofs.YtendohnkhbgfbaaDoor
