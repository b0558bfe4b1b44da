/- THE JOURNAL, plain: what a device that no cut is planned for holds of a journal; what Open, Add, Replace make of it. No Go here. -/
import Derived.Test.YteggldplmbegfaaB2
import Derived.Test.YteggldplmbegfaaB1
set_option linter.unusedVariables false
set_option linter.unusedSimpArgs false
namespace Go.Proofs.Yteggldplmbegfaa

structure Dev.Calm (D : Dev) : Prop where
  ok : D.Ok
  left : D.left < 0
  off : D.off = false
  loose : D.loose = []
  six : 6 ≤ D.sure.length
def Dev.sec (D : Dev) (j : Nat) : List UInt8 := D.sure.getD j []
theorem Dev.Calm.at_ {D : Dev} (h : D.Calm) (j : Nat) : D.at_ (j : Int) = D.sec j := by
  unfold Dev.at_ Dev.sec
  rw [h.loose]
  rfl
theorem Dev.secs_two {D : Dev} (h : 6 ≤ D.sure.length) : 2 ≤ D.secs ∧ 2 * D.secs + 2 ≤ D.sure.length := by unfold Dev.secs; omega
theorem Dev.Calm.sec_len {D : Dev} (h : D.Calm) (j : Nat) (hj : j < D.sure.length) : (D.sec j).length = 256 := by
  refine h.ok.wf.full _ ?_
  unfold Dev.sec
  rw [List.getD_eq_getElem?_getD, List.getElem?_eq_getElem hj]
  exact List.getElem_mem _
/-- A sector's bytes are those of the data, as far as these go. -/
def Agrees (s data : List UInt8) (k : Nat) : Prop := s.take (data.length - k * 256) = (data.drop (k * 256)).take 256
def SideHas (D : Dev) (side : Nat) (data : List UInt8) : Prop := ∀ k, k < D.secs → Agrees (D.sec (2 + side * D.secs + k)) data k
theorem agrees_past {s data : List UInt8} {k : Nat} (h : data.length ≤ k * 256) : Agrees s data k := by
  unfold Agrees
  rw [List.drop_eq_nil_of_le h, Nat.sub_eq_zero_of_le h]
  simp
theorem agrees_chunk (all : List UInt8) (k : Nat) : Agrees (chunk all k) all k := by
  unfold Agrees chunk
  by_cases h : 256 ≤ all.length - k * 256
  · have hl : ((all.drop (k * 256)).take 256).length = 256 := by rw [List.length_take, List.length_drop]; omega
    rw [hl, Nat.sub_self, List.replicate_zero, List.append_nil, List.take_of_length_le (by omega)]
  · have hl : ((all.drop (k * 256)).take 256).length = all.length - k * 256 := by rw [List.length_take, List.length_drop]; omega
    rw [← hl, List.take_left]
theorem take_both {a b : List UInt8} {m n : Nat} (h : a.take m = b.take m) (hl : a.length = b.length) : (a.take n ++ b.drop n).take m = a.take m := by
  refine List.ext_getElem? fun i => ?_
  rw [List.getElem?_take, List.getElem?_take]
  by_cases hi : i < m
  · rw [if_pos hi, if_pos hi]
    have h1 : a[i]? = b[i]? := by
      have := congrArg (·[i]?) h
      simpa [List.getElem?_take, hi] using this
    by_cases hn : i < (a.take n).length
    · rw [List.getElem?_append_left hn, List.getElem?_take]
      rw [List.length_take] at hn
      rw [if_pos (by omega)]
    · rw [List.getElem?_append_right (by omega), List.getElem?_drop, h1]
      rw [List.length_take] at hn ⊢
      by_cases hna : n ≤ a.length
      · rw [show n + (i - min n a.length) = i by omega]
      · rw [List.getElem?_eq_none (by omega), List.getElem?_eq_none (by omega)]
  · rw [if_neg hi, if_neg hi]
/-- A torn write over what agrees. -/
theorem agrees_torn {a b data : List UInt8} {k : Nat} (ha : Agrees a data k) (hb : Agrees b data k) (hl : a.length = b.length) (n : Nat) : Agrees (a.take n ++ b.drop n) data k := by
  unfold Agrees at *
  rw [take_both (ha.trans hb.symm) hl]
  exact ha
theorem agrees_pre {s all : List UInt8} {k m : Nat} (h : Agrees s all k) : Agrees s (all.take m) k := by
  unfold Agrees at *
  by_cases hm : m ≤ all.length
  · rw [List.length_take, Nat.min_eq_left hm, List.drop_take, List.take_take]
    have h2 := congrArg (List.take (m - k * 256)) h
    rw [List.take_take, List.take_take] at h2
    rw [Nat.min_eq_left (by omega)] at h2
    rw [h2, Nat.min_comm]
  · have e : all.take m = all := List.take_of_length_le (by omega)
    rw [e]
    exact h
theorem SideHas.pre {D : Dev} {side m : Nat} {all : List UInt8} (h : SideHas D side all) : SideHas D side (all.take m) := fun k hk => agrees_pre (h k hk)
theorem side_length {D : Dev} (h : D.Calm) {side : Nat} (hs : side ≤ 1) : ∀ n, n ≤ D.secs → (D.side side n).length = n * 256
  | 0, _ => rfl
  | n + 1, hn => by
    have h2 := Dev.secs_two h.six
    have h4 : side * D.secs ≤ 1 * D.secs := Nat.mul_le_mul_right _ hs
    rw [Dev.side, List.length_append, side_length h hs n (by omega), h.at_, h.sec_len _ (by omega)]
    omega
set_option maxRecDepth 20000 in
theorem side_take {D : Dev} (h : D.Calm) {side : Nat} (hs : side ≤ 1) {data : List UInt8} (hd : SideHas D side data) : ∀ n, n ≤ D.secs → (D.side side n).take data.length = data.take (n * 256)
  | 0, _ => by simp [Dev.side]
  | n + 1, hn => by
    have ih := side_take h hs hd n (by omega)
    have hag := hd n (by omega)
    unfold Agrees at hag
    rw [Dev.side, List.take_append, ih, side_length h hs n (by omega), h.at_, hag, Nat.add_mul, Nat.one_mul, List.take_add]
set_option maxRecDepth 20000 in
theorem side_data {D : Dev} (h : D.Calm) {side : Nat} (hs : side ≤ 1) {data : List UInt8} (hd : SideHas D side data) (hl : data.length ≤ D.secs * 256) : (D.side side ((data.length + 255) / 256)).take data.length = data := by
  rw [side_take h hs hd _ (by omega), List.take_of_length_le (by omega)]

/-! ### Tallies -/
theorem cut_mid (A X C : List UInt8) (i j : Nat) (hA : A.length = i) (hX : X.length = j - i) : cutB (A ++ (X ++ C)) i j = X := by
  unfold cutB
  rw [← hA, List.drop_left, hA, ← hX, List.take_left]
theorem tallyB_cuts (n side used : Nat) : cutB (tallyB n side used) 0 8 = word8 ∧ cutB (tallyB n side used) 8 16 = be 8 n ∧ cutB (tallyB n side used) 16 24 = be 8 side ∧ cutB (tallyB n side used) 24 32 = be 8 used ∧
    cutB (tallyB n side used) 32 40 = word8 ∧ cutB (tallyB n side used) 16 32 = be 8 side ++ be 8 used ∧ cutB (tallyB n side used) 40 56 = be 8 side ++ be 8 used ∧ cutB (tallyB n side used) 56 64 = be 8 n := by
  obtain ⟨Z, hZ⟩ : ∃ Z, Z = List.replicate 192 (0 : UInt8) := ⟨_, rfl⟩
  have e : tallyB n side used = word8 ++ be 8 n ++ (be 8 side ++ be 8 used) ++ word8 ++ (be 8 side ++ be 8 used) ++ be 8 n ++ Z := by rw [hZ]; rfl
  rw [e]
  have l8 := word8_length
  have ln := be_length 8 n
  have ls := be_length 8 side
  have lu := be_length 8 used
  clear e hZ
  refine ⟨?_, ?_, ?_, ?_, ?_, ?_, ?_, ?_⟩
  · have := cut_mid [] word8 (be 8 n ++ (be 8 side ++ be 8 used) ++ word8 ++ (be 8 side ++ be 8 used) ++ be 8 n ++ Z) 0 8 rfl l8
    simpa [List.append_assoc] using this
  · have := cut_mid word8 (be 8 n) ((be 8 side ++ be 8 used) ++ word8 ++ (be 8 side ++ be 8 used) ++ be 8 n ++ Z) 8 16 l8 ln
    simpa [List.append_assoc] using this
  · have := cut_mid (word8 ++ be 8 n) (be 8 side) (be 8 used ++ word8 ++ (be 8 side ++ be 8 used) ++ be 8 n ++ Z) 16 24 (by rw [List.length_append, l8, ln]) ls
    simpa [List.append_assoc] using this
  · have := cut_mid (word8 ++ be 8 n ++ be 8 side) (be 8 used) (word8 ++ (be 8 side ++ be 8 used) ++ be 8 n ++ Z) 24 32 (by rw [List.length_append, List.length_append, l8, ln, ls]) lu
    simpa [List.append_assoc] using this
  · have := cut_mid (word8 ++ be 8 n ++ (be 8 side ++ be 8 used)) word8 ((be 8 side ++ be 8 used) ++ be 8 n ++ Z) 32 40 (by simp only [List.length_append, l8, ln, ls, lu]) l8
    simpa [List.append_assoc] using this
  · have := cut_mid (word8 ++ be 8 n) (be 8 side ++ be 8 used) (word8 ++ (be 8 side ++ be 8 used) ++ be 8 n ++ Z) 16 32 (by rw [List.length_append, l8, ln]) (by rw [List.length_append, ls, lu])
    simpa [List.append_assoc] using this
  · have := cut_mid (word8 ++ be 8 n ++ (be 8 side ++ be 8 used) ++ word8) (be 8 side ++ be 8 used) (be 8 n ++ Z) 40 56 (by simp only [List.length_append, l8, ln, ls, lu]) (by rw [List.length_append, ls, lu])
    simpa [List.append_assoc] using this
  · have := cut_mid (word8 ++ be 8 n ++ (be 8 side ++ be 8 used) ++ word8 ++ (be 8 side ++ be 8 used)) (be 8 n) Z 56 64 (by simp only [List.length_append, l8, ln, ls, lu]) ln
    simpa [List.append_assoc] using this
theorem num8 (n : Nat) (h : n < 18446744073709551616) : num (be 8 n) = n := by rw [num_be]; exact Nat.mod_eq_of_lt h
theorem tallyOf_tallyB {n side used room : Nat} (h1 : 1 ≤ n) (h2 : n ≤ 4611686018427387904) (hs : side ≤ 1) (hu : used ≤ room) (hr : room ≤ 1000000000) : tallyOf (tallyB n side used) room = (n, side, used) := by
  obtain ⟨c1, c2, c3, c4, c5, c6, c7, c8⟩ := tallyB_cuts n side used
  have en := num8 n (by omega)
  have es := num8 side (by omega)
  have eu := num8 used (by omega)
  unfold tallyOf
  rw [if_pos (by
    unfold rightB
    rw [c1, c2, c3, c4, c5, c6, c7, c8, en, es, eu]
    exact ⟨rfl, rfl, rfl, rfl, h1, h2, hs, hu⟩), c2, c3, c4, en, es, eu]
theorem tallyOf_zsec (room : Nat) : tallyOf zsec room = (0, 0, 0) := by
  unfold tallyOf
  rw [if_neg]
  rintro ⟨h, _⟩
  revert h
  decide +kernel

/-! ### Writes on a calm device -/
theorem settle_set (l : List (Nat × List UInt8)) : ∀ (s : List (List UInt8)) (j : Nat), (∀ p ∈ l, p.1 ≠ j) → (Dev.settle l s).getD j [] = s.getD j [] := by
  induction l with
  | nil => intro s j _; rfl
  | cons p l ih =>
    intro s j h
    have hp := h p (by simp)
    rw [Dev.settle, ih _ j (fun q hq => h q (by simp [hq])), List.getD_eq_getElem?_getD, List.getElem?_set_ne hp, ← List.getD_eq_getElem?_getD]
/-- The writes of the sectors from the i-th on. -/
def chunksW (side secs : Nat) (all : List UInt8) (i n : Nat) : List (Nat × List UInt8) := (List.range' i n).map fun k => (2 + side * secs + k, chunk all k)
theorem chunksW_succ (side secs : Nat) (all : List UInt8) (i n : Nat) : chunksW side secs all i (n + 1) = (2 + side * secs + i, chunk all i) :: chunksW side secs all (i + 1) n := by
  simp [chunksW, List.range'_succ]
theorem chunksW_mem {side secs i n : Nat} {all : List UInt8} {p : Nat × List UInt8} (h : p ∈ chunksW side secs all i n) : ∃ k, i ≤ k ∧ k < i + n ∧ p = (2 + side * secs + k, chunk all k) := by
  simp only [chunksW, List.mem_map, List.mem_range'] at h
  obtain ⟨k, ⟨q, hq, rfl⟩, rfl⟩ := h
  exact ⟨i + 1 * q, by omega, by omega, rfl⟩
theorem settle_chunks (side secs : Nat) (all : List UInt8) : ∀ (n i : Nat) (s : List (List UInt8)) (k : Nat), i ≤ k → k < i + n → 2 + side * secs + i + n ≤ s.length → (Dev.settle (chunksW side secs all i n) s).getD (2 + side * secs + k) [] = chunk all k
  | 0, i, s, k, h1, h2, _ => by omega
  | n + 1, i, s, k, h1, h2, hl => by
    rw [chunksW_succ, Dev.settle]
    by_cases hk : k = i
    · subst hk
      rw [settle_set _ _ _ (fun p hp => by
        obtain ⟨q, hq, _, rfl⟩ := chunksW_mem hp
        simp only
        omega), List.getD_eq_getElem?_getD, List.getElem?_set_self (by omega)]
      rfl
    · exact settle_chunks side secs all n (i + 1) _ k (by omega) (by omega) (by rw [List.length_set]; omega)
set_option maxRecDepth 20000 in
theorem layW_calm (side : Nat) (all : List UInt8) (hs : side ≤ 1) : ∀ (fuel i N : Nat) (D : Dev), N = (all.length + 255) / 256 → N < i + fuel ∨ N ≤ i → all.length ≤ D.secs * 256 → D.left < 0 → D.off = false → 6 ≤ D.sure.length →
    layW side all fuel i D = ({ D with loose := D.loose ++ chunksW side D.secs all i (N - i), changes := D.changes + (N - i : Nat) }, 0)
  | 0, i, N, D, hN, hf, _, _, _, _ => by
    have h0 : N - i = 0 := by omega
    rw [layW, h0]
    simp [chunksW]
  | fuel + 1, i, N, D, hN, hf, hl, hlt, ho, h6 => by
    rw [layW]
    by_cases hi : i * 256 < all.length
    · obtain ⟨m, hm⟩ : ∃ m, N - i = m + 1 := ⟨N - i - 1, by omega⟩
      have h2 := Dev.secs_two h6
      have h4 : side * D.secs ≤ 1 * D.secs := Nat.mul_le_mul_right _ hs
      rw [if_pos hi, Dev.write_calm hlt ho (by omega) (by omega) (chunk_length all i)]
      simp only [if_true, Int.toNat_natCast]
      rw [layW_calm side all hs fuel (i + 1) N { D with loose := D.loose ++ [(2 + side * D.secs + i, chunk all i)], changes := D.changes + 1 } hN (by omega) hl hlt ho h6]
      have hm2 : N - (i + 1) = m := by omega
      rw [hm, hm2, chunksW_succ]
      simp only [List.append_assoc, List.cons_append, List.nil_append, Prod.mk.injEq, Dev.mk.injEq, and_true, true_and]
      refine ⟨rfl, ?_⟩
      omega
    · have h0 : N - i = 0 := by omega
      rw [if_neg hi, h0]
      simp [chunksW]
theorem tell_calm (J : Jr) {D : Dev} (hl : D.left < 0) (ho : D.off = false) (hlo : D.loose = []) (h6 : 6 ≤ D.sure.length) (n side used : Nat) :
    J.tell D n side used = ({ J with number := n, side := side, used := used }, { D with sure := D.sure.set (n % 2) (tallyB n side used), loose := [], changes := D.changes + 2 }, 0) := by
  have hm : n % 2 < 2 := Nat.mod_lt _ (by omega)
  unfold Jr.tell
  rw [Dev.write_calm hl ho (by omega) (by omega) (tallyB_length n side used)]
  simp only [if_true, hlo, List.nil_append, Int.toNat_natCast]
  rw [Dev.barrier_calm (by exact hl) (by exact ho)]
  simp only [if_true, Dev.settle, Prod.mk.injEq, Dev.mk.injEq, and_true, true_and]
  omega
end Go.Proofs.Yteggldplmbegfaa
