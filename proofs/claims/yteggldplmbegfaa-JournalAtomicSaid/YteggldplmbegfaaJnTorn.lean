/- THE JOURNAL AT A CUT, plain: wherever the power is cut in a lay, and whatever stays, what is held is what was, or what was to be. No Go here. -/
import Derived.Test.YteggldplmbegfaaJnHolds
set_option linter.unusedVariables false
set_option linter.unusedSimpArgs false
namespace Go.Proofs.Yteggldplmbegfaa

/-! ### Writes that may be torn keep what a journal holds -/
theorem mix_get {a b : List UInt8} {n i : Nat} (hl : a.length = b.length) : (a.take n ++ b.drop n)[i]? = if i < n then a[i]? else b[i]? := by
  by_cases hn : n ≤ a.length
  · by_cases hi : i < n
    · rw [if_pos hi, List.getElem?_append_left (by rw [List.length_take]; omega), List.getElem?_take, if_pos hi]
    · rw [if_neg hi, List.getElem?_append_right (by rw [List.length_take]; omega), List.getElem?_drop, List.length_take, Nat.min_eq_left hn]
      congr 1
      omega
  · rw [List.take_of_length_le (by omega), List.drop_eq_nil_of_le (by omega), List.append_nil]
    by_cases hi : i < n
    · rw [if_pos hi]
    · rw [if_neg hi, List.getElem?_eq_none (by omega), List.getElem?_eq_none (by omega)]
structure Keeps (D : Dev) (J : Jr) (s : List (List UInt8)) : Prop where
  len : s.length = D.sure.length
  full : ∀ x ∈ s, x.length = 256
  t0 : s.getD 0 [] = D.sec 0
  t1 : s.getD 1 [] = D.sec 1
  has : ∀ k, k < D.secs → Agrees (s.getD (2 + J.side * D.secs + k) []) J.data k
theorem Holds.keeps {J : Jr} {D : Dev} {rs : List (List UInt8)} (h : Holds J D rs) : Keeps D J D.sure :=
  ⟨rfl, h.calm.ok.wf.full, rfl, rfl, h.has⟩
theorem getD_len {s : List (List UInt8)} (h : ∀ x ∈ s, x.length = 256) {j : Nat} (hj : j < s.length) : (s.getD j []).length = 256 := by
  rw [List.getD_eq_getElem?_getD, List.getElem?_eq_getElem hj]
  exact h _ (List.getElem_mem hj)
theorem lay_other {s : List (List UInt8)} {p : Nat × List UInt8} {n j : Nat} (h : p.1 ≠ j) : (Dev.lay s p n).getD j [] = s.getD j [] := by
  unfold Dev.lay
  rw [List.getD_eq_getElem?_getD, List.getElem?_set_ne h, ← List.getD_eq_getElem?_getD]
theorem lay_self {s : List (List UInt8)} {p : Nat × List UInt8} {n : Nat} (h : p.1 < s.length) : (Dev.lay s p n).getD p.1 [] = p.2.take n ++ (s.getD p.1 []).drop n := by
  unfold Dev.lay
  rw [List.getD_eq_getElem?_getD, List.getElem?_set_self h]
  rfl
/-- A sector's write of a side, whatever of it stays. -/
theorem Keeps.lay {D : Dev} {J : Jr} {s : List (List UInt8)} (h : Keeps D J s) (h6 : 6 ≤ D.sure.length) {side : Nat} (hs : side ≤ 1) (hJ : J.side ≤ 1) {all : List UInt8} (hall : side = J.side → ∀ k, Agrees (chunk all k) J.data k) {k : Nat} (hk : k < D.secs) {n : Nat} (hn : n ≤ 256) :
    Keeps D J (Dev.lay s (2 + side * D.secs + k, chunk all k) n) := by
  have h2 := Dev.secs_two h6
  have h4 : side * D.secs ≤ 1 * D.secs := Nat.mul_le_mul_right _ hs
  have hlen := h.len
  have hw := Dev.lay_wf (p := (2 + side * D.secs + k, chunk all k)) hn h.full ⟨by simp only; omega, chunk_length _ _⟩
  refine ⟨hw.1.trans h.len, hw.2, ?_, ?_, fun q hq => ?_⟩
  · rw [lay_other (by simp only; omega)]; exact h.t0
  · rw [lay_other (by simp only; omega)]; exact h.t1
  · by_cases he : 2 + side * D.secs + k = 2 + J.side * D.secs + q
    · have hss : side = J.side ∧ k = q := by
        have hm : side = 0 ∨ side = 1 := by omega
        have hm2 : J.side = 0 ∨ J.side = 1 := by omega
        rcases hm with hm | hm <;> rcases hm2 with hm2 | hm2 <;> rw [hm, hm2] at he ⊢ <;> simp only [Nat.zero_mul, Nat.one_mul] at he <;> constructor <;> omega
      obtain ⟨e1, rfl⟩ := hss
      have := lay_self (s := s) (p := (2 + side * D.secs + k, chunk all k)) (n := n) (by simp only; omega)
      simp only at this
      rw [← he, this]
      have h5 := h.has k hq
      rw [← he] at h5
      exact agrees_torn (hall e1 k) h5 (by rw [chunk_length, getD_len h.full (by omega)]) n
    · rw [lay_other he]
      exact h.has q hq
theorem Keeps.cutFrom {D : Dev} {J : Jr} (h6 : 6 ≤ D.sure.length) {side : Nat} (hs : side ≤ 1) (hJ : J.side ≤ 1) {all : List UInt8} (hall : side = J.side → ∀ k, Agrees (chunk all k) J.data k) (kept : List Int) (torn half : Int) :
    ∀ (l : List (Nat × List UInt8)) (q : Nat) (s : List (List UInt8)), (∀ p ∈ l, ∃ k, k < D.secs ∧ p = (2 + side * D.secs + k, chunk all k)) → Keeps D J s → Keeps D J (Dev.cutFrom kept torn half q l s)
  | [], _, _, _, h => h
  | p :: l, q, s, hl, h => by
    obtain ⟨k, hk, rfl⟩ := hl p (by simp)
    exact Keeps.cutFrom h6 hs hJ hall kept torn half l (q + 1) _ (fun p hp => hl p (by simp [hp])) (h.lay h6 hs hJ hall hk (Dev.tear_le _ _ _ _))
theorem Keeps.settle {D : Dev} {J : Jr} (h6 : 6 ≤ D.sure.length) {side : Nat} (hs : side ≤ 1) (hJ : J.side ≤ 1) {all : List UInt8} (hall : side = J.side → ∀ k, Agrees (chunk all k) J.data k) :
    ∀ (l : List (Nat × List UInt8)) (s : List (List UInt8)), (∀ p ∈ l, ∃ k, k < D.secs ∧ p = (2 + side * D.secs + k, chunk all k)) → Keeps D J s → Keeps D J (Dev.settle l s)
  | [], _, _, h => h
  | p :: l, s, hl, h => by
    obtain ⟨k, hk, rfl⟩ := hl p (by simp)
    have h2 := Dev.secs_two h6
    have h4 : side * D.secs ≤ 1 * D.secs := Nat.mul_le_mul_right _ hs
    have h5 := h.lay h6 hs hJ hall hk (Nat.le_refl 256)
    have e : Dev.lay s (2 + side * D.secs + k, chunk all k) 256 = s.set (2 + side * D.secs + k) (chunk all k) := by
      unfold Dev.lay
      simp only
      rw [List.take_of_length_le (by rw [chunk_length]; exact Nat.le_refl _), List.drop_eq_nil_of_le (by rw [getD_len h.full (by have := h.len; omega)]; exact Nat.le_refl _), List.append_nil]
    rw [e] at h5
    exact Keeps.settle h6 hs hJ hall l _ (fun p hp => hl p (by simp [hp])) h5
theorem Keeps.holds {J : Jr} {D D' : Dev} {rs : List (List UInt8)} (h : Holds J D rs) (hk : Keeps D J D'.sure) (hc : D'.Calm) : Holds J D' rs := by
  have hsec : D'.secs = D.secs := by unfold Dev.secs; rw [hk.len]
  have ht : ∀ j, j ≤ 1 → D'.sec j = D.sec j := fun j hj => by
    have : j = 0 ∨ j = 1 := by omega
    rcases this with rfl | rfl
    · exact hk.t0
    · exact hk.t1
  refine ⟨hc, h.broken, h.n1, h.n2, h.side, h.used, h.data, by rw [hsec]; exact h.fit, h.count, h.short, ?_, ?_, ?_⟩
  · rw [ht _ (by omega)]; exact h.tally
  · rw [ht _ (by omega), hsec]; exact h.other
  · intro k hk2
    rw [hsec] at hk2 ⊢
    exact hk.has k hk2

/-! ### A torn tally -/
theorem num_inj : ∀ {a b : List UInt8}, a.length = b.length → num a = num b → a = b
  | [], [], _, _ => rfl
  | [], _ :: _, h, _ => by simp at h
  | _ :: _, [], h, _ => by simp at h
  | x :: a, y :: b, hl, h => by
    simp only [List.length_cons, Nat.add_right_cancel_iff] at hl
    rw [num_cons, num_cons, hl] at h
    have h1 := num_lt a
    have h2 := num_lt b
    rw [hl] at h1
    have hp : 0 < 256 ^ b.length := Nat.pow_pos (by omega)
    have hxy : x.toNat = y.toNat := by
      have e1 : (x.toNat * 256 ^ b.length + num a) / 256 ^ b.length = x.toNat := by
        rw [Nat.mul_comm, Nat.mul_add_div hp, Nat.div_eq_of_lt h1, Nat.add_zero]
      have e2 : (y.toNat * 256 ^ b.length + num b) / 256 ^ b.length = y.toNat := by
        rw [Nat.mul_comm, Nat.mul_add_div hp, Nat.div_eq_of_lt h2, Nat.add_zero]
      rw [← e1, ← e2, h]
    have hab : num a = num b := by rw [hxy] at h; omega
    rw [UInt8.toNat_inj.1 hxy, num_inj hl hab]
theorem cut_get (b : List UInt8) (i j q : Nat) (hq : q < j - i) : (cutB b i j)[q]? = b[i + q]? := by
  unfold cutB
  rw [List.getElem?_take, if_pos hq, List.getElem?_drop]
theorem cut_eq_of {a b : List UInt8} {i j : Nat} (h : ∀ q, i ≤ q → q < j → a[q]? = b[q]?) : cutB a i j = cutB b i j := by
  refine List.ext_getElem? fun q => ?_
  by_cases hq : q < j - i
  · rw [cut_get _ _ _ _ hq, cut_get _ _ _ _ hq]
    exact h _ (by omega) (by omega)
  · rw [List.getElem?_eq_none (by unfold cutB; rw [List.length_take]; omega), List.getElem?_eq_none (by unfold cutB; rw [List.length_take]; omega)]
/-- What lies at the place of a tally that is about to be told: nothing, or an older one. -/
def Older (s : List UInt8) (n : Nat) : Prop := s = zsec ∨ ∃ n0 s0 u0, s = tallyB n0 s0 u0 ∧ n0 < n
theorem Older.len {s : List UInt8} {n : Nat} (h : Older s n) : s.length = 256 := by
  rcases h with rfl | ⟨n0, s0, u0, rfl, _⟩
  · exact zsec_length
  · exact tallyB_length _ _ _
theorem tallyB_tail (n side used q : Nat) (hq : 64 ≤ q) : (tallyB n side used)[q]? = if q < 256 then some 0 else none := by
  have e : tallyB n side used = (word8 ++ be 8 n ++ (be 8 side ++ be 8 used) ++ word8 ++ (be 8 side ++ be 8 used) ++ be 8 n) ++ List.replicate 192 (0 : UInt8) := rfl
  have hl : (word8 ++ be 8 n ++ (be 8 side ++ be 8 used) ++ word8 ++ (be 8 side ++ be 8 used) ++ be 8 n).length = 64 := by simp only [List.length_append, be_length, word8_length]
  rw [e, List.getElem?_append_right (by rw [hl]; exact hq), hl, List.getElem?_replicate]
  by_cases h : q < 256
  · rw [if_pos (by omega), if_pos h]
  · rw [if_neg (by omega), if_neg h]
theorem Older.tail {s : List UInt8} {n : Nat} (h : Older s n) (q : Nat) (hq : 64 ≤ q) : s[q]? = if q < 256 then some 0 else none := by
  rcases h with rfl | ⟨n0, s0, u0, rfl, _⟩
  · unfold zsec
    rw [List.getElem?_replicate]
  · exact tallyB_tail _ _ _ q hq
theorem Older.num_lt {s : List UInt8} {n : Nat} (h : Older s n) (h1 : 1 ≤ n) (hn : n ≤ 4611686018427387904) : num (cutB s 56 64) < n := by
  rcases h with rfl | ⟨n0, s0, u0, rfl, h0⟩
  · have : num (cutB zsec 56 64) = 0 := by decide +kernel
    omega
  · obtain ⟨_, _, _, _, _, _, _, c8⟩ := tallyB_cuts n0 s0 u0
    rw [c8, num8 n0 (by omega)]
    exact h0
/-- A tally, torn: it is whole, or it doesn't count. -/
theorem tally_torn {old : List UInt8} {n side used room t : Nat} (ho : Older old n) (h1 : 1 ≤ n) (hn : n < 4611686018427387904) :
    (tallyB (n + 1) side used).take t ++ old.drop t = tallyB (n + 1) side used ∨ (tallyOf ((tallyB (n + 1) side used).take t ++ old.drop t) room).1 < n := by
  obtain ⟨new, hnew⟩ : ∃ new, new = tallyB (n + 1) side used := ⟨_, rfl⟩
  obtain ⟨m, hm⟩ : ∃ m, m = new.take t ++ old.drop t := ⟨_, rfl⟩
  have hnl : new.length = 256 := by rw [hnew]; exact tallyB_length _ _ _
  have hget : ∀ q, m[q]? = if q < t then new[q]? else old[q]? := fun q => by rw [hm]; exact mix_get (hnl.trans ho.len.symm)
  rw [← hnew, ← hm]
  by_cases hr : rightB m room
  · have h2 : tallyOf m room = (num (cutB m 8 16), num (cutB m 16 24), num (cutB m 24 32)) := by unfold tallyOf; rw [if_pos hr]
    have he := hr.2.2.2.1
    by_cases ht : t ≤ 56
    · right
      have e : cutB m 56 64 = cutB old 56 64 := cut_eq_of fun q hq1 hq2 => by rw [hget, if_neg (by omega)]
      rw [h2, ← he, e]
      exact ho.num_lt h1 (by omega)
    · left
      obtain ⟨_, c2, _, _, _, _, _, c8⟩ := tallyB_cuts (n + 1) side used
      rw [← hnew] at c2 c8
      have e : cutB m 8 16 = cutB new 8 16 := cut_eq_of fun q hq1 hq2 => by rw [hget, if_pos (by omega)]
      have hlm : m.length = 256 := by rw [hm, List.length_append, List.length_take, List.length_drop, hnl, ho.len]; omega
      have e2 : cutB m 56 64 = cutB new 56 64 := by
        refine num_inj ?_ ?_
        · unfold cutB
          rw [List.length_take, List.length_take, List.length_drop, List.length_drop, hlm, hnl]
        · rw [he, e, c2, c8]
      refine List.ext_getElem? fun q => ?_
      by_cases h56 : q < 56
      · rw [hget, if_pos (by omega)]
      · by_cases h64 : q < 64
        · have := congrArg (fun l : List UInt8 => l[q - 56]?) e2
          rw [cut_get _ _ _ _ (by omega), cut_get _ _ _ _ (by omega), show 56 + (q - 56) = q by omega] at this
          exact this
        · rw [hget]
          split
          · rfl
          · rw [ho.tail q (by omega), hnew, tallyB_tail _ _ _ q (by omega)]
  · right
    have h2 : tallyOf m room = (0, 0, 0) := by unfold tallyOf; rw [if_neg hr]
    rw [h2]
    exact h1

/-! ### A planned cut, met -/
theorem Dev.write_cut {D : Dev} (h : D.left = 0) (ho : D.off = false) {i : Int} (h0 : 0 ≤ i) (h1 : i < D.sure.length) {b : List UInt8} (hb : b.length = 256) :
    D.write i b = (({ D with loose := D.loose ++ [(i.toNat, b)], changes := D.changes + 1, left := -1 } : Dev).cut D.kept D.torn D.half, 6) := by
  unfold Dev.write Dev.may
  rw [if_neg (by rw [ho, if_neg (by simp), if_neg (by omega)]; simp), if_neg (by simpa using hb)]
  unfold Dev.change
  simp only [h]
  rfl
theorem Dev.write_left {D : Dev} {L : Nat} (h : D.left = ((L + 1 : Nat) : Int)) (ho : D.off = false) {i : Int} (h0 : 0 ≤ i) (h1 : i < D.sure.length) {b : List UInt8} (hb : b.length = 256) :
    D.write i b = ({ D with loose := D.loose ++ [(i.toNat, b)], changes := D.changes + 1, left := (L : Int) }, 0) := by
  unfold Dev.write Dev.may
  rw [if_neg (by rw [ho, if_neg (by simp), if_neg (by omega)]; simp), if_neg (by simpa using hb)]
  unfold Dev.change
  simp only [h]
  rw [if_neg (by omega), if_neg (by omega)]
  simp only [Prod.mk.injEq, Dev.mk.injEq, and_true, true_and]
  omega
theorem Dev.barrier_cut {D : Dev} (h : D.left = 0) (ho : D.off = false) : D.barrier = (({ D with changes := D.changes + 1, left := -1 } : Dev).cut D.kept D.torn D.half, 6) := by
  have e : D.change = (({ D with changes := D.changes + 1, left := -1 } : Dev).cut D.kept D.torn D.half, 6) := by
    unfold Dev.change
    rw [if_neg (by omega), if_pos h]
  unfold Dev.barrier
  rw [if_neg (by simp [ho]), e, if_neg (by simp)]
theorem Dev.barrier_left {D : Dev} {L : Nat} (h : D.left = ((L + 1 : Nat) : Int)) (ho : D.off = false) : D.barrier = ({ D with sure := Dev.settle D.loose D.sure, loose := [], changes := D.changes + 1, left := (L : Int) }, 0) := by
  have e : D.change = ({ D with changes := D.changes + 1, left := (L : Int) }, 0) := by
    unfold Dev.change
    rw [if_neg (by omega), if_neg (by omega)]
    simp only [Prod.mk.injEq, Dev.mk.injEq, and_true, true_and]
    omega
  unfold Dev.barrier
  rw [if_neg (by simp [ho]), e, if_pos (by rfl)]
set_option maxRecDepth 20000 in
theorem layW_plan (side : Nat) (all : List UInt8) (hs : side ≤ 1) : ∀ (fuel i N : Nat) (D : Dev) (L : Nat), N = (all.length + 255) / 256 → N < i + fuel ∨ N ≤ i → all.length ≤ D.secs * 256 → D.left = (L : Int) → D.off = false → 6 ≤ D.sure.length →
    (N - i ≤ L ∧ layW side all fuel i D = ({ D with loose := D.loose ++ chunksW side D.secs all i (N - i), changes := D.changes + (N - i : Nat), left := ((L - (N - i) : Nat) : Int) }, 0)) ∨
    (L < N - i ∧ layW side all fuel i D = (({ D with loose := D.loose ++ chunksW side D.secs all i (L + 1), changes := D.changes + (L + 1 : Nat), left := -1 } : Dev).cut D.kept D.torn D.half, 6))
  | 0, i, N, D, L, hN, hf, _, hL, _, _ => by
    have h0 : N - i = 0 := by omega
    left
    rw [layW, h0]
    refine ⟨Nat.zero_le _, ?_⟩
    simp [chunksW, ← hL]
  | fuel + 1, i, N, D, L, hN, hf, hl, hL, ho, h6 => by
    rw [layW]
    by_cases hi : i * 256 < all.length
    · obtain ⟨m, hm⟩ : ∃ m, N - i = m + 1 := ⟨N - i - 1, by omega⟩
      have h2 := Dev.secs_two h6
      have h4 : side * D.secs ≤ 1 * D.secs := Nat.mul_le_mul_right _ hs
      rw [if_pos hi]
      cases L with
      | zero =>
        right
        refine ⟨by omega, ?_⟩
        rw [Dev.write_cut (by simpa using hL) ho (by omega) (by omega) (chunk_length all i)]
        simp only [Int.toNat_natCast]
        rw [if_neg (by simp)]
        simp [chunksW]
      | succ L =>
        rw [Dev.write_left hL ho (by omega) (by omega) (chunk_length all i)]
        simp only [if_true, Int.toNat_natCast]
        have hm2 : N - (i + 1) = m := by omega
        rcases layW_plan side all hs fuel (i + 1) N { D with loose := D.loose ++ [(2 + side * D.secs + i, chunk all i)], changes := D.changes + 1, left := (L : Int) } L hN (by omega) hl rfl ho h6 with ⟨h3, e⟩ | ⟨h3, e⟩
        · left
          refine ⟨by omega, ?_⟩
          rw [e, hm, hm2, chunksW_succ]
          have hsx : ({ D with loose := D.loose ++ [(2 + side * D.secs + i, chunk all i)], changes := D.changes + 1, left := (L : Int) } : Dev).secs = D.secs := rfl
          simp only [hsx, List.append_assoc, List.cons_append, List.nil_append, Prod.mk.injEq, Dev.mk.injEq, and_true, true_and]
          refine ⟨?_, ?_⟩ <;> omega
        · right
          refine ⟨by omega, ?_⟩
          rw [e, chunksW_succ side D.secs all i (L + 1)]
          have hsx : ({ D with loose := D.loose ++ [(2 + side * D.secs + i, chunk all i)], changes := D.changes + 1, left := (L : Int) } : Dev).secs = D.secs := rfl
          have hcc : D.changes + 1 + ((L + 1 : Nat) : Int) = D.changes + ((L + 1 + 1 : Nat) : Int) := by omega
          simp only [hsx, List.append_assoc, List.cons_append, List.nil_append, hcc]
    · have h0 : N - i = 0 := by omega
      left
      rw [if_neg hi, h0]
      refine ⟨Nat.zero_le _, ?_⟩
      simp [chunksW, ← hL]

/-- The device that a cut leaves, on again. -/
def Dev.back (D : Dev) (kept : List Int) (torn half : Int) : Dev := { D.cut kept torn half with off := false }
/-- What a lay leaves on a device that a cut is planned for, whether it was met or not. -/
structure Left (D : Dev) (kp : List Int) (tr hf : Int) (F : Dev) : Prop where
  loose : F.loose = []
  left : F.left = -1
  off : F.off = false
  kept : F.kept = kp
  torn : F.torn = tr
  half : F.half = hf
  lo : D.changes ≤ F.changes
  hi : F.changes ≤ D.changes + D.secs + 3
theorem cut_cut (D : Dev) (ho : D.off = false) (k k2 : List Int) (t t2 h h2 : Int) : (D.cut k t h).cut k2 t2 h2 = D.cut k t h := by
  have e : (D.cut k t h).off = true := by unfold Dev.cut; rw [if_neg (by simp [ho])]
  obtain ⟨E, hE⟩ : ∃ E, E = D.cut k t h := ⟨_, rfl⟩
  rw [← hE] at e ⊢
  unfold Dev.cut
  rw [if_pos e]
theorem back_cut (D : Dev) (ho : D.off = false) (k k2 : List Int) (t t2 h h2 : Int) : (D.cut k t h).back k2 t2 h2 = { D with sure := Dev.cutFrom k t h 0 D.loose D.sure, loose := [], left := -1, off := false } := by
  unfold Dev.back
  rw [cut_cut D ho]
  unfold Dev.cut
  rw [if_neg (by simp [ho])]
theorem back_on (D : Dev) (ho : D.off = false) (k : List Int) (t h : Int) : D.back k t h = { D with sure := Dev.cutFrom k t h 0 D.loose D.sure, loose := [], left := -1, off := false } := by
  unfold Dev.back Dev.cut
  rw [if_neg (by simp [ho])]
set_option maxRecDepth 20000 in
theorem lay_cut (J : Jr) {D : Dev} (h : D.Calm) (L : Nat) (kp : List Int) (tr hf : Int) (side there : Nat) (hs : side ≤ 1) (all : List UInt8) (ht : there ≤ all.length) (hn : J.number < 4611686018427387904) (hl : all.length ≤ D.secs * 256) (count : Int) :
    ∃ x, J.lay { D with left := (L : Int), kept := kp, torn := tr, half := hf } side there all count = x ∧ Left D kp tr hf (x.2.1.back kp tr hf) ∧
      ((x.2.2 = 0 ∧ (x.2.1.back kp tr hf).sure = (layD D side there (J.number + 1) all).sure) ∨
       (x.2.2 = 6 ∧ ((∃ p, p ≤ (all.length + 255) / 256 - there / 256 ∧ (x.2.1.back kp tr hf).sure = Dev.cutFrom kp tr hf 0 (chunksW side D.secs all (there / 256) p) D.sure) ∨
        (x.2.1.back kp tr hf).sure = Dev.cutFrom kp tr hf 0 [((J.number + 1) % 2, tallyB (J.number + 1) side all.length)] (Dev.settle (chunksW side D.secs all (there / 256) ((all.length + 255) / 256 - there / 256)) D.sure)))) := by
  obtain ⟨M, hM⟩ : ∃ M, M = (all.length + 255) / 256 - there / 256 := ⟨_, rfl⟩
  have hMs : M ≤ D.secs := by omega
  have h2 := Dev.secs_two h.six
  refine ⟨_, rfl, ?_⟩
  unfold Jr.lay
  rw [if_neg (by
    have hsx : ({ D with left := (L : Int), kept := kp, torn := tr, half := hf } : Dev).secs = D.secs := rfl
    rw [hsx]
    omega)]
  have hsx : ({ D with left := (L : Int), kept := kp, torn := tr, half := hf } : Dev).secs = D.secs := rfl
  rcases layW_plan side all hs (all.length + 1) (there / 256) _ { D with left := (L : Int), kept := kp, torn := tr, half := hf } L rfl (by omega) (by rw [hsx]; exact hl) rfl h.off h.six with ⟨h3, e⟩ | ⟨h3, e⟩
  · rw [e, hsx, ← hM]
    rw [← hM] at h3
    simp only [if_true, h.loose, List.nil_append]
    obtain ⟨L2, hL2⟩ : ∃ L2, L2 = L - M := ⟨_, rfl⟩
    rw [← hL2]
    obtain ⟨E, hE⟩ : ∃ E : Dev, E = { D with loose := chunksW side D.secs all (there / 256) M, changes := D.changes + (M : Int), left := (L2 : Int), kept := kp, torn := tr, half := hf } := ⟨_, rfl⟩
    have e1 : E.off = false := by rw [hE]; exact h.off
    have e2 : E.left = (L2 : Int) := by rw [hE]
    have e3 : E.sure = D.sure := by rw [hE]
    have e4 : E.loose = chunksW side D.secs all (there / 256) M := by rw [hE]
    have e5 : E.changes = D.changes + (M : Int) := by rw [hE]
    have e6 : E.kept = kp ∧ E.torn = tr ∧ E.half = hf := by rw [hE]; exact ⟨rfl, rfl, rfl⟩
    rw [← hE]
    clear hE e
    cases L2 with
    | zero =>
      rw [Dev.barrier_cut e2 e1, if_neg (by simp)]
      simp only
      rw [back_cut _ (by exact e1)]
      refine ⟨⟨rfl, rfl, rfl, e6.1, e6.2.1, e6.2.2, by simp only; omega, by simp only; omega⟩, .inr ⟨by first | rfl | trivial, .inl ⟨M, Nat.le_refl _, ?_⟩⟩⟩
      simp only [e3, e4, e6]
    | succ L2 =>
      rw [Dev.barrier_left e2 e1]
      simp only [if_true]
      unfold Jr.tell
      have hm2 : (J.number + 1) % 2 < 2 := Nat.mod_lt _ (by omega)
      obtain ⟨G, hG⟩ : ∃ G : Dev, G = { E with sure := Dev.settle E.loose E.sure, loose := [], changes := E.changes + 1, left := (L2 : Int) } := ⟨_, rfl⟩
      have g1 : G.off = false := by rw [hG]; exact e1
      have g2 : G.left = (L2 : Int) := by rw [hG]
      have g3 : G.sure = Dev.settle (chunksW side D.secs all (there / 256) M) D.sure := by rw [hG, e3, e4]
      have g4 : G.loose = [] := by rw [hG]
      have g5 : G.changes = D.changes + (M : Int) + 1 := by rw [hG]; simp only; rw [e5]
      have g6 : G.kept = kp ∧ G.torn = tr ∧ G.half = hf := by rw [hG]; exact e6
      have g7 : G.sure.length = D.sure.length := by rw [g3]; exact Dev.settle_length _ _
      rw [← hG]
      clear hG e1 e2 e3 e4 e5 e6
      cases L2 with
      | zero =>
        rw [Dev.write_cut g2 g1 (by omega) (by omega) (tallyB_length _ _ _)]
        simp only [g4, List.nil_append, Int.toNat_natCast]
        rw [if_neg (by simp), if_neg (by simp)]
        simp only
        rw [back_cut _ (by exact g1)]
        refine ⟨⟨rfl, rfl, rfl, g6.1, g6.2.1, g6.2.2, by simp only; omega, by simp only; omega⟩, .inr ⟨by first | rfl | trivial, .inr ?_⟩⟩
        simp only [g3, g6]
      | succ L3 =>
        rw [Dev.write_left g2 g1 (by omega) (by omega) (tallyB_length _ _ _)]
        simp only [g4, List.nil_append, Int.toNat_natCast, if_true]
        obtain ⟨K, hK⟩ : ∃ K : Dev, K = { G with loose := [((J.number + 1) % 2, tallyB (J.number + 1) side all.length)], changes := G.changes + 1, left := (L3 : Int) } := ⟨_, rfl⟩
        have k1 : K.off = false := by rw [hK]; exact g1
        have k2 : K.left = (L3 : Int) := by rw [hK]
        have k3 : K.sure = Dev.settle (chunksW side D.secs all (there / 256) M) D.sure := by rw [hK, g3]
        have k4 : K.loose = [((J.number + 1) % 2, tallyB (J.number + 1) side all.length)] := by rw [hK]
        have k5 : K.changes = D.changes + (M : Int) + 1 + 1 := by rw [hK]; simp only; rw [g5]
        have k6 : K.kept = kp ∧ K.torn = tr ∧ K.half = hf := by rw [hK]; exact g6
        rw [← hK]
        clear hK g1 g2 g3 g4 g5 g6 g7
        cases L3 with
        | zero =>
          rw [Dev.barrier_cut k2 k1]
          simp only
          rw [if_neg (by simp), if_neg (by simp)]
          simp only
          rw [back_cut _ (by exact k1)]
          refine ⟨⟨rfl, rfl, rfl, k6.1, k6.2.1, k6.2.2, by simp only; omega, by simp only; omega⟩, .inr ⟨by first | rfl | trivial, .inr ?_⟩⟩
          simp only [k3, k4, k6]
        | succ L4 =>
          rw [Dev.barrier_left k2 k1]
          simp only [if_true]
          rw [back_on _ (by exact k1)]
          refine ⟨⟨rfl, rfl, rfl, k6.1, k6.2.1, k6.2.2, by simp only; omega, by simp only; omega⟩, .inl ⟨by first | rfl | trivial, ?_⟩⟩
          simp only [Dev.cutFrom, k3, k4, Dev.settle, layD, ← hM]
  · rw [e, hsx]
    rw [← hM] at h3
    rw [if_neg (by simp)]
    simp only [h.loose, List.nil_append]
    obtain ⟨E, hE⟩ : ∃ E : Dev, E = { D with loose := chunksW side D.secs all (there / 256) (L + 1), changes := D.changes + ((L + 1 : Nat) : Int), left := (-1 : Int), kept := kp, torn := tr, half := hf } := ⟨_, rfl⟩
    have e1 : E.off = false := by rw [hE]; exact h.off
    have e3 : E.sure = D.sure := by rw [hE]
    have e4 : E.loose = chunksW side D.secs all (there / 256) (L + 1) := by rw [hE]
    have e5 : E.changes = D.changes + ((L + 1 : Nat) : Int) := by rw [hE]
    have e6 : E.kept = kp ∧ E.torn = tr ∧ E.half = hf := by rw [hE]; exact ⟨rfl, rfl, rfl⟩
    rw [← hE]
    clear hE e
    rw [back_cut _ (by exact e1)]
    refine ⟨⟨rfl, rfl, rfl, e6.1, e6.2.1, e6.2.2, by simp only; omega, by simp only; omega⟩, .inr ⟨by first | rfl | trivial, .inl ⟨L + 1, by omega, ?_⟩⟩⟩
    simp only [e3, e4]

theorem Holds.same {J : Jr} {D D' : Dev} {rs : List (List UInt8)} (h : Holds J D rs) (hs : D'.sure = D.sure) (hc : D'.Calm) : Holds J D' rs := by
  have hsec : D'.secs = D.secs := by unfold Dev.secs; rw [hs]
  have ht : ∀ j, D'.sec j = D.sec j := fun j => by unfold Dev.sec; rw [hs]
  exact ⟨hc, h.broken, h.n1, h.n2, h.side, h.used, h.data, by rw [hsec]; exact h.fit, h.count, h.short, by rw [ht]; exact h.tally, by rw [ht, hsec]; exact h.other, fun k hk => by rw [hsec] at hk ⊢; rw [ht]; exact h.has k hk⟩
theorem Left.calm {D F : Dev} {kp : List Int} {tr hf : Int} (h : Left D kp tr hf F) (hc : D.Calm) (hlen : F.sure.length = D.sure.length) (hfull : ∀ x ∈ F.sure, x.length = 256) (hkp : kp.length ≤ 1000000000000)
    (htr : -9223372036854775808 ≤ tr ∧ tr ≤ 9223372036854775807) (hhf : -9223372036854775808 ≤ hf ∧ hf ≤ 9223372036854775807) (hch : D.changes + 2100 ≤ 1000000000) : F.Calm := by
  have h2 := Dev.secs_two hc.six
  have hhi := hc.ok.wf.hi
  have hlo := hc.ok.wf.changes
  have h3 := h.lo
  have h4 := h.hi
  refine ⟨⟨⟨by rw [hlen]; exact hc.ok.wf.lo, by rw [hlen]; exact hhi, hfull, by rw [h.loose]; simp, by rw [h.left]; omega, by rw [h.torn]; exact htr, by rw [h.half]; exact hhf, by rw [h.loose]; simp; omega, by omega⟩, by rw [h.loose]; simp; omega, by rw [h.kept]; exact hkp⟩, by rw [h.left]; omega, h.off, h.loose, by rw [hlen]; exact hc.six⟩
theorem cutFrom_one (kp : List Int) (tr hf : Int) (p : Nat × List UInt8) (s : List (List UInt8)) : Dev.cutFrom kp tr hf 0 [p] s = Dev.lay s p (Dev.tear kp tr hf 0) := rfl
set_option maxRecDepth 20000 in
/-- A lay with a cut planned: what is held then. -/
theorem Holds.torn {J : Jr} {D : Dev} {rs rs' : List (List UInt8)} (h : Holds J D rs) (ho : Older (D.sec (1 - J.number % 2)) J.number) (L : Nat) {kp : List Int} {tr hf : Int} (hkp : kp.length ≤ 1000000000000)
    (htr : -9223372036854775808 ≤ tr ∧ tr ≤ 9223372036854775807) (hhf : -9223372036854775808 ≤ hf ∧ hf ≤ 9223372036854775807) {side there : Nat} {all : List UInt8} (hs : side ≤ 1) (ht : there ≤ all.length) (hall : all = lie rs') (hsh : ∀ r ∈ rs', r.length ≤ 65531)
    (hl : all.length ≤ D.secs * 256) (hn : J.number < 4611686018427387904) (hch : D.changes + 2100 ≤ 1000000000) (hold : ∀ k, (k + 1) * 256 ≤ there → Agrees (D.sec (2 + side * D.secs + k)) all k)
    (hag : side = J.side → ∀ k, Agrees (chunk all k) J.data k) (count : Int) :
    ∃ x, J.lay { D with left := (L : Int), kept := kp, torn := tr, half := hf } side there all count = x ∧ (x.2.1.back kp tr hf).changes ≤ D.changes + D.secs + 3 ∧ ∃ J2 rs2, Holds J2 (x.2.1.back kp tr hf) rs2 ∧ (x.2.2 = 0 ∧ rs2 = rs' ∨ x.2.2 = 6 ∧ (rs2 = rs ∨ rs2 = rs')) := by
  have h2 := Dev.secs_two h.calm.six
  obtain ⟨x, hx, hleft, hcase⟩ := lay_cut J h.calm L kp tr hf side there hs all ht hn hl count
  refine ⟨x, hx, hleft.hi, ?_⟩
  obtain ⟨F, hF⟩ : ∃ F, F = x.2.1.back kp tr hf := ⟨_, rfl⟩
  rw [← hF] at hleft hcase ⊢
  have hlaid := h.laid hs ht hall hsh hl hn hch hold
  have hlc := layD_calm (n := J.number + 1) h.calm hs ht hl hch
  have hnew : F.sure = (layD D side there (J.number + 1) all).sure → ∃ J2, Holds J2 F rs' := fun e =>
    ⟨_, hlaid.same e (hleft.calm h.calm (by rw [e]; exact layD_len _ _ _ _ _) (by rw [e]; exact hlc.ok.wf.full) hkp htr hhf hch)⟩
  have hmem : ∀ p, p ≤ (all.length + 255) / 256 - there / 256 → ∀ q ∈ chunksW side D.secs all (there / 256) p, ∃ k, k < D.secs ∧ q = (2 + side * D.secs + k, chunk all k) := fun p hp q hq => by
    obtain ⟨k, hk1, hk2, rfl⟩ := chunksW_mem hq
    exact ⟨k, by omega, rfl⟩
  rcases hcase with ⟨h0, e⟩ | ⟨h6, ⟨p, hp, e⟩ | e⟩
  · obtain ⟨J2, hJ2⟩ := hnew e
    exact ⟨J2, rs', hJ2, .inl ⟨h0, rfl⟩⟩
  · have hk := Keeps.cutFrom h.calm.six hs h.side hag kp tr hf _ 0 D.sure (hmem p hp) h.keeps
    rw [← e] at hk
    exact ⟨J, rs, hk.holds h (hleft.calm h.calm hk.len hk.full hkp htr hhf hch), .inr ⟨h6, .inl rfl⟩⟩
  · have hk := Keeps.settle h.calm.six hs h.side hag _ D.sure (hmem _ (Nat.le_refl _)) h.keeps
    obtain ⟨base, hb⟩ : ∃ base, base = Dev.settle (chunksW side D.secs all (there / 256) ((all.length + 255) / 256 - there / 256)) D.sure := ⟨_, rfl⟩
    rw [← hb] at hk e
    rw [cutFrom_one] at e
    obtain ⟨t, htt⟩ : ∃ t, t = Dev.tear kp tr hf 0 := ⟨_, rfl⟩
    have ht256 : t ≤ 256 := by rw [htt]; exact Dev.tear_le _ _ _ _
    rw [← htt] at e
    have hm2 : (J.number + 1) % 2 < 2 := Nat.mod_lt _ (by omega)
    have hblen := hk.len
    have hat : base.getD ((J.number + 1) % 2) [] = D.sec (1 - J.number % 2) := by
      have hpar : (J.number + 1) % 2 = 1 - J.number % 2 := by omega
      have h01 : (J.number + 1) % 2 = 0 ∨ (J.number + 1) % 2 = 1 := by omega
      rw [← hpar]
      rcases h01 with e0 | e0 <;> rw [e0]
      · exact hk.t0
      · exact hk.t1
    have hw := Dev.lay_wf (p := ((J.number + 1) % 2, tallyB (J.number + 1) side all.length)) ht256 hk.full ⟨by simp only; omega, tallyB_length _ _ _⟩
    have hFlen : F.sure.length = D.sure.length := by rw [e, hw.1]; exact hk.len
    have hFc : F.Calm := hleft.calm h.calm hFlen (by rw [e]; exact hw.2) hkp htr hhf hch
    have hself := lay_self (s := base) (p := ((J.number + 1) % 2, tallyB (J.number + 1) side all.length)) (n := t) (by simp only; omega)
    simp only at hself
    rw [hat] at hself
    rcases tally_torn (t := t) (side := side) (used := all.length) (room := D.secs * 256) ho h.n1 hn with hw2 | hw2
    · have e2 : F.sure = (layD D side there (J.number + 1) all).sure := by
        rw [e]
        unfold Dev.lay layD
        simp only
        rw [hat, hw2, ← hb]
      obtain ⟨J2, hJ2⟩ := hnew e2
      exact ⟨J2, rs', hJ2, .inr ⟨h6, .inr rfl⟩⟩
    · refine ⟨J, rs, ?_, .inr ⟨h6, .inl rfl⟩⟩
      have hsec : F.secs = D.secs := by unfold Dev.secs; rw [hFlen]
      have hoth : ∀ j, j ≠ (J.number + 1) % 2 → F.sec j = base.getD j [] := fun j hj => by
        unfold Dev.sec
        rw [e, lay_other (fun e => hj e.symm)]
      refine ⟨hFc, h.broken, h.n1, h.n2, h.side, h.used, h.data, by rw [hsec]; exact h.fit, h.count, h.short, ?_, ?_, ?_⟩
      · rw [hoth _ (by omega), ← h.tally]
        have h01 : J.number % 2 = 0 ∨ J.number % 2 = 1 := by omega
        rcases h01 with e0 | e0 <;> rw [e0]
        · exact hk.t0
        · exact hk.t1
      · have hpar : 1 - J.number % 2 = (J.number + 1) % 2 := by omega
        rw [hsec]
        have e3 : F.sec (1 - J.number % 2) = (tallyB (J.number + 1) side all.length).take t ++ (D.sec (1 - J.number % 2)).drop t := by
          rw [hpar]
          unfold Dev.sec
          rw [e, hself, ← hpar]
          rfl
        rw [e3]
        exact hw2
      · intro k hk2
        rw [hsec] at hk2 ⊢
        rw [hoth _ (by omega)]
        exact hk.has k hk2
end Go.Proofs.Yteggldplmbegfaa
