/- THE JOURNAL's LEAVES: what the printed functions compute, in my words. No condition. -/
import Derived.Test.YteggldplmbegfaaKdw
import Derived.Test.YteggldplmbegfaaB2
import Derived.Laws.BitsLemmas
set_option linter.unusedVariables false
set_option linter.unusedSimpArgs false
namespace Go.Proofs.Yteggldplmbegfaa
open Go.RowKit Go.Proofs.YteggldplmbegfaaW.PrintWords Go.Proofs.Yteggldplmbegfaa.PJournalPlays

theorem rd_bi (l : List UInt8) (i : Nat) (h : i < l.length) : rd (bi l) (i : Int) = (l[i].toNat : Int) := by
  simp [rd, bi, List.getD_eq_getElem?_getD, h]
theorem wraps_u64 (n : Int) (h0 : 0 ≤ n) (h1 : n < 2 ^ 64) : IntKind.u64.wrap n = n := by
  have : IntKind.u64.wrap n = n % 18446744073709551616 := by simp [IntKind.wrap, IntKind.bits, IntKind.signed]
  rw [this]
  omega
theorem or_byte (a c : Int) (ha0 : 0 ≤ a) (ha : a < 72057594037927936) (h0 : 0 ≤ c) (h1 : c < 256) : Go.bits .or .u64 (a * 256) c = a * 256 + c := by
  refine bits_join .u64 64 ?_ wraps_u64 8 (a * 256) c ?_ ?_ ?_ ?_ ?_ ?_
  · exact Nat.le_refl 64
  all_goals omega
theorem number_l0 (l : List UInt8) (hl : l.length ≤ 8) : ∀ k i : Nat, i ≤ l.length → l.length < k + i → journal_number.l0 k (num (l.take i) : Nat) (bi l) (l.length : Int) (i : Nat) = some ((num l : Nat) : Int)
  | 0, i, h1, h2 => by omega
  | k + 1, i, h1, h2 => by
    unfold journal_number.l0
    by_cases h : i < l.length
    · have hb := num_lt (l.take i)
      have hlen : (l.take i).length = i := by rw [List.length_take]; omega
      rw [hlen] at hb
      have hp : 256 ^ i ≤ 256 ^ 7 := Nat.pow_le_pow_right (by omega) (by omega)
      have hc := l[i].toNat_lt
      rw [if_pos (by omega), if_pos (by omega), if_pos (by rw [bi_length]; omega), rd_bi l i h]
      rw [wraps_u64 _ (by omega) (by omega), wraps_u64 _ (by omega) (by omega), or_byte _ _ (by omega) (by omega) (by omega) (by omega)]
      have e : ((num (l.take i) : Nat) : Int) * 256 + (l[i].toNat : Int) = ((num (l.take (i + 1)) : Nat) : Int) := by
        rw [List.take_succ_eq_append_getElem h, num_snoc]
        omega
      have e2 : wrap64 ((i : Int) + 1) = ((i + 1 : Nat) : Int) := by unfold wrap64; omega
      rw [e, e2]
      exact number_l0 l hl k (i + 1) (by omega) (by omega)
    · obtain rfl : i = l.length := by omega
      rw [if_neg (by omega), List.take_length]
theorem number_is (l : List UInt8) (hl : l.length ≤ 8) : journal_number.f 9 (bi l) = some ((num l : Nat) : Int) := by
  unfold journal_number.f
  rw [bi_length]
  exact number_l0 l hl 9 0 (by omega) (by omega)
theorem shr_byte (n j : Nat) (hj : j ≤ 7) : (shr .u64 (n : Int) ((8 * j : Nat) : Int)) % 256 = ((n / 256 ^ j % 256 : Nat) : Int) := by
  unfold shr
  rw [show min (((8 * j : Nat) : Int)).toNat IntKind.u64.bits = 8 * j by simp [IntKind.bits]; omega]
  rw [show (2 : Int) ^ (8 * j) = ((256 ^ j : Nat) : Int) by rw [Int.pow_mul]; simp]
  omega
theorem Num_l0 (n : Nat) : ∀ j : Nat, j ≤ 8 → ∀ k : Nat, j < k → codec_Num.l0 k (n : Int) (bi (strip (be (8 - j) (n / 256 ^ j)))) ((8 * j : Nat) - 8 : Int) = some (bi (strip (be 8 n)))
  | 0, _, k + 1, _ => by
    unfold codec_Num.l0
    rw [if_neg (by omega)]
    simp
  | j + 1, hj, k + 1, hk => by
    unfold codec_Num.l0
    have ex : (((8 * (j + 1) : Nat) : Int) - 8) = ((8 * j : Nat) : Int) := by omega
    have hs := shr_byte n j (by omega)
    have ih := Num_l0 n j (by omega) k (by omega)
    have e2 : wrap64 (((8 * j : Nat) : Int) - 8) = ((8 * j : Nat) : Int) - 8 := by unfold wrap64; omega
    have hbe : be (8 - j) (n / 256 ^ j) = be (8 - (j + 1)) (n / 256 ^ (j + 1)) ++ [UInt8.ofNat (n / 256 ^ j % 256)] := by
      rw [show 8 - j = (8 - (j + 1)) + 1 by omega, be, Nat.pow_succ, Nat.div_div_eq_div_mul]
    rw [hbe, strip_snoc] at ih
    obtain ⟨x, hx⟩ : ∃ x, x = strip (be (8 - (j + 1)) (n / 256 ^ (j + 1))) := ⟨_, rfl⟩
    rw [← hx] at ih ⊢
    have hxl : x.length ≤ 8 := by rw [hx]; have := strip_len (be (8 - (j + 1)) (n / 256 ^ (j + 1))); rw [be_length] at this; omega
    obtain ⟨c, hc⟩ : ∃ c, c = n / 256 ^ j % 256 := ⟨_, rfl⟩
    have hc256 : c < 256 := by rw [hc]; exact Nat.mod_lt _ (by omega)
    rw [← hc] at hs ih
    have hu : (UInt8.ofNat c).toNat = c := by rw [UInt8.toNat_ofNat']; omega
    have hz : (UInt8.ofNat c = 0) ↔ c = 0 := by
      constructor
      · intro h
        have := congrArg UInt8.toNat h
        rw [hu] at this
        exact this
      · rintro rfl
        rfl
    have hb : bi (x ++ [UInt8.ofNat c]) = bi x ++ [(c : Int)] := by rw [bi_append]; simp [bi, hu]
    rw [ex, hs, e2, bi_length, if_pos (by omega), if_pos (by omega)]
    by_cases h0 : c = 0
    · rw [if_pos (by omega)]
      by_cases hn : x = []
      · subst hn
        rw [if_pos rfl, if_pos (hz.2 h0)] at ih
        rw [if_neg (by simp)]
        exact ih
      · rw [if_neg hn] at ih
        have : 0 < x.length := List.length_pos_iff.2 hn
        rw [if_pos (by omega), if_pos (by omega), ← hb]
        exact ih
    · rw [if_neg (by omega), if_pos (by omega), ← hb]
      by_cases hn : x = []
      · subst hn
        rw [if_pos rfl, if_neg (fun e => h0 (hz.1 e))] at ih
        exact ih
      · rw [if_neg hn] at ih
        exact ih
theorem Num_is (n : Nat) : codec_Num.f 9 (n : Int) = some (bi (strip (be 8 n))) := Num_l0 n 8 (by omega) 9 (by omega)
theorem eight_is (n : Nat) : journal_eight.f 9 (n : Int) = some (bi (be 8 n)) := by
  unfold journal_eight.f
  rw [Num_is, Option.bind_some]
  have hl := strip_len (be 8 n)
  have hp := strip_pad (be 8 n)
  rw [be_length] at hl hp
  obtain ⟨x, hx⟩ : ∃ x, x = strip (be 8 n) := ⟨_, rfl⟩
  rw [← hx] at hl hp ⊢
  have e : wrap64 (8 - ((bi x).length : Int)) = ((8 - x.length : Nat) : Int) := by rw [bi_length]; unfold wrap64; omega
  rw [e, if_pos (by omega), if_pos (by omega), Option.bind_some, if_pos (by rw [List.length_replicate, bi_length]; omega)]
  rw [← hp, bi_append]
  congr 2
  simp [bi]
theorem or_half (a c : Int) (ha0 : 0 ≤ a) (ha : a < 65536) (h0 : 0 ≤ c) (h1 : c < 65536) : Go.bits .or .u32 (a * 65536) c = a * 65536 + c := by
  refine bits_join .u32 32 ?_ (fun n h0 h1 => ?_) 16 (a * 65536) c ?_ ?_ ?_ ?_ ?_ ?_
  · exact Nat.le_refl 32
  · rw [IntKind.wrap_u32]
    omega
  all_goals omega
theorem Sum_l0 (l : List UInt8) (hl : l.length < 1000000000000) : ∀ k i : Nat, i ≤ l.length → l.length < k + i → sum_Sum.l0 k ((adlerP (l.take i)).1 : Nat) ((adlerP (l.take i)).2 : Nat) (bi l) (l.length : Int) (i : Nat) = some ((adler l : Nat) : Int)
  | 0, i, h1, h2 => by omega
  | k + 1, i, h1, h2 => by
    unfold sum_Sum.l0
    have hlt := adlerP_lt (l.take i) (1, 0) (by decide) (by decide)
    by_cases h : i < l.length
    · have hc := l[i].toNat_lt
      have ih := Sum_l0 l hl k (i + 1) (by omega) (by omega)
      have e : adlerP (l.take (i + 1)) = halves (adlerP (l.take i)) l[i] := by
        rw [List.take_succ_eq_append_getElem h, adlerP, List.foldl_append]
        rfl
      have e2 : wrap64 ((i : Int) + 1) = ((i + 1 : Nat) : Int) := by unfold wrap64; omega
      rw [e] at ih
      simp only [halves] at ih
      change (adlerP (l.take i)).1 < 65521 ∧ (adlerP (l.take i)).2 < 65521 at hlt
      generalize adlerP (l.take i) = p at *
      obtain ⟨lo, hi⟩ := p
      simp only at *
      rw [if_pos (by omega), if_pos (by omega), if_pos (by rw [bi_length]; omega), rd_bi l i h, e2]
      have a1 : (((lo : Int) + ((l[i].toNat : Int) % 4294967296)) % 4294967296) % 65521 = (((lo + l[i].toNat) % 65521 : Nat) : Int) := by omega
      rw [a1]
      have a2 : (((hi : Int) + (((lo + l[i].toNat) % 65521 : Nat) : Int)) % 4294967296) % 65521 = (((hi + (lo + l[i].toNat) % 65521) % 65521 : Nat) : Int) := by omega
      rw [a2]
      exact ih
    · obtain rfl : i = l.length := by omega
      rw [List.take_length] at hlt ⊢
      rw [if_neg (by omega)]
      change (adlerP l).1 < 65521 ∧ (adlerP l).2 < 65521 at hlt
      have a1 : (((adlerP l).2 : Int) * 65536) % 4294967296 = ((adlerP l).2 : Int) * 65536 := by omega
      rw [a1, or_half _ _ (by omega) (by omega) (by omega) (by omega)]
      unfold adler
      simp
theorem Sum_is (l : List UInt8) (hl : l.length < 1000000000000) : sum_Sum.f (l.length + 1) (bi l) = some ((adler l : Nat) : Int) := by
  unfold sum_Sum.f
  rw [bi_length]
  exact Sum_l0 l hl (l.length + 1) 0 (by omega) (by omega)
theorem be4 (n : Nat) : bi (be 4 n) = [((n / 16777216 % 256 : Nat) : Int), ((n / 65536 % 256 : Nat) : Int), ((n / 256 % 256 : Nat) : Int), ((n % 256 : Nat) : Int)] := by
  simp only [be, List.nil_append, List.cons_append, bi, List.map_cons, List.map_nil, UInt8.toNat_ofNat', Nat.div_div_eq_div_mul]
  congr 1
  · simp
  · simp
theorem Seal_is (l : List UInt8) (hl : l.length < 1000000000000) : sum_Seal.f (l.length + 1) (bi l) = some (bi (seal_ l)) := by
  unfold sum_Seal.f
  rw [Sum_is l hl]
  simp only [Option.bind_some, List.nil_append, List.length_nil, Nat.zero_add, bi_length]
  rw [if_pos (by omega), if_pos (by simp; omega)]
  rw [seal_, bi_append, be4]
  congr 2
end Go.Proofs.Yteggldplmbegfaa
