/- THE JOURNAL's LEAVES by their contracts, in my words: number, eight, Seal, Pack, pack. -/
import Derived.Test.YteggldplmbegfaaJnLeaf
import Derived.Test.YteggldplmbegfaaB2
import Derived.Test.YteggldplmbegfaaQ2
set_option linter.unusedVariables false
set_option linter.unusedSimpArgs false
namespace Go.Proofs.Yteggldplmbegfaa
open Go.RowKit Go.Proofs.YteggldplmbegfaaW.PrintWords Go.Proofs.Yteggldplmbegfaa.PJournalPlays

theorem Seal_more (l : List UInt8) (hl : l.length < 1000000000000) (k : Nat) (hk : l.length < k) : sum_Seal.f k (bi l) = some (bi (seal_ l)) := by
  have h := Seal_is l hl
  have hm : ∀ d, sum_Seal.f (l.length + 1 + d) (bi l) = some (bi (seal_ l)) := fun d => by
    induction d with
    | zero => exact h
    | succ d ih => exact sum_Seal.mono _ _ _ ih
  have := hm (k - (l.length + 1))
  rwa [show l.length + 1 + (k - (l.length + 1)) = k by omega] at this
theorem bi_field_small (f : List UInt8) (h : f.length < 255) : bi (field f) = ((f.length : Int) % 256) :: bi f := by
  unfold field
  rw [if_pos h]
  simp only [bi, List.map_cons, UInt8.toNat_ofNat']
  congr 1
theorem bi_field_big (f : List UInt8) (h : ¬ f.length < 255) : bi (field f) = [255, ((f.length : Int) / 256) % 256, (f.length : Int) % 256] ++ bi f := by
  unfold field
  rw [if_neg h]
  simp only [bi, List.map_cons, UInt8.toNat_ofNat', List.cons_append, List.nil_append]
  congr 1
theorem Pack_one (f : List UInt8) (h : f.length ≤ 65535) (k : Nat) (hk : 2 ≤ k) : codec_Pack.f k [bi f] = some (bi (field f), 0) := by
  obtain ⟨k, rfl⟩ : ∃ m, k = m + 2 := ⟨k - 2, by omega⟩
  have e0 : rd_L2 [bi f] 0 = bi f := rfl
  unfold codec_Pack.f
  rw [show (([bi f] : List (List Int)).length : Int) = 1 from rfl]
  have ew : wrap64 ((0 : Int) + 1) = 1 := by unfold wrap64; omega
  have hl : (bi f).length = f.length := bi_length f
  rw [codec_Pack.l0]
  rw [if_pos (by omega), if_pos (by omega), if_pos (by simp), e0, ew, hl, if_neg (by omega)]
  by_cases hs : f.length < 255
  · rw [if_pos (by omega), if_pos (by simp), Option.bind_some, if_pos (by simp; omega), codec_Pack.l0, if_neg (by omega), bi_field_small f hs]
    rfl
  · rw [if_neg (by omega), Option.bind_some, if_pos (by simp), Option.bind_some, if_pos (by simp; omega), codec_Pack.l0, if_neg (by omega), bi_field_big f hs]
    rfl
theorem rd_recs (rs : List (List UInt8)) (i : Nat) (h : i < rs.length) : rd_L2 (rs.map bi) (i : Int) = bi rs[i] := by
  unfold rd_L2
  rw [Int.toNat_natCast, List.getD_eq_getElem?_getD, List.getElem?_map, List.getElem?_eq_getElem h]
  rfl
theorem pack_l1 (rs : List (List UInt8)) (room : Nat) (hroom : room ≤ 1000000000) (hr : ∀ r ∈ rs, r.length ≤ 65531) (hn : rs.length ≤ 1000000000) : ∀ (d i k : Nat) (out : List UInt8), i + d = rs.length → d + 70000 ≤ k →
    journal_pack.l1 k (room : Int) (bi out) (rs.map bi) (rs.length : Int) (i : Int) = some (bi (packL room out (rs.drop i)).1, (packL room out (rs.drop i)).2)
  | 0, i, k + 1, out, hi, hk => by
    rw [List.drop_of_length_le (by omega), journal_pack.l1, if_neg (by omega)]
    rfl
  | d + 1, i, k + 1, out, hi, hk => by
    have hlt : i < rs.length := by omega
    have hri := hr rs[i] (List.getElem_mem _)
    have hsl : (seal_ rs[i]).length ≤ 65535 := by rw [seal_length]; omega
    have hfl := field_len (seal_ rs[i])
    rw [List.drop_eq_getElem_cons hlt, journal_pack.l1, if_pos (by omega), if_pos (by omega), if_pos (by rw [List.length_map]; omega), rd_recs rs i hlt]
    unfold packL
    by_cases hf : room < out.length
    · rw [if_pos (by rw [bi_length]; omega), if_pos hf]
      rfl
    · rw [if_neg (by rw [bi_length]; omega), if_neg hf, Seal_more _ (by omega) k (by omega), Option.bind_some, Pack_one _ hsl k (by omega), Option.bind_some]
      simp only
      rw [if_pos trivial, if_pos (by rw [bi_length, bi_length]; omega), ← bi_append]
      have ew : wrap64 ((i : Int) + 1) = ((i + 1 : Nat) : Int) := by unfold wrap64; omega
      rw [ew]
      exact pack_l1 rs room hroom hr hn d (i + 1) k _ (by omega) (by omega)
theorem pack_l0 (rs : List (List UInt8)) (room : Nat) (hroom : room ≤ 1000000000) (hn : rs.length ≤ 1000000000) : ∀ (d i k : Nat), i + d = rs.length → d + rs.length + 70001 ≤ k → (∀ j (h : j < rs.length), j < i → rs[j].length ≤ 65531) →
    journal_pack.l0 k (rs.map bi) (room : Int) (rs.map bi) (rs.length : Int) (i : Int) = some (bi (pack rs room).1, (pack rs room).2)
  | 0, i, k + 1, hi, hk, hj => by
    rw [journal_pack.l0, if_neg (by omega)]
    have hall : ∀ r ∈ rs, r.length ≤ 65531 := fun r hr => by
      obtain ⟨j, h, rfl⟩ := List.getElem_of_mem hr
      exact hj j h (by omega)
    have e : pack rs room = packL room [] rs := by
      unfold pack
      rw [if_neg]
      rintro ⟨r, hr, hl⟩
      have := hall r hr
      omega
    rw [e, List.length_map]
    exact pack_l1 rs room hroom hall hn rs.length 0 k [] (by omega) (by omega)
  | d + 1, i, k + 1, hi, hk, hj => by
    have hlt : i < rs.length := by omega
    rw [journal_pack.l0, if_pos (by omega), if_pos (by omega), if_pos (by rw [List.length_map]; omega), rd_recs rs i hlt]
    by_cases hl : 65531 < rs[i].length
    · rw [if_pos (by rw [bi_length]; omega)]
      have e : pack rs room = ([], 4) := by
        unfold pack
        rw [if_pos ⟨_, List.getElem_mem _, hl⟩]
      rw [e]
      rfl
    · rw [if_neg (by rw [bi_length]; omega)]
      have ew : wrap64 ((i : Int) + 1) = ((i + 1 : Nat) : Int) := by unfold wrap64; omega
      rw [ew]
      refine pack_l0 rs room hroom hn d (i + 1) k (by omega) (by omega) fun j h h2 => ?_
      by_cases he : j = i
      · subst he; omega
      · exact hj j h (by omega)
theorem pack_is (rs : List (List UInt8)) (room : Nat) (hroom : room ≤ 1000000000) (hn : rs.length ≤ 1000000000) :
    journal_pack.f (2 * rs.length + 70001) (rs.map bi) (room : Int) = some (bi (pack rs room).1, (pack rs room).2) := by
  unfold journal_pack.f
  rw [List.length_map]
  exact pack_l0 rs room hroom hn rs.length 0 _ (by omega) (by omega) (fun j h h2 => by omega)

/-- A slice of slices of bytes reads as these records. -/
def RecsIs (w : World) (v : Value) (rs : List (List UInt8)) : Prop :=
  ∃ T vs, RowIs w v T 1 rs.length vs ∧ ∀ (i : Nat) (r : List UInt8), rs[i]? = some r → r.length ≤ 9223372036854775807 ∧ ∃ x Te, vs[i]? = some x ∧ RowIs w x Te 1 r.length (bv r)
theorem RecsIs.nil (w : World) (A : Option Addr) (c : Nat) : RecsIs w (.slice A 0 c) [] := ⟨0, [], RowIs.nil _ _ _ _ _, by simp⟩
theorem RecsIs.shape {w : World} {v : Value} {rs : List (List UInt8)} (h : RecsIs w v rs) : ∃ A c, v = .slice A rs.length c ∧ rs.length ≤ c := by
  obtain ⟨T, vs, h1, _⟩ := h
  obtain ⟨A, c, rfl⟩ := h1.shape
  exact ⟨A, c, rfl, h1.le⟩
theorem RecsIs.below {w w' : World} {v : Value} {rs : List (List UInt8)} (h : RecsIs w v rs) (hb : Below w.heap.size w w') : RecsIs w' v rs := by
  obtain ⟨T, vs, h1, h2⟩ := h
  refine ⟨T, vs, h1.below hb, fun i r hr => ?_⟩
  obtain ⟨h3, x, Te, h4, h5⟩ := h2 i r hr
  exact ⟨h3, x, Te, h4, h5.below hb⟩
theorem C_of_recs {w : World} {A : Option Addr} {c n : Nat} {rs : List (List UInt8)} (h : RecsIs w (.slice A n c) rs) (hn : rs.length = n) (hb : n ≤ 9223372036854775807) : Kd.C (Kd.slice 5 (Kd.int .u8)) w A (rs.map bi).length (rs.map bi) := by
  obtain ⟨T, vs, h1, h2⟩ := h
  subst hn
  refine ⟨rfl, by rw [List.length_map]; exact hb, fun h0 => ?_⟩
  rw [List.length_map] at h0
  obtain ⟨b, hb⟩ := h1.nonempty (by omega)
  refine ⟨b, hb, fun j p hj => ?_⟩
  rw [List.getElem?_map] at hj
  cases hx : rs[j]? with
  | none => rw [hx] at hj; cases hj
  | some r =>
    rw [hx] at hj
    simp only [Option.map_some, Option.some.injEq] at hj
    subst hj
    obtain ⟨h3, x, Te, h4, h5⟩ := h2 j r hx
    obtain ⟨A', c', rfl⟩ := h5.shape
    refine ⟨[.slice A' r.length c'], rfl, ⟨A', c', by rw [bi_length], by rw [bi_length]; exact h5.le, ?_⟩, fun i u hi => ?_⟩
    · have := C_of_row h5 rfl h3
      exact this
    · match i, hi with
      | 0, hi =>
        simp at hi
        subst hi
        refine h1.cells b hb _ _ ?_
        show vs[j * 1 + 0]? = _
        rw [Nat.mul_one, Nat.add_zero]
        exact h4
theorem Drawn0.is {w w' : World} (h : Drawn0 w w') : ∃ n, w' = w.drewN n := h.out

theorem wNumber (w : World) (v : Value) (T : TypeId) (l : List UInt8) (h : RowIs w v T 1 l.length (bv l)) (hl : l.length ≤ 8) :
    Calls Try.prog 87 #[v] w fun e w' => e = .returned (.int .u64 (num l)) ∧ ∃ n, w' = w.drewN n := by
  obtain ⟨A, c, rfl⟩ := h.shape
  have := journal_number.calls 9 A c (bi l) (num l) w (C_of_row h rfl (by omega)) (by rw [bi_length]; exact h.le) (number_is l hl)
  rw [bi_length] at this
  exact this.mono fun e w' ⟨h1, h2⟩ => ⟨h1, h2.out⟩
theorem wEight (w : World) (n : Nat) :
    Calls Try.prog 112 #[.int .u64 (n : Int)] w fun e w' => ∃ v, e = .returned v ∧ RowIs w' v 5 1 8 (bv (be 8 n)) ∧ w'.ownsRow w.heap.size 5 1 v 8 (bv (be 8 n)) ∧ Below w.heap.size w w' := by
  refine (journal_eight.calls 9 n _ w (eight_is n)).mono ?_
  rintro e w' ⟨v, rfl, hr, hb⟩
  have := row_of_R hr
  rw [be_length] at this
  exact ⟨v, rfl, this.1, this.2, hb⟩
theorem wSeal (w : World) (v : Value) (T : TypeId) (l : List UInt8) (h : RowIs w v T 1 l.length (bv l)) (hl : l.length < 1000000000000) :
    Calls Try.prog 92 #[v] w fun e w' => ∃ v', e = .returned v' ∧ RowIs w' v' 5 1 (seal_ l).length (bv (seal_ l)) ∧ Below w.heap.size w w' := by
  obtain ⟨A, c, rfl⟩ := h.shape
  have := sum_Seal.calls (l.length + 1) A c (bi l) _ w (C_of_row h rfl (by omega)) (by rw [bi_length]; exact h.le) (Seal_is l hl)
  rw [bi_length] at this
  refine this.mono ?_
  rintro e w' ⟨v, rfl, hr, hb⟩
  exact ⟨v, rfl, (row_of_R hr).1, hb⟩
theorem wPack (w : World) (v : Value) (rs : List (List UInt8)) (h : RecsIs w v rs) (hn : rs.length ≤ 1000000000) (room : Nat) (hroom : room ≤ 1000000000) :
    Calls Try.prog 61 #[v, .int .i64 room] w fun e w' => ∃ v', e = .returned (.tuple #[v', .int .i64 (pack rs room).2]) ∧ RowIs w' v' 5 1 (pack rs room).1.length (bv (pack rs room).1) ∧ Below w.heap.size w w' := by
  obtain ⟨A, c, rfl, hc⟩ := h.shape
  have := journal_pack.calls _ A c (rs.map bi) room _ _ w (C_of_recs h rfl (by omega)) (by rw [List.length_map]; exact hc) (pack_is rs room hroom hn)
  rw [List.length_map] at this
  refine this.mono ?_
  rintro e w' ⟨v, rfl, hr, hb⟩
  exact ⟨v, rfl, (row_of_R hr).1, hb⟩
end Go.Proofs.Yteggldplmbegfaa
