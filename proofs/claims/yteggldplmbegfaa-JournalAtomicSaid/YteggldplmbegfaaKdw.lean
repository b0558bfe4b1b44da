/- THE PRINTED WALKS' WORDS AND MINE: a row of bytes in both. No condition. -/
import Derived.Test.YteggldplmbegfaaPJournalPlaysx1
import Derived.Test.YteggldplmbegfaaB1
set_option linter.unusedVariables false
set_option linter.unusedSimpArgs false
namespace Go.Proofs.Yteggldplmbegfaa
open Go.RowKit Go.Proofs.YteggldplmbegfaaW.PrintWords

/-- Bytes as numbers. -/
def bi (l : List UInt8) : List Int := l.map fun c => (c.toNat : Int)
theorem bi_length (l : List UInt8) : (bi l).length = l.length := by simp [bi]
theorem bi_append (a b : List UInt8) : bi (a ++ b) = bi a ++ bi b := by simp [bi]
theorem bi_inj {a b : List UInt8} (h : bi a = bi b) : a = b := by
  unfold bi at h
  refine List.map_inj_right (fun x y e => ?_) |>.1 h
  exact UInt8.toNat_inj.1 (by omega)

theorem C_of_row {w : World} {A : Option Addr} {n c : Nat} {T : TypeId} {l : List UInt8} (h : RowIs w (.slice A n c) T 1 n (bv l)) (hl : l.length = n) (hn : n ≤ 9223372036854775807) : Kd.C (Kd.int .u8) w A (bi l).length (bi l) := by
  refine ⟨rfl, by rw [bi_length]; omega, fun h0 => ?_⟩
  rw [bi_length] at h0
  obtain ⟨b, hb⟩ := h.nonempty (by omega)
  refine ⟨b, hb, fun j p hj => ⟨[.int .u8 p], rfl, rfl, fun i u hi => ?_⟩⟩
  match i, hi with
  | 0, hi =>
    simp at hi
    subst hi
    refine h.cells b hb _ _ ?_
    rw [bi, List.getElem?_map] at hj
    show (bv l)[j * 1 + 0]? = _
    rw [Nat.mul_one, Nat.add_zero, bv_get]
    cases hx : l[j]? with
    | none => rw [hx] at hj; cases hj
    | some x =>
      rw [hx] at hj
      simp at hj
      subst hj
      rfl
theorem row_of_R {w : World} {base e : Nat} {ok : Nat → Prop} {v : Value} {l : List UInt8} (h : Kd.R (Kd.int .u8) e w base ok v (bi l)) : RowIs w v e 1 l.length (bv l) ∧ w.ownsRow base e 1 v l.length (bv l) := by
  obtain ⟨_, inner, ho, hr⟩ := h
  have hin : inner = bv l := by
    refine List.ext_getElem? fun j => ?_
    have hl : inner.length = l.length := by have := hr.1; rw [bi_length] at this; simpa [Kd.int, Kd.scalar] using this
    by_cases hj : j < l.length
    · have h1 := hr.2 j (l[j].toNat : Int) (by rw [bi, List.getElem?_map, List.getElem?_eq_getElem hj]; rfl)
      have h2 : (inner.drop (j * 1)).take 1 = [Value.int .u8 (l[j].toNat : Int)] := h1
      rw [Nat.mul_one, List.drop_eq_getElem_cons (by omega)] at h2
      simp only [List.take_succ_cons, List.take_zero, List.cons.injEq, and_true] at h2
      rw [List.getElem?_eq_getElem (by omega), h2, bv_get, List.getElem?_eq_getElem hj]
      rfl
    · rw [List.getElem?_eq_none (by omega), List.getElem?_eq_none (by rw [bv_length]; omega)]
  subst hin
  rw [bi_length] at ho
  exact ⟨RowIs.of_owns ho, ho⟩
end Go.Proofs.Yteggldplmbegfaa
