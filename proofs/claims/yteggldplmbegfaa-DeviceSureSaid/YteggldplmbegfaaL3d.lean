/- LAYER 3's LAWS: DeviceSure: the plain law. No Go here. -/
import Derived.Test.YteggldplmbegfaaL3c
set_option linter.unusedVariables false
set_option linter.unusedSimpArgs false
namespace Go.Proofs.Yteggldplmbegfaa
open Go.RowKit

/-- Which sector an op means, of six. -/
def idx6 (a : Int) : Nat := (IntKind.u64.wrap a).toNat % 6
theorem idx6_lt (a : Int) : idx6 a < 6 := Nat.mod_lt _ (by omega)
/-- The write of an op. -/
def opW (o : Op3) : Nat × List UInt8 := (idx6 o.at_, fullB o.c (o.s.data.toList.take 256))
theorem opW_len (o : Op3) : (opW o).2.length = 256 := fullB_length _ _

theorem settle_len : ∀ (l : List (Nat × List UInt8)) (s : List (List UInt8)), (Dev.settle l s).length = s.length
  | [], s => rfl
  | p :: l, s => by rw [Dev.settle, settle_len l]; simp
theorem settle_snoc : ∀ (l : List (Nat × List UInt8)) (p : Nat × List UInt8) (s : List (List UInt8)), Dev.settle (l ++ [p]) s = (Dev.settle l s).set p.1 p.2
  | [], p, s => rfl
  | q :: l, p, s => by simp only [List.cons_append, Dev.settle]; exact settle_snoc l p _
/-- Behind a cut each sector is whole what it was, or whole a loose write's, or the torn one. -/
theorem cutFrom_tells (kept : List Int) (torn half : Int) : ∀ (l : List (Nat × List UInt8)) (k : Nat) (s : List (List UInt8)) (j : Nat), (∀ p ∈ l, p.2.length = 256) → (∀ x ∈ s, x.length = 256) → (∀ p ∈ l, p.1 < s.length) → j < s.length →
    (Dev.cutFrom kept torn half k l s).getD j [] = s.getD j [] ∨ (∃ p ∈ l, p.1 = j ∧ (Dev.cutFrom kept torn half k l s).getD j [] = p.2) ∨ (∃ q p, l[q]? = some p ∧ p.1 = j ∧ ((k + q : Nat) : Int) = torn)
  | [], k, s, j, _, _, _, _ => .inl rfl
  | p :: l, k, s, j, hl, hs, hp, hj => by
    have hw := Dev.lay_wf (Dev.tear_le kept torn half k) hs ⟨hp p (by simp), hl p (by simp)⟩
    have ih := cutFrom_tells kept torn half l (k + 1) (Dev.lay s p (Dev.tear kept torn half k)) j (fun q hq => hl q (by simp [hq])) hw.2 (fun q hq => by rw [hw.1]; exact hp q (by simp [hq])) (by rw [hw.1]; exact hj)
    simp only [Dev.cutFrom]
    rcases ih with h | ⟨q, hq, h1, h2⟩ | ⟨q, r, hq, h1, h2⟩
    · rw [h]
      by_cases hpj : p.1 = j
      · have e : (Dev.lay s p (Dev.tear kept torn half k)).getD j [] = p.2.take (Dev.tear kept torn half k) ++ (s.getD j []).drop (Dev.tear kept torn half k) := by
          subst hpj
          simp only [Dev.lay, List.getD_eq_getElem?_getD, List.getElem?_set_self (hp p (by simp)), Option.getD_some]
        rw [e]
        have h256 := hl p (by simp)
        by_cases hk : (k : Int) ∈ kept
        · refine .inr (.inl ⟨p, by simp, hpj, ?_⟩)
          have : Dev.tear kept torn half k = 256 := by simp [Dev.tear, hk]
          have h9 : (s.getD j []).length = 256 := hs _ (by rw [List.getD_eq_getElem?_getD, List.getElem?_eq_getElem hj]; simp)
          rw [this, List.take_of_length_le (by omega), List.drop_eq_nil_of_le (by omega), List.append_nil]
        · by_cases ht : torn = k
          · exact .inr (.inr ⟨0, p, rfl, hpj, by omega⟩)
          · refine .inl ?_
            have : Dev.tear kept torn half k = 0 := by simp [Dev.tear, hk, ht]
            rw [this]
            simp
      · refine .inl ?_
        simp only [Dev.lay, List.getD_eq_getElem?_getD, List.getElem?_set_ne hpj]
    · exact .inr (.inl ⟨q, by simp [hq], h1, h2⟩)
    · exact .inr (.inr ⟨q + 1, r, by simpa using hq, h1, by omega⟩)
section
variable {P : Program}
theorem extract_str (s : ByteArray) (m : Nat) : s.extract 0 m = str (s.data.toList.take m) := by
  apply ByteArray.ext
  apply Array.ext'
  simp [str, ByteArray.data_extract]
/-- The head of a string. -/
theorem run_slice_str (w : World) (ty : TypeId) (s : ByteArray) (n : Int) (m : Nat) (hu : P.underlying ty = some .string) (hm : n = m) (hle : m ≤ s.size) :
    (Instr.sliceAt ty (.string s) none (some (.int .i64 n)) none).run P w = .ok (.string (str (s.data.toList.take m))) w := by
  subst hm
  rw [← extract_str]
  have h0 : ¬ s.size < m := by omega
  simp [Instr.sliceAt, Instr.slice, run_underlying hu, Instr.sliceBounds, Instr.sliceBound, asIntOf, hle]
theorem wpStill_slice_str {ops : Array Oper} {rest : List Oper} {o : Oper} {a : Act} {w : World} {Q : Act → Prop} (hgd : o.guard = none) (ty : TypeId) (x hi : Operand) (ho : o.op = .slice ty x none (some hi) none)
    (hu : P.underlying ty = some .string) (s : ByteArray) (hx : a.eval x = .string s) (n : Int) (hn : a.eval hi = .int .i64 n) (m : Nat) (hm : n = m) (hle : m ≤ s.size)
    (h : wpStill P ops w Q rest (a.put o.dst (.string (str (s.data.toList.take m))))) : wpStill P ops w Q (o :: rest) a := by
  refine wpStill_step fun K hK => ?_
  rw [if_pos (by simp [Region.wanted, hgd])]
  unfold Oper.still execOp
  simp only [ho, hx, hn, Option.map_none, Option.map_some, Sem.run_bind, Sem.run_pure, Result.andThen_ok, run_slice_str w ty s n m hu hm hle, Oper.stillUpon_value]
  exact hK _ h
end
end Go.Proofs.Yteggldplmbegfaa
