/- LAYER 3's LAWS: 'full', walked. -/
import Derived.Test.YteggldplmbegfaaDev9
set_option linter.unusedVariables false
set_option linter.unusedSimpArgs false
namespace Go.Proofs.Yteggldplmbegfaa
open Go.RowKit

/-- A sector of a byte with a text at its beginning. -/
def fullB (c : UInt8) (s : List UInt8) : List UInt8 := s.take 256 ++ List.replicate (256 - s.length) c
theorem fullB_length (c : UInt8) (s : List UInt8) : (fullB c s).length = 256 := by
  simp only [fullB, List.length_append, List.length_take, List.length_replicate]
  omega
theorem info5 : (Try.prog.info? 5).map (fun i => (i.zero, i.size, i.bytes)) = some (some (.int .u8 0), 1, 1) := by kernel_rfl

section
variable {P : Program}
/-- 'copy' of a string into the middle of a row. -/
theorem wp_copy_str {o : Oper} {a : Act} {w : World} {K : Act → World → Prop} {Q : Exit → Act → World → Prop} (d s : Operand) (dT sT : TypeId)
    (ho : o.op = .call { callee := .builtin .copy, args := #[d, s], argTypes := #[dT, sT] }) (elem : TypeId) (hu : P.underlying dT = some (.slice elem)) (hsz : (P.info? elem).map (·.size) = some 1)
    (g off dLen dCap : Nat) (hd : a.eval d = .slice (some ⟨g, off, none⟩) dLen dCap) (str : ByteArray) (hs : a.eval s = .string str)
    (cur : Array Value) (t : TypeId) (hg : w.heap[g]? = some (.cells cur t (0, 0))) (hfit : off + dLen ≤ cur.size)
    (h : ∀ w1, w1.heap[g]? = some (.cells (splice cur.toList off (bv (str.data.toList.take dLen))).toArray t (0, 0)) → w.grownBy w1 (some g) → w1.heap.size = w.heap.size → K (a.put o.dst (goInt (min str.size dLen : Nat))) w1) : o.wp P a w K Q := by
  have hsl : str.data.toList.length = str.size := rfl
  have hcs : (bv (str.data.toList.take dLen)).length = Nat.min str.size dLen := by rw [bv_length, List.length_take, hsl]; exact Nat.min_comm _ _
  have hst := run_storeCells_at P g off t (bv (str.data.toList.take dLen)) 0 cur w hg (by rw [Nat.add_zero, hcs]; have := Nat.min_le_right str.size dLen; show off + min str.size dLen ≤ cur.size; omega) (bv_one _)
  have htk : str.data.toList.take (Nat.min str.size dLen) = str.data.toList.take dLen := by
    rcases Nat.lt_or_ge dLen str.size with h1 | h1
    · rw [show Nat.min str.size dLen = dLen from Nat.min_eq_right (by omega)]
    · rw [show Nat.min str.size dLen = str.size from Nat.min_eq_left h1, List.take_of_length_le (by rw [hsl]; exact Nat.le_refl _), List.take_of_length_le (by rw [hsl]; exact h1)]
  have hex : List.take (Nat.min str.size dLen) (List.map (fun b : UInt8 => Value.int .u8 (b.toNat : Int)) str.data.toList) = bv (str.data.toList.take dLen) := by
    rw [← List.map_take, htk]
    rfl
  have hr : (Builtin.copy_ #[dT, sT] o.type #[.slice (some ⟨g, off, none⟩) dLen dCap, .string str]).run P w = .ok (goInt (min str.size dLen : Nat)) (w.setRow g (splice cur.toList off (bv (str.data.toList.take dLen))).toArray) := by
    cases hq : P.info? elem with
    | none => simp [hq] at hsz
    | some i =>
      have hi : i.size = 1 := by simpa [hq] using hsz
      simp [Builtin.copy_, run_underlying hu, Builtin.lenOf, Builtin.firstCells, sizeOf, typeInfo, hq, hi, hex, hst, splice]
  unfold Oper.wp execOp
  simp only [ho, resolve, invoke, builtin, Sem.run_bind, Sem.run_pure, Result.andThen_ok, List.map_toArray, List.map_cons, List.map_nil, hd, hs, hr]
  exact h (w.setRow g (splice cur.toList off (bv (str.data.toList.take dLen))).toArray) (setRow_heap w g _ _ t _ hg)
    ⟨rfl, rfl, rfl, by simp [World.setRow], fun k _ hne => by simp only [World.setRow, Array.getElem?_modify]; rw [if_neg (fun e => hne (by rw [e]))]⟩ (by simp [World.setRow])
end

theorem fullB_splice (c : UInt8) (s : List UInt8) : splice (bv (List.replicate 256 c)) 0 (bv (s.take 256)) = bv (fullB c s) := by
  simp only [splice, fullB, List.take_zero, List.nil_append, Nat.zero_add, bv_length, List.length_take]
  simp only [bv, List.map_append, List.map_replicate, List.drop_replicate]
  congr 2
  omega
theorem made5 (n : Nat) : (madeCells (Value.int .u8 0).cells (n * 1)).toList = bv (List.replicate n 0) := by
  refine List.ext_getElem ?_ fun i h1 h2 => ?_
  · simp [size_madeCells, bv]
  · simp [madeCells, bv, Value.cells, Nat.mod_one]

set_option maxHeartbeats 400000 in
theorem l3full_any (w : World) (c : UInt8) (s : ByteArray) :
    Calls Try.prog 16 #[.int .u8 c.toNat, .string s] w fun e w' => ∃ g, e = .returned (.slice (some ⟨g, 0, none⟩) 256 256) ∧
      w'.heap[g]? = some (.cells (bv (fullB c s.data.toList)).toArray 5 (0, 0)) ∧ w.heap.size ≤ g ∧ Below w.heap.size w w' := by
  obtain ⟨i0, hi, hz0, hz1, hz2⟩ := info_parts info5
  go_enter Try.func16, Try.ntmps16
  go_upto_region 3 with (first | (at_make; refine wpList_make_full _ rfl _ _ 33 rfl w.heap.size 5 i0 _ 1 Try.underlying33 hi hz0 hz1 .i64 .i64 256 256 256 rfl rfl rfl rfl ?c1 ?c2 ?c3 ?_; rotate_right; intro w1 hown hgr))
  case c1 => rw [hz2]; omega
  case c2 => unfold maxLen; omega
  case c3 => exact Nat.le_refl _
  have hro := owns_row hown rfl
  rw [made5] at hro
  have hF1 := (Fr.refl w []).grown hgr (by simp)
  clear hown hgr
  go_loopw [10] (fun i wr => ∃ k : Nat, ∃ xs : List UInt8, k ≤ 256 ∧ i = .int .i64 k ∧ wr.heap[w.heap.size]? = some (.cells (bv xs).toArray 5 (0, 0)) ∧ Fr w1 wr [w.heap.size] ∧ Hid (xs.length = 256 ∧ xs.take k = List.replicate k c)) (fun i _ => 256 - (intOf i).toNat)
  case atStart => exact ⟨0, List.replicate 256 0, by omega, rfl, hro, Fr.refl _ _, by show _ ∧ _; exact ⟨List.length_replicate, rfl⟩⟩
  case round =>
    obtain ⟨k, xs, hk, rfl, hb, hfr, hx⟩ := hrel
    by_cases hlt : k < 256
    · have hlti : (k : Int) < 256 := by omega
      have hcell : wr.cell? ⟨w.heap.size, k, none⟩ = some (.int .u8 (xs.getD k 0).toNat) := by
        rw [cell_of_row _ _ _ _ _ _ hb, List.getElem?_toArray, bv_get, List.getD_eq_getElem?_getD, List.getElem?_eq_getElem (by rw [hx.out.1]; exact hlt)]
        rfl
      have hfree := frozen_of_row wr w.heap.size k _ _ hb
      have hst := heap_setCell_same wr w.heap.size k _ _ (.int .u8 c.toNat) hb
      rw [show (bv xs).toArray.setIfInBounds k (.int .u8 c.toNat) = (bv (xs.set k c)).toArray by simp [bv, List.map_set]] at hst
      have HST := Lib.hid hst
      have HF := Lib.hid (hfr.grown (setCell_grown wr w.heap.size k (.int .u8 c.toNat)) (by simp))
      have HX : Hid ((xs.set k c).length = 256 ∧ (xs.set k c).take (k + 1) = List.replicate (k + 1) c) := by
        have h2 := hx.out
        show _ ∧ _
        refine ⟨by rw [List.length_set]; exact h2.1, ?_⟩
        rw [List.take_succ_eq_append_getElem (by rw [List.length_set, h2.1]; exact hlt)]
        simp only [List.getElem_set_self]
        rw [List.take_set_of_le (Nat.le_refl _), h2.2, List.replicate_succ']
      clear hx hst
      go_wp2
      go_roundw
      case rel => exact ⟨k + 1, xs.set k c, by omega, by go_num, HST.out, HF.out, HX⟩
      case measure => simp [intOf]; omega
    · obtain rfl : k = 256 := by omega
      have hx2 : xs = List.replicate 256 c := by have := hx.out; rw [← this.2, List.take_of_length_le (by omega)]
      rw [hx2] at hb
      clear hx hx2
      go_upto_region 8 with (first | (with_reducible show wpList _ _ _ (Oper.mk _ (.call _) _ _ _ _ :: _) _ _; refine wpList_plain rfl (fun K hK => wp_copy_str (.tmp 18) (.tmp 19) 33 9 rfl 5 Try.underlying33 zero5 w.heap.size 0 256 256 rfl s rfl _ _ hb ?d1 ?_); rotate_right; intro w2 hn2 hg2 hs2; apply hK; clear hK K))
      case d1 => rw [List.size_toArray, bv_length, List.length_replicate]; omega
      rw [List.toList_toArray, fullB_splice] at hn2
      have HB := Lib.hid (Fr.below_iff.1 ((hF1.then hfr (by simp)).grown hg2 (by simp)))
      clear hb hg2 hs2
      go_wp2
      go_ret
      exact ⟨w.heap.size, rfl, hn2, Nat.le_refl _, HB.out⟩
end Go.Proofs.Yteggldplmbegfaa
