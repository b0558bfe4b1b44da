/- THE DEVICE's Read, walked. -/
import Derived.Test.YteggldplmbegfaaDev5
set_option linter.unusedVariables false
set_option linter.unusedSimpArgs false
namespace Go.Proofs.Yteggldplmbegfaa
open Go.RowKit

theorem splice109 (b : List UInt8) (h : b.length = 256) : splice Try.zeroCells109.toList 0 (bv b) = bv b := by
  refine splice_all _ _ ?_
  have e : Try.zeroCells109.toList.length = 256 := zsize109
  rw [e, bv_length, h]
theorem flat_cell (s : List (List UInt8)) (h : ∀ x ∈ s, x.length = 256) (i : Nat) (hi : i < s.length) (j : Nat) (v : Value) (hv : (bv s[i])[j]? = some v) : (flat s).toArray[i * 256 + j]? = some v := by
  have hj : j < 256 := by
    have h2 := (List.getElem?_eq_some_iff.1 hv).1
    rw [bv_length, h _ (List.getElem_mem _)] at h2
    exact h2
  rw [List.getElem?_toArray]
  unfold flat
  rw [flatten_get 256 _ (fun l hl => by simp only [List.mem_map] at hl; obtain ⟨x, hx, rfl⟩ := hl; rw [bv_length]; exact h x hx) i j hj, List.getElem?_map, List.getElem?_eq_getElem hi]
  exact hv
/-- What a sector holds, as it was written last. -/
def Dev.at_ (D : Dev) (i : Int) : List UInt8 := Dev.now D.loose i.toNat (D.sure.getD i.toNat [])
theorem now_len : ∀ (l : List (Nat × List UInt8)) (i : Nat) (s : List UInt8), s.length = 256 → (∀ p ∈ l, p.2.length = 256) → (Dev.now l i s).length = 256
  | [], _, _, h, _ => h
  | p :: l, i, s, h, hl => now_len l i _ (by split; exact hl p (by simp); exact h) (fun q hq => hl q (by simp [hq]))

theorem dRead_no (w : World) (b bs : Nat) (D : Dev) (lv kv : Value) (h : DevAt w b bs D lv kv) (i : Int) (hm : D.may i ≠ 0) :
    Calls Try.prog 21 #[.pointer (some ⟨b, 0, none⟩), .int .i64 i] w fun e w' => e = .returned (.tuple #[.slice none 0 0, .int .i64 (D.may i)]) ∧ w' = w := by
  have hb : (D.may i != 0) = true := by simpa using hm
  obtain ⟨m, hm'⟩ : ∃ m, m = D.may i := ⟨_, rfl⟩
  have hc := dmay_any w b bs D lv kv h i
  rw [← hm'] at hc hb ⊢
  have HC := Lib.hid hc
  clear hc hm hm'
  go_enter Try.func21, Try.ntmps21
  go_wp2_with fail
  refine HC.out.mono ?_
  rintro e w' ⟨rfl, rfl⟩
  go_wp2
  go_ret2
  exact ⟨rfl, rfl⟩

set_option maxRecDepth 20000 in
set_option maxHeartbeats 1000000 in
theorem dRead_yes (w : World) (b bs : Nat) (D : Dev) (lv kv : Value) (h : DevAt w b bs D lv kv) (hw : D.Wf) (i : Int) (hm : D.may i = 0) :
    Calls Try.prog 21 #[.pointer (some ⟨b, 0, none⟩), .int .i64 i] w fun e w' => ∃ g, e = .returned (.tuple #[.slice (some ⟨g, 0, none⟩) 256 256, .int .i64 0]) ∧
      w'.heap[g]? = some (.cells (bv (D.at_ i)).toArray 109 (0, 0)) ∧ w.heap.size ≤ g ∧ Below w.heap.size w w' := by
  obtain ⟨ho, hi0, hi1⟩ := Dev.may_zero hm
  obtain ⟨j, rfl⟩ := Int.eq_ofNat_of_zero_le hi0
  have hj : j < D.sure.length := by omega
  have hc := dmay_any w b bs D lv kv h j
  rw [hm] at hc
  have HC0 := Lib.hid hc
  have hll : D.loose.length ≤ 1000000001 := by have := hw.many; have := hw.changes; omega
  have hl1 := h.loose
  obtain ⟨A, c, rfl⟩ := hl1.shape
  have c0 : w.cell? ⟨b, 0, none⟩ = some (.slice (some ⟨bs, 0, none⟩) D.sure.length D.sure.length) := h.cell 0
  have c1 : w.cell? ⟨b, 1, none⟩ = some (.slice A D.loose.length c) := h.cell 1
  have hs0 : (D.sure[j]).length = 256 := hw.full _ (List.getElem_mem _)
  obtain ⟨s0, hs1⟩ : ∃ s0, s0 = D.sure[j] := ⟨_, rfl⟩
  have hat : D.at_ j = Dev.now D.loose j s0 := by rw [hs1]; simp [Dev.at_, List.getElem?_eq_getElem hj]
  rw [hat]
  rw [← hs1] at hs0
  have hcell0 : ∀ (q : Nat) (v : Value), (bv s0)[q]? = some v → (flat D.sure).toArray[j * 256 + q]? = some v := fun q v hq => flat_cell _ hw.full j hj q v (by rw [← hs1]; exact hq)
  have HCELL := Lib.hid hcell0
  have hz9 : (Try.prog.info? 109).map (·.size) = some (bv s0).length := by rw [zero109, bv_length, hs0]
  have hfit9 := zsize109 ▸ (show 0 + (bv s0).length ≤ 256 by rw [bv_length, hs0]; omega)
  have hone9 := bv_one s0
  clear hc hm ho hat hs1 hcell0
  go_enter Try.func21, Try.ntmps21
  go_wp2_with fail
  refine HC0.out.mono ?_
  rintro e w' ⟨rfl, rfl⟩
  clear HC0
  go_upto_region 5 with (first
    | (with_reducible show wpList _ _ _ (Oper.mk _ (.load 109 _) _ _ _ _ :: _) _ _; refine wpList_load_mid rfl 109 (.tmp 21) rfl bs (j * 256) rfl 109 _ _ _ (bv s0) h.sure Try.underlying109 rfl hz9 HCELL.out ?_)
    | (with_reducible show wpList _ _ _ (Oper.mk _ (.alloc 109) _ _ _ _ :: _) _ _; refine wpList_alloc_row rfl 109 rfl _ zrow109 ?_; intro v2 hn2 hg2 hs2)
    | (with_reducible show wpList _ _ _ (Oper.mk _ (.store 109 _ _) _ _ _ _ :: _) _ _; refine wpList_store_mid rfl rfl 109 (.tmp 7) (.tmp 22) rfl w'.heap.size 0 rfl (bv s0) rfl 109 Try.zeroCells109 hn2 hz9 hfit9 hone9 ?_; intro v3 hn3 hg3 hs3; rw [splice109 s0 hs0] at hn3; clear hn2 hfit9))
  have F3 : Below w'.heap.size w' v3 := Fr.below_iff.1 (((Fr.refl w' []).grown hg2 (by simp)).grown hg3 (by simp))
  have h3 := h.below F3
  have hl3 := hl1.below F3
  have c1 : v3.cell? ⟨b, 1, none⟩ = some (.slice A D.loose.length c) := h3.cell 1
  have hsz : w'.heap.size < v3.heap.size := lt_of_heap hn3
  have HN3 := Lib.hid hn3
  have HF3 := Lib.hid F3
  clear hg2 hg3 hs2 hs3 hn3 F3 c0 HCELL hone9 hz9
  go_wp2_with fail
  go_loopw [28] (fun i wr => ∃ k : Nat, ∃ s : List UInt8, k ≤ D.loose.length ∧ i = .int .i64 k ∧ wr.heap[w'.heap.size]? = some (.cells (bv s).toArray 109 (0, 0)) ∧ Fr v3 wr [w'.heap.size] ∧
      Hid (Dev.now (D.loose.drop k) j s = Dev.now D.loose j s0 ∧ s.length = 256)) (fun i _ => D.loose.length - (intOf i).toNat)
  case atStart => exact ⟨0, s0, Nat.zero_le _, rfl, HN3.out, Fr.refl _ _, by show _ ∧ _; exact ⟨by simp, hs0⟩⟩
  case round =>
    obtain ⟨k, s, hkl, rfl, hbs, hfr, hs⟩ := hrel
    by_cases hlt : k < D.loose.length
    · obtain ⟨g, o, rfl, cur, fr, hcur, hx, hcell⟩ := lz_at hl3 rfl (fun p hp => (hw.loose p hp).2) k hlt
      have hp := hw.loose D.loose[k] (List.getElem_mem _)
      have hgb : g ≠ w'.heap.size := typ_ne hcur HN3.out (by decide)
      have hrow := hfr.keep hcur (by simpa using hgb)
      obtain ⟨p, hp0⟩ : ∃ p, p = D.loose[k] := ⟨_, rfl⟩
      rw [← hp0] at hcell hp
      have HP := Lib.hid hp0
      clear hp0
      have hz : (Try.prog.info? 111).map (·.size) = some (lzc p).length := by rw [zero111]; simp [lzc, bv_length, hp.2]
      have HC := Lib.hid hcell
      clear hcell
      have hfit := zsize111 ▸ (show 0 + (lzc p).length ≤ 257 by simp [lzc, bv_length, hp.2])
      have hone := lzc_one p
      go_upto_region 8 with (first
        | (with_reducible show wpList _ _ _ (Oper.mk _ (.load 111 _) _ _ _ _ :: _) _ _; refine wpList_load_mid rfl 111 (.tmp 30) rfl g (o + k * 257) rfl 111 cur fr _ (lzc p) hrow Try.underlying111 rfl hz HC.out ?_)
        | (with_reducible show wpList _ _ _ (Oper.mk _ (.alloc 111) _ _ _ _ :: _) _ _; refine wpList_alloc_row rfl 111 rfl _ zrow111 ?_; intro w2 hn2 hg2 hs2)
        | (with_reducible show wpList _ _ _ (Oper.mk _ (.store 111 _ _) _ _ _ _ :: _) _ _; refine wpList_store_mid rfl rfl 111 (.tmp 9) (.tmp 31) rfl wr.heap.size 0 rfl (lzc p) rfl 111 Try.zeroCells111 hn2 hz hfit hone ?_; intro w3 hn3 hg3 hs3; rw [splice111 p hp.2] at hn3; clear hn2 hfit)
        )
      have HN4 := Lib.hid hn3
      clear hn3
      have F4 : Fr wr w3 [] := ((Fr.refl wr []).grown hg2 (by simp)).grown hg3 (by simp)
      have hb4 : w3.heap[w'.heap.size]? = some (.cells (bv s).toArray 109 (0, 0)) := F4.keep hbs (by simp)
      have hfr4 : Fr v3 w3 [w'.heap.size] := hfr.then F4 (by simp)
      have p0 : w3.cell? ⟨wr.heap.size, 0, none⟩ = some (.int .i64 p.1) := by rw [cell_of_row _ _ _ _ _ _ HN4.out]; rfl
      have hnow : Dev.now (D.loose.drop (k + 1)) j (if p.1 = j then p.2 else s) = Dev.now D.loose j s0 := by
        have h2 := hs.out.1
        rw [List.drop_eq_getElem_cons hx, ← HP.out] at h2
        exact h2
      have hslen := hs.out.2
      clear hg2 hg3 hs2 hs3 hrow hcur hs
      by_cases heq : p.1 = j
      · have hbq : ((p.1 : Int) == (j : Int)) = true := beq_iff_eq.2 (by omega)
        rw [if_pos heq] at hnow
        have HNOW := Lib.hid hnow
        clear heq hnow
        have hz9 : (Try.prog.info? 109).map (·.size) = some (bv p.2).length := by rw [zero109, bv_length, hp.2]
        have hfit9 : 0 + (bv p.2).length ≤ (bv s).toArray.size := by rw [List.size_toArray, bv_length, bv_length, hp.2, hslen]; omega
        go_upto_region 10 with (first
          | (with_reducible show wpList _ _ _ (Oper.mk _ (.load 109 _) _ _ _ _ :: _) _ _; refine wpList_load_mid rfl 109 (.tmp 36) rfl wr.heap.size 1 rfl 111 _ _ _ (bv p.2) HN4.out Try.underlying109 rfl hz9 (lzc_tail p) ?_)
          | (with_reducible show wpList _ _ _ (Oper.mk _ (.store 109 _ _) _ _ _ _ :: _) _ _; refine wpList_store_mid rfl rfl 109 (.tmp 7) (.tmp 37) rfl w'.heap.size 0 rfl (bv p.2) rfl 109 (bv s).toArray hb4 hz9 hfit9 (bv_one _) ?_; intro w5 hn5 hg5 hs5))
        rw [List.toList_toArray, splice_all _ _ (by rw [bv_length, bv_length, hp.2, hslen])] at hn5
        have F5 := hfr4.grown hg5 (by simp)
        clear hg5 hs5 hb4
        go_wp2
        go_roundw
        case rel =>
          refine ⟨k + 1, p.2, by omega, by go_num, hn5, F5, ?_⟩
          show _ ∧ _
          exact ⟨HNOW.out, hp.2⟩
        case measure => simp [intOf]; omega
      · have hbq : ((p.1 : Int) == (j : Int)) = false := beq_eq_false_iff_ne.2 (by omega)
        rw [if_neg heq] at hnow
        have HNOW := Lib.hid hnow
        clear heq hnow
        go_wp2
        go_roundw
        case rel =>
          refine ⟨k + 1, s, by omega, by go_num, hb4, hfr4, ?_⟩
          show _ ∧ _
          exact ⟨HNOW.out, hslen⟩
        case measure => simp [intOf]; omega
    · obtain rfl : k = D.loose.length := by omega
      have hs2 : s = Dev.now D.loose j s0 := by have := hs.out.1; rwa [List.drop_length, Dev.now] at this
      rw [hs2] at hbs
      have HF4 := Lib.hid (Fr.below_iff.1 (((Fr.below_iff.2 HF3.out).then hfr (by simp))))
      clear hs2 hs
      go_wp2
      go_ret2
      exact ⟨w'.heap.size, rfl, hbs, Nat.le_refl _, HF4.out⟩
end Go.Proofs.Yteggldplmbegfaa
