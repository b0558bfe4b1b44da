/- THE DEVICE's Write, walked. -/
import Derived.Test.YteggldplmbegfaaDev6
import Derived.Test.YteggldplmbegfaaApp
set_option linter.unusedVariables false
set_option linter.unusedSimpArgs false
namespace Go.Proofs.Yteggldplmbegfaa
open Go.RowKit

theorem info111 : (Try.prog.info? 111).map (fun i => (i.zero, i.size, i.bytes)) = some (some (.agg Try.zeroCells111), 257, 264) := by kernel_rfl
theorem lz_length (ls : List (Nat × List UInt8)) (h : ∀ p ∈ ls, p.2.length = 256) : (lz ls).length = ls.length * 257 := by
  unfold lz
  rw [flatten_len 257 _ (by simp only [List.mem_map]; rintro l ⟨p, hp, rfl⟩; simp [lzc, bv_length, h p hp])]
  simp
/-- The cells of a loose write of noughts at place i. -/
def z111 (i : Int) : List Value := .int .i64 i :: List.replicate 256 (.int .u8 0)
theorem z111_eq (i : Int) : Try.zeroCells111.setIfInBounds 0 (.int .i64 i) = (z111 i).toArray := by kernel_rfl
theorem build111 (i : Int) (w : World) : (Instr.build 111 #[(0, .int .i64 i)]).run Try.prog w = .ok (.agg (z111 i).toArray) w := by rw [← z111_eq]; kernel_rfl
theorem z111_length (i : Int) : (z111 i).length = 257 := by simp only [z111, List.length_cons, List.length_replicate]
theorem z111_one (i : Int) : ∀ v ∈ z111 i, v.oneCell' = true := by
  intro v hv
  simp only [z111, List.mem_cons, List.mem_replicate] at hv
  rcases hv with rfl | ⟨_, rfl⟩ <;> rfl
theorem splice_z (i : Int) : splice Try.zeroCells111.toList 0 (z111 i) = z111 i := by
  refine splice_all _ _ ?_
  have e : Try.zeroCells111.toList.length = 257 := zsize111
  rw [e, z111_length]
theorem splice_b (j : Nat) (bb : List UInt8) (hb : bb.length = 256) : splice (z111 j) 1 (bv bb) = lzc (j, bb) := by
  simp only [splice, z111, lzc, List.take_succ_cons, List.take_zero, bv_length, hb]
  rw [show 1 + 256 = 256 + 1 from rfl, List.drop_succ_cons, List.drop_eq_nil_of_le (by rw [List.length_replicate]; exact Nat.le_refl _)]
  simp

set_option maxRecDepth 20000 in
set_option maxHeartbeats 1000000 in
theorem dWrite_yes (w : World) (b bs : Nat) (D : Dev) (lv kv : Value) (h : DevAt w b bs D lv kv) (hok : D.Ok) (hcl : D.changes < 1000000000) (i : Int) (T : TypeId) (bval : Value) (bb : List UInt8)
    (hb : RowIs w bval T 1 bb.length (bv bb)) (hm : D.may i = 0) (hbl : bb.length = 256) :
    Calls Try.prog 17 #[.pointer (some ⟨b, 0, none⟩), .int .i64 i, bval] w fun e w' =>
      e = .returned (.int .i64 (D.write i bb).2) ∧ (∃ lv', DevAt w' b bs (D.write i bb).1 lv' kv) ∧ Fr w w' [b, bs] := by
  have hWD : D.write i bb = ({ D with loose := D.loose ++ [(i.toNat, bb)] } : Dev).change := by simp [Dev.write, hm, hbl]
  have hc := dmay_any w b bs D lv kv h i
  rw [hm] at hc
  have HC0 := Lib.hid hc
  have hi0 := (Dev.may_zero hm).2.1
  have hi1 := (Dev.may_zero hm).2.2
  obtain ⟨j, rfl⟩ := Int.eq_ofNat_of_zero_le hi0
  have hw1 : ({ D with loose := D.loose ++ [(j, bb)] } : Dev).Wf := by
    have hm2 := hok.many
    refine ⟨hok.wf.lo, hok.wf.hi, hok.wf.full, fun p hp => ?_, hok.wf.left, hok.wf.torn, hok.wf.half, by simp; omega, hok.wf.changes⟩
    rcases List.mem_append.1 hp with h6 | h6
    · exact hok.wf.loose p h6
    · simp at h6
      subst h6
      exact ⟨by simp only; omega, hbl⟩
  have HWD := Lib.hid hWD
  clear hc hm hWD
  rw [hbl] at hb
  have hll : D.loose.length ≤ 1000000001 := by have := hok.many; have := hok.wf.changes; omega
  rcases hb.2 with ⟨h0, _⟩ | ⟨g0, o0, c0, cur0, fr0, rfl, hc0, hg0, hx0⟩
  · omega
  have hbld := build111 j
  have hz : (Try.prog.info? 111).map (·.size) = some (z111 j).length := by rw [zero111, z111_length]
  have hfit := zsize111 ▸ (show 0 + (z111 j).length ≤ 257 by rw [z111_length]; omega)
  have hone := z111_one j
  have hll2 := h.loose
  obtain ⟨A, c, rfl⟩ := hll2.shape
  go_enter Try.func17, Try.ntmps17
  go_wp2_with fail
  refine HC0.out.mono ?_
  rintro e w' ⟨rfl, rfl⟩
  clear HC0
  go_upto_region 7 with (first
    | (with_reducible show wpList _ _ _ (Oper.mk _ (.alloc 111) _ _ _ _ :: _) _ _; refine wpList_alloc_row rfl 111 rfl _ zrow111 ?_; intro v2 hn2 hg2 hs2)
    | (with_reducible show wpList _ _ _ (Oper.mk _ (.store 111 _ _) _ _ _ _ :: _) _ _; refine wpList_store_mid rfl rfl 111 (.tmp 8) (.tmp 19) rfl w'.heap.size 0 rfl (z111 j) rfl 111 Try.zeroCells111 hn2 hz hfit hone ?_; intro v3 hn3 hg3 hs3; rw [splice_z] at hn3; clear hn2 hfit hbld))
  have F3 : Fr w' v3 [] := ((Fr.refl w' []).grown hg2 (by simp)).grown hg3 (by simp)
  have hg0' := F3.keep hg0 (by simp)
  clear hg2 hg3 hz hone
  go_upto_region 8 with (first
    | (with_reducible show wpList _ _ _ (Oper.mk _ (.call _) _ _ _ _ :: _) _ _; refine wpList_copy_mid rfl (.tmp 21) (.tmp 22) 33 33 rfl 5 Try.underlying33 zero5 w'.heap.size 1 256 256 rfl ⟨g0, o0, none⟩ 256 c0 rfl _ _ hn3 (bv bb) ?c1 ?c2 ?c3 (bv_one _) ?_; rotate_right; intro v4 hn4 hg4 hs4))
  case c1 => rw [bv_length, hbl]; rfl
  case c2 => intro j v hv; rw [addr_add, cell_of_row _ _ _ _ _ _ hg0']; exact hx0 j v hv
  case c3 => rw [bv_length, hbl, List.size_toArray, z111_length]; omega
  rw [List.toList_toArray, splice_b j bb hbl] at hn4
  have F4 : Fr w' v4 [] := F3.strip (S := []) (by simp) |>.grown hg4 (by simp)
  have h4 := h.below (Fr.below_iff.1 F4)
  have hl4 := h4.loose
  have c1 : v4.cell? ⟨b, 1, none⟩ = some (.slice A D.loose.length c) := h4.cell 1
  clear hn3 hg4 hs4 hg0 hg0' F3 hs2 hs3
  refine wp_region_grows 11 (by kernel_rfl) (by kernel_rfl) (fun q v w' => match q with
    | 0 => v = .pointer (some ⟨b, 0, none⟩) | 1 => v = .pointer (some ⟨b, 0, none⟩) | 2 => v = .pointer (some ⟨b, 0, none⟩) | 3 => v = .pointer (some ⟨b, 1, none⟩)
    | 4 => v = .slice A D.loose.length c | 5 => v = .slice A D.loose.length D.loose.length | 6 => v = .agg (lzc (j, bb)).toArray
    | 7 => ∃ g, v = .slice (some ⟨g, 0, none⟩) 1 1 ∧ w'.heap[g]? = some (.cells (lzc (j, bb)).toArray 111 (0, 0))
    | 8 => RowIs w' v 111 257 (D.loose.length + 1) (lz (D.loose ++ [(j, bb)]))
    | 9 => v = .pointer (some ⟨b, 0, none⟩) | 10 => v = .pointer (some ⟨b, 1, none⟩) | _ => True) ?hV ?hstep ?hfin
  case hV =>
    intro q v w w' hv hb
    match q, hv with
    | 0, hv => exact hv
    | 1, hv => exact hv
    | 2, hv => exact hv
    | 3, hv => exact hv
    | 4, hv => exact hv
    | 5, hv => exact hv
    | 6, hv => exact hv
    | 7, ⟨g, h1, h2⟩ => exact ⟨g, h1, (hb.block g (lt_of_heap h2)).trans h2⟩
    | 8, hv => exact hv.below hb
    | 9, hv => exact hv
    | 10, hv => exact hv
    | q + 11, hv => trivial
  case hstep =>
    simp only [List.take_succ_cons, List.take_zero, stepsAll, and_true, GrowStep, Oper.wpG, fillFrom, if_true, Act.put, List.setIfInBounds_toArray, List.set_cons_succ, List.set_cons_zero]
    refine ⟨?_, ?_, ?_, ?_, ?_, ?_, ?_, ?_, ?_, ?_, ?_⟩
    all_goals
      intro vs w5 hb5 hp K hK
    · go_step
      exact hK _ _ (Below.refl _ _) rfl
    · go_step
      exact hK _ _ (Below.refl _ _) rfl
    · have v1 : vs 1 = _ := hp 1 (by decide +kernel)
      go_step
      exact hK _ _ (Below.refl _ _) rfl
    · have v1 : vs 2 = _ := hp 2 (by decide +kernel)
      go_step
      exact hK _ _ (Below.refl _ _) rfl
    · have v1 : vs 3 = _ := hp 3 (by decide +kernel)
      have c5 := (hb5.cell (p := ⟨b, 1, none⟩) (lt_of_heap h4.blk)).trans c1
      go_step
      exact hK _ _ (Below.refl _ _) rfl
    · have v1 : vs 4 = _ := hp 4 (by decide +kernel)
      go_step
      refine (sClip_any _ A D.loose.length c hl4.le (by omega)).mono ?_
      rintro e w6 ⟨rfl, rfl⟩
      exact hK _ _ (Below.refl _ _) rfl
    · refine wp_load_mid 111 (.tmp 8) rfl w'.heap.size 0 rfl 111 _ _ _ (lzc (j, bb)) ((hb5.block _ (lt_of_heap hn4)).trans hn4) Try.underlying111 rfl (by rw [zero111]; simp [lzc, bv_length, hbl]) (fun q v hq => by rw [Nat.zero_add, List.getElem?_toArray]; exact hq) ?_
      exact hK _ _ (Below.refl _ _) rfl
    · have v1 : vs 6 = _ := hp 6 (by decide +kernel)
      obtain ⟨i0, hi, hz0, hz1, hz2⟩ := info_parts info111
      refine wp_buildSlice_one 104 111 (.tmp 30) rfl i0 _ (lzc (j, bb)) v1 Try.underlying104 hi hz0 (by rw [hz1]; simp [lzc, bv_length, hbl]) (by simp [lzc]) (by simp [lzc, bv_length, hbl]) ?_
      intro w6 hn6 hg6
      exact hK _ _ (Fr.below_iff.1 ((Fr.refl w5 []).grown hg6 (by simp))) ⟨_, rfl, hn6⟩
    · have v5 : vs 5 = _ := hp 5 (by decide +kernel)
      obtain ⟨g, v7, hg7⟩ : ∃ g, vs 7 = _ ∧ _ := hp 7 (by decide +kernel)
      obtain ⟨i0, hi, hz0, hz1, hz2⟩ := info_parts info111
      have hro : RowIs w5 (.slice A D.loose.length D.loose.length) 111 257 D.loose.length (lz D.loose) := (hl4.below hb5).clip (Nat.le_refl _)
      refine wp_append_grow rfl (.tmp 29) (.tmp 31) 104 rfl 111 i0 _ 257 264 Try.underlying104 hi hz0 hz1 hz2 zsize111 (by omega) A D.loose.length D.loose.length (lz D.loose) v5 ?_ hro ⟨g, 0, none⟩ 1 1 (lzc (j, bb)) v7 (by simp [lzc, bv_length, hbl]) ?_ (lzc_one _) (by omega) (by unfold maxLen; omega) (by omega) ?_
      · rintro rfl
        by_cases h0 : D.loose.length = 0
        · exact ⟨h0, h0⟩
        · obtain ⟨x, hx⟩ := hl4.nonempty h0
          cases hx
      · intro q u hq
        rw [addr_add, cell_of_row _ _ _ _ _ _ hg7, Nat.zero_add, List.getElem?_toArray]
        exact hq
      intro v' w6 hr6 hg6
      refine hK _ _ (Fr.below_iff.1 ((Fr.refl w5 []).grown hg6 (by simp))) ?_
      show RowIs _ _ _ _ _ _
      rw [show lz (D.loose ++ [(j, bb)]) = lz D.loose ++ lzc (j, bb) by simp [lz]]
      exact hr6
    · have v1 : vs 0 = _ := hp 0 (by decide +kernel)
      go_step
      exact hK _ _ (Below.refl _ _) rfl
    · have v1 : vs 9 = _ := hp 9 (by decide +kernel)
      go_step
      exact hK _ _ (Below.refl _ _) rfl
  case hfin =>
    intro vs w5 hb5 hv
    have v8 := hv 8 (by omega)
    have v10 : vs 10 = _ := hv 10 (by omega)
    have v8' : RowIs w5 (vs 8) 111 257 (D.loose.length + 1) (lz (D.loose ++ [(j, bb)])) := v8
    obtain ⟨A8, c8, e8⟩ := v8'.shape
    rw [e8] at v8'
    have h5 := h4.below hb5
    have hst := h5.store 1 (.slice A8 (D.loose.length + 1) c8) { D with loose := D.loose ++ [(j, bb)] } (.slice A8 (D.loose.length + 1) c8) kv rfl rfl (by simpa using v8') h5.kept
    have HST := Lib.hid hst
    have HF := Lib.hid ((((Fr.below_iff.2 (Fr.below_iff.1 F4)).below hb5).mono (S' := [b, bs]) (by simp)).grown (setCell_grown w5 b 1 (.slice A8 (D.loose.length + 1) c8)) (by simp))
    have f1 := h5.free 1
    have d1 : w5.cell? ⟨b, 1, none⟩ = some _ := h5.cell 1
    clear hst v8 v8' hv h5 hl4 c1 h4 h hll2
    simp only [List.take_succ_cons, List.take_zero, List.drop_succ_cons, List.drop_zero, fillFrom, if_true, Act.put, List.setIfInBounds_toArray, List.set_cons_succ, List.set_cons_zero]
    go_wp2_with fail
    refine (dchange_any _ b bs _ _ kv HST.out hw1 hcl hok.keptb).mono ?_
    rintro e w6 ⟨rfl, ⟨lv', hd⟩, hf⟩
    have HD2 := Lib.hid hd
    have HF2 := Lib.hid (HF.out.trans hf)
    clear hd hf
    go_wp2
    go_ret
    rw [HWD.out]
    exact ⟨rfl, ⟨lv', HD2.out⟩, HF2.out⟩
end Go.Proofs.Yteggldplmbegfaa
