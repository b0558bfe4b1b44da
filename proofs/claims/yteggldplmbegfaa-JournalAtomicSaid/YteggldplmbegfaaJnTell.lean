/- (*Journal).tell, walked. -/
import Derived.Test.YteggldplmbegfaaB2
import Derived.Test.YteggldplmbegfaaJnBytes
import Derived.Test.YteggldplmbegfaaJnRight
import Derived.Test.YteggldplmbegfaaB1
set_option linter.unusedVariables false
set_option linter.unusedSimpArgs false
namespace Go.Proofs.Yteggldplmbegfaa
open Go.RowKit

/-- Another block of the heap, of another type than any of the journal's. -/
theorem JIs.dev_move {w w' : World} {jb b bs : Nat} {dv : Value} {J : Jr} {D D' : Dev} (h : JIs w jb b bs dv J D) (hd : DevIs w' b bs D') (hf : Fr w w' [b, bs]) : JIs w' jb b bs dv J D' := by
  obtain ⟨cb, hb⟩ := h.dev.blk
  obtain ⟨cs, hs⟩ := h.dev.sure
  have h1 : jb ≠ b := typ_ne h.blk hb (by decide)
  have h2 : jb ≠ bs := typ_ne h.blk hs (by decide)
  exact ⟨hf.keep h.blk (by simp [h1, h2]), hd, h.row.other hf (by
    intro x hx
    simp only [List.mem_cons, List.not_mem_nil, or_false] at hx
    rcases hx with rfl | rfl
    · exact .inr ⟨_, _, _, hb, by decide⟩
    · exact .inr ⟨_, _, _, hs, by decide⟩)⟩
theorem JIs.below {w w' : World} {jb b bs : Nat} {dv : Value} {J : Jr} {D : Dev} (h : JIs w jb b bs dv J D) (hb : Below w.heap.size w w') : JIs w' jb b bs dv J D :=
  ⟨(hb.block _ (lt_of_heap h.blk)).trans h.blk, h.dev.below hb, h.row.below hb⟩
/-- The journal's own block is written. -/
theorem JIs.own {w w' : World} {jb b bs : Nat} {dv : Value} {J J' : Jr} {D : Dev} (h : JIs w jb b bs dv J D) (hf : Fr w w' [jb])
    (hc : w'.heap[jb]? = some (.cells #[.pointer (some ⟨b, 0, none⟩), .int .u64 J'.number, .int .i64 (J'.side : Nat), .int .i64 (J'.used : Nat), dv, .int .i64 J'.count, .bool J'.broken] 117 (0, 0))) (hd : J'.data = J.data) : JIs w' jb b bs dv J' D := by
  refine ⟨hc, h.dev.move hf ?_, ?_⟩
  · intro x hx
    simp only [List.mem_cons, List.not_mem_nil, or_false] at hx
    subst hx
    exact .inr ⟨_, _, _, h.blk, by decide, by decide, by decide, by decide⟩
  · rw [hd]
    exact h.row.other hf (by
      intro x hx
      simp only [List.mem_cons, List.not_mem_nil, or_false] at hx
      subst hx
      exact .inr ⟨_, _, _, h.blk, by decide⟩)
theorem jset6 (w : World) (jb : Nat) (v : Bool) : Fr w (w.setCell ⟨jb, 6, none⟩ (.bool v)) [jb] := (Fr.refl w _).grown (setCell_grown w jb 6 _) (fun k hk => by cases hk; exact .inl (by simp))
theorem jset6_heap {w : World} {jb : Nat} {c0 c1 c2 c3 c4 c5 c6 : Value} (h : w.heap[jb]? = some (.cells #[c0, c1, c2, c3, c4, c5, c6] 117 (0, 0))) (v : Bool) :
    (w.setCell ⟨jb, 6, none⟩ (.bool v)).heap[jb]? = some (.cells #[c0, c1, c2, c3, c4, c5, .bool v] 117 (0, 0)) := heap_setCell_same w jb 6 _ _ (.bool v) h
theorem box_not_dev {w : World} {jb b bs g : Nat} {dv : Value} {J : Jr} {D : Dev} {c : Array Value} (h : JIs w jb b bs dv J D) (hg : w.heap[g]? = some (.cells c 115 (0, 0))) : g ∉ [b, bs] := by
  obtain ⟨cb, hb⟩ := h.dev.blk
  obtain ⟨cs, hs⟩ := h.dev.sure
  have h1 : g ≠ b := typ_ne hg hb (by decide)
  have h2 : g ≠ bs := typ_ne hg hs (by decide)
  simp [h1, h2]
theorem tmod2 (n : Nat) : (n : Int).tmod 2 = ((n % 2 : Nat) : Int) := by
  rw [Int.tmod_eq_emod_of_nonneg (by omega)]
  omega
set_option maxRecDepth 20000 in
set_option maxHeartbeats 1000000 in
theorem jtell_any (w : World) (jb b bs : Nat) (dv : Value) (J : Jr) (D : Dev) (h : JIs w jb b bs dv J D) (hok : D.Ok) (hch : D.changes + 2 ≤ 1000000000) (n side used : Nat) (hn : n < 18446744073709551616) (hs : side ≤ 1) (hu : used ≤ 1000000000) :
    Calls Try.prog 58 #[.pointer (some ⟨jb, 0, none⟩), .agg #[.int .u64 n, .int .i64 side, .int .i64 used]] w fun e w' =>
      e = .returned (.int .i64 (J.tell D n side used).2.2) ∧ JIs w' jb b bs dv (J.tell D n side used).1 (J.tell D n side used).2.1 ∧ Fr w w' [jb, b, bs] := by
  have hbox := heap_alloc_new w (.cells #[.int .u64 n, .int .i64 side, .int .i64 used] 115 (0, 0))
  have hgb := World.grownBy_alloc w (.cells #[.int .u64 n, .int .i64 side, .int .i64 used] 115 (0, 0)) none
  obtain ⟨w1, hw1⟩ : ∃ w1, w1 = w.alloc (.cells #[.int .u64 n, .int .i64 side, .int .i64 used] 115 (0, 0)) := ⟨_, rfl⟩
  rw [← hw1] at hbox hgb
  have B1 := Lib.hid ((Below.refl w.heap.size w).grown hgb (Nat.le_refl _) (by simp))
  have HBOX := Lib.hid hbox
  have hsz : w.heap.size < w1.heap.size := lt_of_heap hbox
  have H1 := Lib.hid (h.below B1.out)
  clear hgb hbox h
  have em := tmod2 n
  have ew : wrap64 ((n % 2 : Nat) : Int) = ((n % 2 : Nat) : Int) := by unfold wrap64; omega
  obtain ⟨m2, hm2⟩ : ∃ m2, m2 = n % 2 := ⟨_, rfl⟩
  have hm22 : m2 < 2 := by rw [hm2]; exact Nat.mod_lt _ (by omega)
  have HT := Lib.hid (show J.tell D n side used = (let w := D.write ((m2 : Nat) : Int) (tallyB n side used)
    if w.2 = 0 then
      let b := w.1.barrier
      if b.2 = 0 then ({ J with number := n, side := side, used := used }, b.1, 0) else ({ J with broken := true }, b.1, b.2)
    else ({ J with broken := true }, w.1, w.2)) by rw [hm2]; rfl)
  rw [← hm2] at em ew
  have em2 : IntKind.u64.wrap (m2 : Int) = (m2 : Int) := wraps_u64 _ (by omega) (by omega)
  clear hm2
  go_enter Try.func58, Try.ntmps58
  go_wp2_with fail
  rw [← hw1]
  clear hw1
  refine wp_region_grows 10 (by kernel_rfl) (by kernel_rfl) (fun q v w' => match q with
    | 0 => v = .pointer (some ⟨jb, 0, none⟩)
    | 1 => v = .pointer (some ⟨jb, 0, none⟩)
    | 2 => v = .pointer (some ⟨jb, 0, none⟩)
    | 3 => v = .pointer (some ⟨b, 0, none⟩)
    | 4 => v = .pointer (some ⟨w.heap.size, 0, none⟩)
    | 5 => v = .int .u64 n
    | 6 => v = .int .u64 m2
    | 7 => v = .int .i64 m2
    | 8 => v = .agg #[.int .u64 n, .int .i64 side, .int .i64 used]
    | 9 => RowIs w' v 5 1 256 (bv (tallyB n side used))
    | _ => True) ?hV ?hstep ?hfin
  case hV =>
    intro q v w w' hv hb
    match q, hv with
    | 0, hv => exact hv
    | 1, hv => exact hv
    | 2, hv => exact hv
    | 3, hv => exact hv
    | 4, hv => exact hv
    | 5, hv => exact hv
    | 6, hv => exact hv
    | 7, hv => exact hv
    | 8, hv => exact hv
    | 9, hv => exact hv.below hb
    | q + 10, hv => trivial
  case hstep =>
    simp (maxSteps := 4000000) only [List.take_succ_cons, List.take_zero, stepsAll, and_true, GrowStep, Oper.wpG, fillFrom, Nat.zero_add, Nat.reduceAdd, if_true, Act.put, List.setIfInBounds_toArray, List.set_cons_succ, List.set_cons_zero]
    refine ⟨?_, ?_, ?_, ?_, ?_, ?_, ?_, ?_, ?_, ?_⟩
    all_goals
      intro vs wx hbx hp K hK
    · go_step
      exact hK _ _ (Below.refl _ _) rfl
    · have v0 : (vs 0) = .pointer (some ⟨jb, 0, none⟩) := hp 0 (by decide +kernel)
      go_step
      exact hK _ _ (Below.refl _ _) rfl
    · have v1 : (vs 1) = .pointer (some ⟨jb, 0, none⟩) := hp 1 (by decide +kernel)
      go_step
      exact hK _ _ (Below.refl _ _) rfl
    · have v2 : (vs 2) = .pointer (some ⟨jb, 0, none⟩) := hp 2 (by decide +kernel)
      have c0 : wx.cell? ⟨jb, 0, none⟩ = some (.pointer (some ⟨b, 0, none⟩)) := cell_of_row _ _ _ _ _ _ (H1.out.below hbx).blk
      go_step
      exact hK _ _ (Below.refl _ _) rfl
    · go_step
      exact hK _ _ (Below.refl _ _) rfl
    · have v4 : (vs 4) = .pointer (some ⟨w.heap.size, 0, none⟩) := hp 4 (by decide +kernel)
      have c0 : wx.cell? ⟨w.heap.size, 0, none⟩ = some (.int .u64 n) := cell_of_row _ _ _ _ _ _ ((hbx.block _ hsz).trans HBOX.out)
      go_step
      exact hK _ _ (Below.refl _ _) rfl
    · have v5 : (vs 5) = .int .u64 n := hp 5 (by decide +kernel)
      go_step
      exact hK _ _ (Below.refl _ _) rfl
    · have v6 : (vs 6) = .int .u64 m2 := hp 6 (by decide +kernel)
      go_step
      exact hK _ _ (Below.refl _ _) rfl
    · refine wp_load_mid 115 (.tmp 3) rfl w.heap.size 0 rfl 115 _ _ _ [.int .u64 n, .int .i64 side, .int .i64 used] ((hbx.block _ hsz).trans HBOX.out) Try.underlying115 rfl size115 (fun q v hq => by rw [Nat.zero_add, List.getElem?_toArray]; exact hq) ?_
      exact hK _ _ (Below.refl _ _) rfl
    · have v8 : (vs 8) = .agg #[.int .u64 n, .int .i64 side, .int .i64 used] := hp 8 (by decide +kernel)
      go_step
      refine (jbytes_any _ n side used hn hs hu).mono ?_
      rintro e wy ⟨v, rfl, h1, h2⟩
      exact hK _ _ h2 h1
  case hfin =>
    intro vs wx hbx hv
    have r9 : RowIs wx (vs 9) 5 1 256 (bv (tallyB n side used)) := hv 9 (by omega)
    have v3 : vs 3 = .pointer (some ⟨b, 0, none⟩) := hv 3 (by omega)
    have v7 : vs 7 = .int .i64 m2 := hv 7 (by omega)
    have HX := Lib.hid (H1.out.below hbx)
    have BX := Lib.hid (B1.out.trans (hbx.mono B1.out.size))
    have BOX := Lib.hid ((hbx.block _ hsz).trans HBOX.out)
    have R9 := Lib.hid r9
    clear hv hbx r9 H1 B1 HBOX
    simp (maxSteps := 4000000) only [List.take_succ_cons, List.take_zero, List.drop_succ_cons, List.drop_zero, fillFrom, Nat.zero_add, Nat.reduceAdd, if_true, Act.put, List.setIfInBounds_toArray, List.set_cons_succ, List.set_cons_zero]
    go_wp2_with fail
    have hok1 := Dev.write_ok hok (by omega) ((m2 : Nat) : Int) (tallyB n side used)
    have hch1 := Dev.write_changes D ((m2 : Nat) : Int) (tallyB n side used)
    refine (wWrite wx b bs D HX.out.dev hok (by omega) ((m2 : Nat) : Int) 5 (vs 9) (tallyB n side used) R9.out (tallyB_length _ _ _)).mono ?_
    rintro e w2 ⟨rfl, hd2, hf2⟩
    obtain ⟨⟨D1, k1⟩, hp⟩ : ∃ p, p = D.write ((m2 : Nat) : Int) (tallyB n side used) := ⟨_, rfl⟩
    rw [← hp] at hd2 hok1 hch1 ⊢
    rw [← hp] at HT
    clear hp
    simp only at hd2 hok1 hch1 HT ⊢
    have FX := Lib.hid (show Fr w wx [jb, b, bs] from (Fr.below_iff.2 BX.out).mono (by simp))
    have H2 := Lib.hid (HX.out.dev_move hd2 hf2)
    have F2 := Lib.hid (FX.out.trans (hf2.mono (by simp)))
    have BOX2 := Lib.hid (hf2.keep BOX.out (box_not_dev HX.out BOX.out))
    clear hd2 hf2 HX FX R9 BOX BX v3 v7
    by_cases hk : k1 = 0
    · subst hk
      have c0 : w2.cell? ⟨jb, 0, none⟩ = some (.pointer (some ⟨b, 0, none⟩)) := cell_of_row _ _ _ _ _ _ H2.out.blk
      go_wp2_with fail
      have hok2 := Dev.barrier_ok hok1 (by omega)
      refine (wBarrier w2 b bs D1 H2.out.dev hok1 (by omega)).mono ?_
      rintro e w3 ⟨rfl, hd3, hf3⟩
      obtain ⟨⟨D2, k2⟩, hp⟩ : ∃ p, p = D1.barrier := ⟨_, rfl⟩
      rw [← hp] at hd3 hok2 ⊢
      rw [← hp] at HT
      clear hp
      simp only at hd3 hok2 HT ⊢
      have H3 := Lib.hid (H2.out.dev_move hd3 hf3)
      have F3 := Lib.hid (F2.out.trans (hf3.mono (by simp)))
      have BOX3 := Lib.hid (hf3.keep BOX2.out (box_not_dev H2.out BOX2.out))
      clear hd3 hf3 H2 F2 BOX2 c0 hok1
      by_cases hk : k2 = 0
      · subst hk
        go_wp2_with (first
          | ((with_reducible show wpList _ _ _ (Oper.mk _ (.load 115 _) _ _ _ _ :: _) _ _); go_must (refine wpList_load_mid rfl 115 (.tmp 3) rfl w.heap.size 0 rfl 115 _ _ _ [.int .u64 n, .int .i64 side, .int .i64 used] BOX3.out Try.underlying115 rfl size115 (fun q v hq => by rw [Nat.zero_add, List.getElem?_toArray]; exact hq) ?_))
          | ((with_reducible show wpList _ _ _ (Oper.mk _ (.store 115 _ _) _ _ _ _ :: _) _ _); go_must (refine wpList_store_mid rfl rfl 115 (.tmp 33) (.tmp 31) rfl jb 1 rfl [.int .u64 n, .int .i64 side, .int .i64 used] rfl 117 _ H3.out.blk size115 (by simp) (by simp [Value.oneCell']) ?_); intro w4 hn4 hg4 hs4; have HN4 := Lib.hid hn4; have HG4 := Lib.hid hg4; clear hn4 hg4 hs4))
        go_ret
        have hr := HT.out
        simp only [if_true] at hr
        rw [hr]
        have f4 : Fr w3 w4 [jb] := (Fr.refl w3 _).grown HG4.out (fun k hk => by cases hk; exact .inl (by simp))
        exact ⟨rfl, H3.out.own f4 HN4.out rfl, F3.out.trans (f4.mono (by simp))⟩
      · have hkn : (k2 == 0) = false := beq_false_of_ne hk
        have hkn2 : (k2 != 0) = true := by simp [bne, hkn]
        have c6 : w3.cell? ⟨jb, 6, none⟩ = some (.bool J.broken) := cell_of_row _ _ _ _ _ _ H3.out.blk
        have f6 : w3.frozen? ⟨jb, 6, none⟩ = false := frozen_of_row _ _ _ _ _ H3.out.blk
        go_wp2
        go_ret
        have hr := HT.out
        simp only [if_true] at hr
        rw [if_neg hk] at hr
        rw [hr]
        have f4 := jset6 w3 jb true
        exact ⟨rfl, H3.out.own f4 (jset6_heap H3.out.blk true) rfl, F3.out.trans (f4.mono (by simp))⟩
    · have hkn : (k1 == 0) = false := beq_false_of_ne hk
      have hkn2 : (k1 != 0) = true := by simp [bne, hkn]
      have c6 : w2.cell? ⟨jb, 6, none⟩ = some (.bool J.broken) := cell_of_row _ _ _ _ _ _ H2.out.blk
      have f6 : w2.frozen? ⟨jb, 6, none⟩ = false := frozen_of_row _ _ _ _ _ H2.out.blk
      go_wp2
      go_ret
      have hr := HT.out
      rw [if_neg hk] at hr
      rw [hr]
      have f4 := jset6 w2 jb true
      exact ⟨rfl, H2.out.own f4 (jset6_heap H2.out.blk true) rfl, F2.out.trans (f4.mono (by simp))⟩
end Go.Proofs.Yteggldplmbegfaa
