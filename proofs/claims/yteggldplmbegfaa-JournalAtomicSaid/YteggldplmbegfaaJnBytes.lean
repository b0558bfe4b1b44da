/- A tally's bytes, walked. -/
import Derived.Test.YteggldplmbegfaaConcat
import Derived.Test.YteggldplmbegfaaB2
import Derived.Lib.SlBytesConst
set_option linter.unusedVariables false
set_option linter.unusedSimpArgs false
namespace Go.Proofs.Yteggldplmbegfaa
open Go.RowKit

theorem six_recs {w : World} {B : Nat} {vs : List Value} {rs : List (List UInt8)} (hB : w.heap[B]? = some (.cells vs.toArray 33 (0, 0))) (hl : vs.length = rs.length) (h : ∀ (i : Nat) (r : List UInt8), rs[i]? = some r → r.length ≤ 9223372036854775807 ∧ ∃ x Te, vs[i]? = some x ∧ RowIs w x Te 1 r.length (bv r)) :
    RecsIs w (.slice (some ⟨B, 0, none⟩) rs.length rs.length) rs := by
  refine ⟨33, vs, ⟨by rw [hl, Nat.mul_one], .inr ⟨B, 0, _, _, _, rfl, Nat.le_refl _, hB, fun j x hj => by rw [Nat.zero_add, List.getElem?_toArray]; exact hj⟩⟩, h⟩
theorem word_cells : (#[.int .u8 119, .int .u8 97, .int .u8 114, .int .u8 100, .int .u8 115, .int .u8 104, .int .u8 105, .int .u8 112] : Array Value) = (bv word8).toArray := rfl
theorem hbs8 (w : World) : (Instr.buildSlice 33 8 #[(0, .int .u8 119), (1, .int .u8 97), (2, .int .u8 114), (3, .int .u8 100), (4, .int .u8 115), (5, .int .u8 104), (6, .int .u8 105), (7, .int .u8 112)]).run Try.prog w =
    .ok (.slice (some ⟨w.heap.size, 0, none⟩) 8 8) (w.alloc (.cells #[.int .u8 119, .int .u8 97, .int .u8 114, .int .u8 100, .int .u8 115, .int .u8 104, .int .u8 105, .int .u8 112] 5 (0, 0))) := by kernel_rfl
theorem hbs6 (w : World) (A1 A2 A3 A4 A5 A6 : Option Addr) (n1 n2 n3 n4 n5 n6 c1 c2 c3 c4 c5 c6 : Nat) :
    (Instr.buildSlice 48 6 #[(0, .slice A1 n1 c1), (1, .slice A2 n2 c2), (2, .slice A3 n3 c3), (3, .slice A4 n4 c4), (4, .slice A5 n5 c5), (5, .slice A6 n6 c6)]).run Try.prog w =
    .ok (.slice (some ⟨w.heap.size, 0, none⟩) 6 6) (w.alloc (.cells #[.slice A1 n1 c1, .slice A2 n2 c2, .slice A3 n3 c3, .slice A4 n4 c4, .slice A5 n5 c5, .slice A6 n6 c6] 33 (0, 0))) := by kernel_rfl
theorem six_world (w2 : World) (g2 g3 c2 c3 n side used : Nat) {base : Nat} (h2 : w2.ownsRow base 5 1 (.slice (some ⟨g2, 0, none⟩) 8 c2) 8 (bv (be 8 n)))
    (h3 : w2.ownsRow base 5 1 (.slice (some ⟨g3, 0, none⟩) 16 c3) 16 (bv (be 8 side ++ be 8 used))) :
    ∃ wf, wf = (((w2.alloc (.cells #[.int .u8 119, .int .u8 97, .int .u8 114, .int .u8 100, .int .u8 115, .int .u8 104, .int .u8 105, .int .u8 112] 5 (8, 9))).alloc (.cells #[.int .u8 119, .int .u8 97, .int .u8 114, .int .u8 100, .int .u8 115, .int .u8 104, .int .u8 105, .int .u8 112] 5 (8, 9))).alloc (.cells #[.slice (some ⟨w2.heap.size, 0, none⟩) 8 8, .slice (some ⟨g2, 0, none⟩) 8 c2, .slice (some ⟨g3, 0, none⟩) 16 c3, .slice (some ⟨w2.heap.size + 1, 0, none⟩) 8 8, .slice (some ⟨g3, 0, none⟩) 16 c3, .slice (some ⟨g2, 0, none⟩) 8 c2] 33 (0, 0))) ∧
      RecsIs wf (.slice (some ⟨w2.heap.size + 1 + 1, 0, none⟩) 6 6) [word8, be 8 n, be 8 side ++ be 8 used, word8, be 8 side ++ be 8 used, be 8 n] ∧ Below w2.heap.size w2 wf := by
  have b1 : Below w2.heap.size w2 (w2.alloc (.cells #[.int .u8 119, .int .u8 97, .int .u8 114, .int .u8 100, .int .u8 115, .int .u8 104, .int .u8 105, .int .u8 112] 5 (8, 9))) := (Below.refl _ _).alloc (Nat.le_refl _) _
  have b2 : Below w2.heap.size w2 ((w2.alloc (.cells #[.int .u8 119, .int .u8 97, .int .u8 114, .int .u8 100, .int .u8 115, .int .u8 104, .int .u8 105, .int .u8 112] 5 (8, 9))).alloc (.cells #[.int .u8 119, .int .u8 97, .int .u8 114, .int .u8 100, .int .u8 115, .int .u8 104, .int .u8 105, .int .u8 112] 5 (8, 9))) := b1.alloc (by simp) _
  refine ⟨_, rfl, six_recs (B := w2.heap.size + 1 + 1) (vs := [.slice (some ⟨w2.heap.size, 0, none⟩) 8 8, .slice (some ⟨g2, 0, none⟩) 8 c2, .slice (some ⟨g3, 0, none⟩) 16 c3, .slice (some ⟨w2.heap.size + 1, 0, none⟩) 8 8, .slice (some ⟨g3, 0, none⟩) 16 c3, .slice (some ⟨g2, 0, none⟩) 8 c2]) ?_ rfl ?_, b2.alloc (by simp; omega) _⟩
  · have := heap_alloc_new ((w2.alloc (.cells #[.int .u8 119, .int .u8 97, .int .u8 114, .int .u8 100, .int .u8 115, .int .u8 104, .int .u8 105, .int .u8 112] 5 (8, 9))).alloc (.cells #[.int .u8 119, .int .u8 97, .int .u8 114, .int .u8 100, .int .u8 115, .int .u8 104, .int .u8 105, .int .u8 112] 5 (8, 9))) (.cells #[.slice (some ⟨w2.heap.size, 0, none⟩) 8 8, .slice (some ⟨g2, 0, none⟩) 8 c2, .slice (some ⟨g3, 0, none⟩) 16 c3, .slice (some ⟨w2.heap.size + 1, 0, none⟩) 8 8, .slice (some ⟨g3, 0, none⟩) 16 c3, .slice (some ⟨g2, 0, none⟩) 8 c2] 33 (0, 0))
    simpa using this
  · have bb : ∀ o : Obj, Below w2.heap.size w2 (((w2.alloc (.cells #[.int .u8 119, .int .u8 97, .int .u8 114, .int .u8 100, .int .u8 115, .int .u8 104, .int .u8 105, .int .u8 112] 5 (8, 9))).alloc (.cells #[.int .u8 119, .int .u8 97, .int .u8 114, .int .u8 100, .int .u8 115, .int .u8 104, .int .u8 105, .int .u8 112] 5 (8, 9))).alloc o) := fun o => b2.alloc (by simp; omega) _
    have hC1 : ∀ o : Obj, (((w2.alloc (.cells #[.int .u8 119, .int .u8 97, .int .u8 114, .int .u8 100, .int .u8 115, .int .u8 104, .int .u8 105, .int .u8 112] 5 (8, 9))).alloc (.cells #[.int .u8 119, .int .u8 97, .int .u8 114, .int .u8 100, .int .u8 115, .int .u8 104, .int .u8 105, .int .u8 112] 5 (8, 9))).alloc o).heap[w2.heap.size]? = some (.cells (bv word8).toArray 5 (8, 9)) := fun o => by
      rw [heap_alloc_old _ _ (by simp; omega), heap_alloc_old _ _ (by simp), heap_alloc_new]; rfl
    have hC2 : ∀ o : Obj, (((w2.alloc (.cells #[.int .u8 119, .int .u8 97, .int .u8 114, .int .u8 100, .int .u8 115, .int .u8 104, .int .u8 105, .int .u8 112] 5 (8, 9))).alloc (.cells #[.int .u8 119, .int .u8 97, .int .u8 114, .int .u8 100, .int .u8 115, .int .u8 104, .int .u8 105, .int .u8 112] 5 (8, 9))).alloc o).heap[w2.heap.size + 1]? = some (.cells (bv word8).toArray 5 (8, 9)) := fun o => by
      rw [heap_alloc_old _ _ (by simp)]
      have := heap_alloc_new (w2.alloc (.cells #[.int .u8 119, .int .u8 97, .int .u8 114, .int .u8 100, .int .u8 115, .int .u8 104, .int .u8 105, .int .u8 112] 5 (8, 9))) (.cells #[.int .u8 119, .int .u8 97, .int .u8 114, .int .u8 100, .int .u8 115, .int .u8 104, .int .u8 105, .int .u8 112] 5 (8, 9))
      rw [World.size_alloc] at this
      rw [this]; rfl
    have q2 := RowIs.of_owns h2
    have q3 := RowIs.of_owns h3
    intro i r hr
    match i, hr with
    | 0, hr => simp only [List.getElem?_cons_zero, Option.some.injEq] at hr; subst hr; exact ⟨by rw [word8_length]; omega, _, _, rfl, row_at (hC1 _) rfl (Nat.le_refl _)⟩
    | 1, hr => simp only [List.getElem?_cons_succ, List.getElem?_cons_zero, Option.some.injEq] at hr; subst hr; exact ⟨by rw [be_length]; omega, _, _, rfl, by rw [be_length]; exact q2.below (bb _)⟩
    | 2, hr => simp only [List.getElem?_cons_succ, List.getElem?_cons_zero, Option.some.injEq] at hr; subst hr; exact ⟨by rw [List.length_append, be_length, be_length]; omega, _, _, rfl, by rw [List.length_append, be_length, be_length]; exact q3.below (bb _)⟩
    | 3, hr => simp only [List.getElem?_cons_succ, List.getElem?_cons_zero, Option.some.injEq] at hr; subst hr; exact ⟨by rw [word8_length]; omega, _, _, rfl, row_at (hC2 _) rfl (Nat.le_refl _)⟩
    | 4, hr => simp only [List.getElem?_cons_succ, List.getElem?_cons_zero, Option.some.injEq] at hr; subst hr; exact ⟨by rw [List.length_append, be_length, be_length]; omega, _, _, rfl, by rw [List.length_append, be_length, be_length]; exact q3.below (bb _)⟩
    | 5, hr => simp only [List.getElem?_cons_succ, List.getElem?_cons_zero, Option.some.injEq] at hr; subst hr; exact ⟨by rw [be_length]; omega, _, _, rfl, by rw [be_length]; exact q2.below (bb _)⟩
    | i + 6, hr => simp at hr
theorem parts_flat (n side used : Nat) : [word8, be 8 n, be 8 side ++ be 8 used, word8, be 8 side ++ be 8 used, be 8 n].flatten ++ List.replicate 192 0 = tallyB n side used := by
  simp only [tallyB, List.flatten_cons, List.flatten_nil, List.append_nil, List.append_assoc]
set_option maxRecDepth 20000 in
set_option maxHeartbeats 1000000 in
theorem jbytes_any (w : World) (n side used : Nat) (hn : n < 18446744073709551616) (hs : side ≤ 1) (hu : used ≤ 1000000000) :
    Calls Try.prog 88 #[.agg #[.int .u64 n, .int .i64 side, .int .i64 used]] w fun e w' => ∃ v, e = .returned v ∧ RowIs w' v 5 1 256 (bv (tallyB n side used)) ∧ Below w.heap.size w w' := by
  have hbox := heap_alloc_new w (.cells #[.int .u64 n, .int .i64 side, .int .i64 used] 115 (0, 0))
  have hgb := World.grownBy_alloc w (.cells #[.int .u64 n, .int .i64 side, .int .i64 used] 115 (0, 0)) none
  obtain ⟨w1, hw1⟩ : ∃ w1, w1 = w.alloc (.cells #[.int .u64 n, .int .i64 side, .int .i64 used] 115 (0, 0)) := ⟨_, rfl⟩
  rw [← hw1] at hbox hgb
  have B1 := Lib.hid ((Below.refl w.heap.size w).grown hgb (Nat.le_refl _) (by simp))
  have HBOX := Lib.hid hbox
  have hsz : w.heap.size < w1.heap.size := lt_of_heap hbox
  clear hgb hbox
  have es : IntKind.u64.wrap (side : Int) = (side : Int) := wraps_u64 _ (by omega) (by omega)
  have eu : IntKind.u64.wrap (used : Int) = (used : Int) := wraps_u64 _ (by omega) (by omega)
  go_enter Try.func88, Try.ntmps88
  go_wp2_with fail
  rw [← hw1]
  clear hw1
  refine wp_region_grows 11 (by kernel_rfl) (by kernel_rfl) (fun q v w' => match q with
    | 0 => v = .pointer (some ⟨w.heap.size, 0, none⟩)
    | 1 => v = .int .u64 n
    | 2 => w'.ownsRow w1.heap.size 5 1 v 8 (bv (be 8 n))
    | 3 => v = .pointer (some ⟨w.heap.size, 1, none⟩)
    | 4 => v = .int .i64 side
    | 5 => v = .int .u64 side
    | 6 => w'.ownsRow w1.heap.size 5 1 v 8 (bv (be 8 side))
    | 7 => v = .pointer (some ⟨w.heap.size, 2, none⟩)
    | 8 => v = .int .i64 used
    | 9 => v = .int .u64 used
    | 10 => RowIs w' v 5 1 8 (bv (be 8 used))
    | _ => True) ?hV ?hstep ?hfin
  case hV =>
    intro q v w w' hv hb
    match q, hv with
    | 0, hv => exact hv
    | 1, hv => exact hv
    | 2, hv => exact owns_below hv hb
    | 3, hv => exact hv
    | 4, hv => exact hv
    | 5, hv => exact hv
    | 6, hv => exact owns_below hv hb
    | 7, hv => exact hv
    | 8, hv => exact hv
    | 9, hv => exact hv
    | 10, hv => exact hv.below hb
    | q + 11, hv => trivial
  case hstep =>
    simp (maxSteps := 4000000) only [List.take_succ_cons, List.take_zero, stepsAll, and_true, GrowStep, Oper.wpG, fillFrom, Nat.zero_add, Nat.reduceAdd, if_true, Act.put, List.setIfInBounds_toArray, List.set_cons_succ, List.set_cons_zero]
    refine ⟨?_, ?_, ?_, ?_, ?_, ?_, ?_, ?_, ?_, ?_, ?_⟩
    all_goals
      intro vs wx hbx hp K hK
    · go_step
      exact hK _ _ (Below.refl _ _) rfl
    · have v0 : (vs 0) = .pointer (some ⟨w.heap.size, 0, none⟩) := hp 0 (by decide +kernel)
      have c0 : wx.cell? ⟨w.heap.size, 0, none⟩ = some (.int .u64 n) := cell_of_row _ _ _ _ _ _ ((hbx.block _ hsz).trans HBOX.out)
      go_step
      exact hK _ _ (Below.refl _ _) rfl
    · have v1 : (vs 1) = .int .u64 n := hp 1 (by decide +kernel)
      go_step
      refine (wEight _ n).mono ?_
      rintro e wy ⟨v, rfl, h1, h2, h3⟩
      exact hK _ _ h3 (owns_lower h2 hbx.size)
    · go_step
      exact hK _ _ (Below.refl _ _) rfl
    · have v3 : (vs 3) = .pointer (some ⟨w.heap.size, 1, none⟩) := hp 3 (by decide +kernel)
      have c0 : wx.cell? ⟨w.heap.size, 1, none⟩ = some (.int .i64 side) := cell_of_row _ _ _ _ _ _ ((hbx.block _ hsz).trans HBOX.out)
      go_step
      exact hK _ _ (Below.refl _ _) rfl
    · have v4 : (vs 4) = .int .i64 side := hp 4 (by decide +kernel)
      go_step
      exact hK _ _ (Below.refl _ _) rfl
    · have v5 : (vs 5) = .int .u64 side := hp 5 (by decide +kernel)
      go_step
      refine (wEight _ side).mono ?_
      rintro e wy ⟨v, rfl, h1, h2, h3⟩
      exact hK _ _ h3 (owns_lower h2 hbx.size)
    · go_step
      exact hK _ _ (Below.refl _ _) rfl
    · have v7 : (vs 7) = .pointer (some ⟨w.heap.size, 2, none⟩) := hp 7 (by decide +kernel)
      have c0 : wx.cell? ⟨w.heap.size, 2, none⟩ = some (.int .i64 used) := cell_of_row _ _ _ _ _ _ ((hbx.block _ hsz).trans HBOX.out)
      go_step
      exact hK _ _ (Below.refl _ _) rfl
    · have v8 : (vs 8) = .int .i64 used := hp 8 (by decide +kernel)
      go_step
      exact hK _ _ (Below.refl _ _) rfl
    · have v9 : (vs 9) = .int .u64 used := hp 9 (by decide +kernel)
      go_step
      refine (wEight _ used).mono ?_
      rintro e wy ⟨v, rfl, h1, h2, h3⟩
      exact hK _ _ h3 (h1)
  case hfin =>
    intro vs wx hbx hv
    have o2 : wx.ownsRow w1.heap.size 5 1 (vs 2) 8 (bv (be 8 n)) := hv 2 (by omega)
    have o6 : wx.ownsRow w1.heap.size 5 1 (vs 6) 8 (bv (be 8 side)) := hv 6 (by omega)
    have r10 : RowIs wx (vs 10) 5 1 8 (bv (be 8 used)) := hv 10 (by omega)
    clear hv
    have HO2 := Lib.hid o2
    have HO6 := Lib.hid (show wx.ownsRow w1.heap.size 5 1 (vs 6) (be 8 side).length (bv (be 8 side)) by rw [be_length]; exact o6)
    have HR10 := Lib.hid (show RowIs wx (vs 10) 5 1 (be 8 used).length (bv (be 8 used)) by rw [be_length]; exact r10)
    have BX := Lib.hid (B1.out.trans (hbx.mono B1.out.size))
    have SX := Lib.hid hbx.size
    clear o2 o6 r10 hbx B1 HBOX
    simp (maxSteps := 4000000) only [List.take_succ_cons, List.take_zero, List.drop_succ_cons, List.drop_zero, fillFrom, Nat.zero_add, Nat.reduceAdd, if_true, Act.put, List.setIfInBounds_toArray, List.set_cons_succ, List.set_cons_zero]
    go_upto_region 2 with (at_builtin; go_must (refine wpList_appk _ rfl (.tmp 11) (.tmp 15) rfl w1.heap.size (vs 6) (be 8 side) rfl HO6.out (vs 10) 5 (be 8 used) rfl HR10.out (by rw [be_length, be_length]; omega) SX.out ?_); intro v' w2 ho2 hg2 hk2; have HB2 := Lib.hid (below_app BX.out HO6.out (Nat.le_of_lt hsz) hg2 BX.out.size); have HREST := Lib.hid ho2; have HN := Lib.hid (owns_beside HO2.out (by have h := HO6.out; rw [be_length] at h; exact h) hg2 (by rw [be_length] at hk2; exact hk2)); obtain ⟨g3, c3, e3, _⟩ := owns_some ho2 (by rw [List.length_append, be_length, be_length]; omega); rw [List.length_append, be_length, be_length] at e3; obtain ⟨g2, c2, e2, _⟩ := owns_some HN.out (by omega); have E2 := Lib.hid e2; have E3 := Lib.hid e3; clear ho2 hg2 hk2 e2 e3)
    have e2 := E2.out
    have e3 := E3.out
    have kc1 := Lib.run_convert_bytes_const (P := Try.prog) w2 33 5 #[.int .u8 119, .int .u8 97, .int .u8 114, .int .u8 100, .int .u8 115, .int .u8 104, .int .u8 105, .int .u8 112] 8 8 Try.underlying33 Try.underlying5
    have kc2 := Lib.run_convert_bytes_const (P := Try.prog) (w2.alloc (.cells #[.int .u8 119, .int .u8 97, .int .u8 114, .int .u8 100, .int .u8 115, .int .u8 104, .int .u8 105, .int .u8 112] 5 (8, 9))) 33 5 #[.int .u8 119, .int .u8 97, .int .u8 114, .int .u8 100, .int .u8 115, .int .u8 104, .int .u8 105, .int .u8 112] 8 8 Try.underlying33 Try.underlying5
    simp only [World.size_alloc, List.size_toArray, List.length_cons, List.length_nil, Nat.reduceAdd] at kc1 kc2
    go_wp2_with fail
    have hE2 := E2.out
    have hE3 := E3.out
    clear kc1 kc2 e2 e3
    have hn2 : w2.ownsRow w1.heap.size 5 1 (.slice (some ⟨g2, 0, none⟩) 8 c2) 8 (bv (be 8 n)) := by rw [← hE2]; exact HN.out
    have hr2 : w2.ownsRow w1.heap.size 5 1 (.slice (some ⟨g3, 0, none⟩) 16 c3) 16 (bv (be 8 side ++ be 8 used)) := by
      have h := HREST.out
      rw [List.length_append, be_length, be_length] at h
      rw [← hE3]
      exact h
    obtain ⟨wf, hwf, hrec, hbf⟩ := six_world w2 g2 g3 c2 c3 n side used hn2 hr2
    rw [← hwf]
    have BF := Lib.hid (HB2.out.trans (hbf.mono HB2.out.size))
    have HREC := Lib.hid hrec
    clear hwf hrec hbf hn2 hr2 hE2 hE3
    refine (Concat_any wf _ _ HREC.out (by simp) ?_).mono ?_
    · simp only [List.flatten_cons, List.flatten_nil, List.length_append, List.length_nil, be_length, word8_length]; omega
    rintro e w4 ⟨v4, rfl, ho4, hb4⟩
    have B4 := Lib.hid (BF.out.trans (hb4.mono BF.out.size))
    have HO4 := Lib.hid ho4
    have S4 := Lib.hid hb4.size
    have SF := Lib.hid BF.out.size
    clear ho4 hb4
    go_wp2_with (at_builtin; go_must (refine wpList_app0 _ rfl (.tmp 26) (.const (.int .i64 192)) rfl wf.heap.size v4 _ rfl HO4.out .i64 192 rfl (by omega) (by simp only [List.flatten_cons, List.flatten_nil, List.length_append, List.length_nil, be_length, word8_length]; omega) S4.out ?_); intro v5 w5 ho5 hg5; have HB5 := Lib.hid (below_app B4.out HO4.out SF.out hg5 B4.out.size); have HO5 := Lib.hid ho5; clear ho5 hg5)
    go_ret
    have hf := HO5.out
    rw [parts_flat] at hf
    have hf2 := RowIs.of_owns hf
    rw [tallyB_length] at hf2
    exact ⟨v5, rfl, hf2, HB5.out⟩
end Go.Proofs.Yteggldplmbegfaa
