/- LAYER 3's LAWS: 'lives', walked. -/
import Derived.Test.YteggldplmbegfaaL3a
import Derived.Test.YteggldplmbegfaaDev10
set_option linter.unusedVariables false
set_option linter.unusedSimpArgs false
namespace Go.Proofs.Yteggldplmbegfaa
open Go.RowKit

theorem wFull (w : World) (n : Int) (c : UInt8) (hn : n = c.toNat) (s : ByteArray) :
    Calls Try.prog 16 #[.int .u8 n, .string s] w fun e w' => ∃ g, e = .returned (.slice (some ⟨g, 0, none⟩) 256 256) ∧
      w'.heap[g]? = some (.cells (bv (fullB c s.data.toList)).toArray 5 (0, 0)) ∧ w.heap.size ≤ g ∧ Below w.heap.size w w' := by
  subst hn
  exact l3full_any w c s

set_option maxRecDepth 20000 in
set_option maxHeartbeats 1000000 in
theorem l3lives_any (w : World) : Calls Try.prog 13 #[] w fun e w' => e = .returned (.bool true) ∧ Below w.heap.size w w' := by
  obtain ⟨x, hx⟩ : ∃ x, x = fullB 120 [] := ⟨_, rfl⟩
  obtain ⟨y, hy⟩ : ∃ y, y = fullB 121 [] := ⟨_, rfl⟩
  have hxl : x.length = 256 := by rw [hx]; exact fullB_length _ _
  have hyl : y.length = 256 := by rw [hy]; exact fullB_length _ _
  go_enter Try.func13, Try.ntmps13
  go_wp2_with fail
  refine (wNew w 2 2 rfl (by omega) (by omega)).mono ?_
  rintro e w1 ⟨b, bs, rfl, hd, hb1, hb2, hbel⟩
  have F1 := Lib.hid (Fr.below_iff.2 hbel)
  have HX := Lib.hid hx
  have HY := Lib.hid hy
  clear hx hy hbel
  go_wp2_with fail
  refine (wFull _ 120 120 rfl _).mono ?_
  rintro e w2 ⟨g, rfl, hg, hg1, hbel⟩
  rw [str_toListE, ← HX.out] at hg
  have D1 := hd.below hbel
  have F2 := Lib.hid (F1.out.below hbel)
  have hr := row_at hg hxl (Nat.le_refl _)
  clear hbel hd F1
  go_wp2_with fail
  have e3 := Dev.write_calm (D := Dev.fresh 2) (i := 1) (b := x) (by simp [Dev.fresh]) rfl (by omega) (by simp [Dev.fresh]) hxl
  have ok3 := Dev.write_ok (Dev.fresh_ok 2 (by omega) (by omega)) (by simp [Dev.fresh]) 1 x
  have hcc := wWrite _ b bs _ D1 (Dev.fresh_ok 2 (by omega) (by omega)) (by simp [Dev.fresh]) 1 5 _ x hr hxl
  rw [e3] at ok3 hcc
  simp only at hcc
  refine hcc.mono ?_
  clear hcc
  rintro e w3 ⟨rfl, hd3, hf3⟩
  have F3 := Lib.hid (F2.out.then hf3 (by simp; omega))
  clear hf3 hr hg F2 e3
  simp only at hd3 ok3
  obtain ⟨D3, hD3⟩ : ∃ D3 : Dev, D3 = { Dev.fresh 2 with loose := (Dev.fresh 2).loose ++ [((1 : Int).toNat, x)], changes := (Dev.fresh 2).changes + 1 } := ⟨_, rfl⟩
  rw [← hD3] at hd3 ok3
  have hD3' : D3 = { sure := [zsec, zsec], loose := [(1, x)], left := -1, kept := [], torn := 0, half := 0, changes := 1, off := false } := by rw [hD3]; rfl
  have H3 := Lib.hid hD3'
  clear hD3 hD3'
  go_wp2_with fail
  have e4 := Dev.barrier_calm (D := D3) (by rw [H3.out]; simp) (by rw [H3.out])
  have ok4 := Dev.barrier_ok ok3 (by rw [H3.out]; simp)
  have hcc := wBarrier _ b bs _ hd3 ok3 (by rw [H3.out]; simp)
  rw [e4] at ok4 hcc
  simp only at hcc
  refine hcc.mono ?_
  clear hcc
  rintro e w4 ⟨rfl, hd4, hf4⟩
  have F4 := Lib.hid (F3.out.then hf4 (by simp; omega))
  clear hf4 F3 e4 hd3 ok3
  simp only at hd4 ok4
  obtain ⟨D4, hD4⟩ : ∃ D4 : Dev, D4 = { D3 with sure := Dev.settle D3.loose D3.sure, loose := [], changes := D3.changes + 1 } := ⟨_, rfl⟩
  rw [← hD4] at hd4 ok4
  have hD4' : D4 = { sure := [zsec, x], loose := [], left := -1, kept := [], torn := 0, half := 0, changes := 2, off := false } := by rw [hD4, H3.out]; rfl
  have H4 := Lib.hid hD4'
  clear hD4 hD4' H3
  go_wp2_with fail
  refine (wFull _ 121 121 rfl _).mono ?_
  rintro e w5 ⟨g5, rfl, hg5, hg51, hbel5⟩
  rw [str_toListE, ← HY.out] at hg5
  have D5 := hd4.below hbel5
  have F5 := Lib.hid (F4.out.below hbel5)
  have hr := row_at hg5 hyl (Nat.le_refl _)
  clear hbel5 hd4 F4
  go_wp2_with fail
  have e6 := Dev.write_calm (D := D4) (i := 1) (b := y) (by rw [H4.out]; simp) (by rw [H4.out]) (by omega) (by rw [H4.out]; simp) hyl
  have ok6 := Dev.write_ok ok4 (by rw [H4.out]; simp) 1 y
  have hcc := wWrite _ b bs _ D5 ok4 (by rw [H4.out]; simp) 1 5 _ y hr hyl
  rw [e6] at ok6 hcc
  simp only at hcc
  refine hcc.mono ?_
  clear hcc
  rintro e w6 ⟨rfl, hd6, hf6⟩
  have F6 := Lib.hid (F5.out.then hf6 (by simp; omega))
  clear hf6 hr hg5 F5 e6 D5
  simp only at hd6 ok6
  obtain ⟨D6, hD6⟩ : ∃ D6 : Dev, D6 = { D4 with loose := D4.loose ++ [((1 : Int).toNat, y)], changes := D4.changes + 1 } := ⟨_, rfl⟩
  rw [← hD6] at hd6 ok6
  have hD6' : D6 = { sure := [zsec, x], loose := [(1, y)], left := -1, kept := [], torn := 0, half := 0, changes := 3, off := false } := by rw [hD6, H4.out]; rfl
  have H6 := Lib.hid hD6'
  clear hD6 hD6' H4
  go_wp2_with fail
  refine (wCut _ b bs _ hd6 ok6 (.slice none 0 0) [] 0 2 3 (RowIs.nil _ _ _ _ _) (.inl rfl) (by simp)).mono ?_
  have ok7 := Dev.cut_ok ok6 [] 0 2
  rintro e w7 ⟨rfl, hd7, hf7⟩
  have F7 := Lib.hid (F6.out.then hf7 (by simp; omega))
  clear hf7 F6 hd6 ok6
  obtain ⟨D7, hD7⟩ : ∃ D7 : Dev, D7 = D6.cut [] 0 2 := ⟨_, rfl⟩
  rw [← hD7] at hd7 ok7
  have hD7' : D7 = { sure := [zsec, y.take 2 ++ x.drop 2], loose := [], left := -1, kept := [], torn := 0, half := 0, changes := 3, off := true } := by rw [hD7, H6.out]; rfl
  have H7 := Lib.hid hD7'
  clear hD7 hD7' H6
  go_wp2_with fail
  refine (wOff _ b bs _ hd7).mono ?_
  rintro e w' ⟨rfl, rfl⟩
  rw [show D7.off = true by rw [H7.out]]
  go_wp2_with fail
  refine (wOn _ b bs _ hd7).mono ?_
  rw [show D7.off = true by rw [H7.out]]
  rintro e w8 ⟨rfl, hd8, hf8⟩
  have F8 := Lib.hid (F7.out.then hf8 (by simp; omega))
  have ok8 : ({ D7 with off := false } : Dev).Ok := ⟨⟨ok7.wf.lo, ok7.wf.hi, ok7.wf.full, ok7.wf.loose, ok7.wf.left, ok7.wf.torn, ok7.wf.half, ok7.wf.many, ok7.wf.changes⟩, ok7.many, ok7.keptb⟩
  clear hf8 F7 hd7 ok7
  obtain ⟨D8, hD8⟩ : ∃ D8 : Dev, D8 = { D7 with off := false } := ⟨_, rfl⟩
  rw [← hD8] at hd8 ok8
  have hD8' : D8 = { sure := [zsec, y.take 2 ++ x.drop 2], loose := [], left := -1, kept := [], torn := 0, half := 0, changes := 3, off := false } := by rw [hD8, H7.out]
  have hm8 : D8.may 1 = 0 := by
    rw [hD8']
    first | done | rfl
  have hat : D8.at_ 1 = y.take 2 ++ x.drop 2 := by
    rw [hD8']
    first | done | rfl
  clear hD8 hD8' H7
  go_wp2_with fail
  refine (wRead_yes _ b bs _ hd8 ok8 1 hm8).mono ?_
  rintro e w9 ⟨g9, rfl, hg9, hg91, hbel9⟩
  rw [hat] at hg9
  have F9 := Lib.hid (F8.out.below hbel9)
  clear hbel9 F8 hd8 ok8 hm8 hat
  go_wp2_with fail
  obtain ⟨z, hz⟩ : ∃ z, z = y.take 2 ++ x.drop 2 := ⟨_, rfl⟩
  rw [← hz] at hg9
  have hzl : z.length = 256 := by rw [hz]; simp [hxl, hyl]
  have hzf : fullB 120 [121, 121] = z := by rw [hz, HX.out, HY.out]; decide +kernel
  have HZ := Lib.hid hzf
  have hr9 := row_at hg9 hzl (Nat.le_refl _)
  have hF : Fr w w9 [] := F9.out
  clear hz hzf HX HY hg91 hg1 hg51 F9
  refine wp_region_grows 9 (by kernel_rfl) (by kernel_rfl) (fun q v w' => match q with
    | 0 => v = .int .i64 0 | 1 => v = .bool true | 2 => v = .bool true | 3 => v = .slice (some ⟨g9, 0, none⟩) 256 256 | 4 => v = .string (str z)
    | 5 => ∃ g, v = .slice (some ⟨g, 0, none⟩) 256 256 ∧ w'.heap[g]? = some (.cells (bv z).toArray 5 (0, 0))
    | 6 => v = .string (str z) | 7 => v = .bool true | 8 => v = .bool true | _ => True) ?hV ?hstep ?hfin
  case hV =>
    intro q v w w' hv hb
    match q, hv with
    | 0, hv => exact hv
    | 1, hv => exact hv
    | 2, hv => exact hv
    | 3, hv => exact hv
    | 4, hv => exact hv
    | 5, ⟨g, h1, h2⟩ => exact ⟨g, h1, (hb.block g (lt_of_heap h2)).trans h2⟩
    | 6, hv => exact hv
    | 7, hv => exact hv
    | 8, hv => exact hv
    | q + 9, hv => trivial
  case hstep =>
    simp only [List.take_succ_cons, List.take_zero, stepsAll, and_true, GrowStep, Oper.wpG, fillFrom, Nat.zero_add, Nat.reduceAdd, if_true, Act.put, List.setIfInBounds_toArray, List.set_cons_succ, List.set_cons_zero]
    refine ⟨?_, ?_, ?_, ?_, ?_, ?_, ?_, ?_, ?_⟩
    all_goals
      intro vs wx hbx hp K hK
    · go_step
      exact hK _ _ (Below.refl _ _) rfl
    · have v1 : vs 0 = _ := hp 0 (by decide +kernel)
      go_step
      exact hK _ _ (Below.refl _ _) rfl
    · have v1 : vs 1 = _ := hp 1 (by decide +kernel)
      go_step
      exact hK _ _ (Below.refl _ _) v1
    · have v2 : vs 2 = _ := hp 2 (by decide +kernel)
      rw [if_pos (by simp [yielded, v2])]
      go_step
      exact hK _ _ (Below.refl _ _) rfl
    · have v2 : vs 2 = _ := hp 2 (by decide +kernel)
      have v3 : vs 3 = _ := hp 3 (by decide +kernel)
      rw [if_pos (by simp [yielded, v2])]
      refine wp_bytes_str 33 9 5 (.tmp 50) rfl Try.underlying33 Try.underlying5 Try.underlying9 _ _ _ 109 z v3 hzl (hr9.below hbx) ?_
      exact hK _ _ (Below.refl _ _) rfl
    · have v2 : vs 2 = _ := hp 2 (by decide +kernel)
      rw [if_pos (by simp [yielded, v2])]
      go_step
      refine (wFull _ 120 120 rfl _).mono ?_
      rintro e wy ⟨g, rfl, hg, _, hbel⟩
      refine hK _ _ hbel ⟨g, rfl, ?_⟩
      rw [← HZ.out]
      exact hg
    · have v2 : vs 2 = _ := hp 2 (by decide +kernel)
      obtain ⟨g, v5, hg⟩ : ∃ g, vs 5 = .slice (some ⟨g, 0, none⟩) 256 256 ∧ wx.heap[g]? = some (.cells (bv z).toArray 5 (0, 0)) := hp 5 (by decide +kernel)
      rw [if_pos (by simp [yielded, v2])]
      refine wp_bytes_str 33 9 5 (.tmp 52) rfl Try.underlying33 Try.underlying5 Try.underlying9 _ _ _ 5 z v5 hzl (row_at hg hzl (Nat.le_refl _)) ?_
      exact hK _ _ (Below.refl _ _) rfl
    · have v2 : vs 2 = _ := hp 2 (by decide +kernel)
      have v4 : vs 4 = _ := hp 4 (by decide +kernel)
      have v6 : vs 6 = _ := hp 6 (by decide +kernel)
      rw [if_pos (by simp [yielded, v2])]
      go_step
      exact hK _ _ (Below.refl _ _) (by simp)
    · have v2 : vs 2 = _ := hp 2 (by decide +kernel)
      have v7 : vs 7 = _ := hp 7 (by decide +kernel)
      go_step
      exact hK _ _ (Below.refl _ _) rfl
  case hfin =>
    intro vs wx hbx hv
    have v8 : vs 8 = .bool true := hv 8 (by omega)
    have HF := Lib.hid (Fr.below_iff.1 (hF.below hbx))
    clear hv hF hr9
    simp only [List.take_succ_cons, List.take_zero, List.drop_succ_cons, List.drop_zero, fillFrom, Nat.zero_add, Nat.reduceAdd, if_true, Act.put, List.setIfInBounds_toArray, List.set_cons_succ, List.set_cons_zero]
    go_wp2
    go_ret
    refine ⟨?_, HF.out⟩
    show Ending.returned (vs 8) = _
    rw [v8]
end Go.Proofs.Yteggldplmbegfaa
