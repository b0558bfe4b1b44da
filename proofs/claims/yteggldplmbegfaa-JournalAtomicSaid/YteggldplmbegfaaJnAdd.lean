/- (*Journal).Add and Replace, walked. -/
import Derived.Test.YteggldplmbegfaaJnLay
import Derived.Test.YteggldplmbegfaaConcat
set_option linter.unusedVariables false
set_option linter.unusedSimpArgs false
namespace Go.Proofs.Yteggldplmbegfaa
open Go.RowKit

theorem packL_le (room : Nat) : ∀ (rs : List (List UInt8)) (out : List UInt8), (∀ r ∈ rs, r.length ≤ 65531) → out.length ≤ room + 65538 → (packL room out rs).1.length ≤ room + 65538
  | [], out, _, h => h
  | r :: rs, out, hr, h => by
    unfold packL
    split
    · simp
    · rename_i hn
      have h1 := field_len (seal_ r)
      have h2 := hr r (by simp)
      rw [seal_length] at h1
      exact packL_le room rs _ (fun x hx => hr x (by simp [hx])) (by rw [List.length_append]; omega)
theorem pack_le (rs : List (List UInt8)) (room : Nat) : (pack rs room).1.length ≤ room + 65538 := by
  unfold pack
  split
  · simp
  · rename_i hn
    refine packL_le room rs [] (fun r hr => ?_) (by simp)
    refine Nat.le_of_not_lt fun h => hn ⟨r, hr, h⟩
/-- What is asked of a journal ahead of a call that writes. -/
structure Jr.Wf (J : Jr) : Prop where
  num : J.number ≤ 4611686018427387904
  side : J.side ≤ 1
  len : J.data.length ≤ 600000
  count : 0 ≤ J.count ∧ J.count ≤ 1000000000
theorem two_recs {w : World} {g : Nat} {x y : Value} {a b : List UInt8} {T1 T2 : TypeId} (hg : w.heap[g]? = some (.cells #[x, y] 33 (0, 0))) (hx : RowIs w x T1 1 a.length (bv a)) (hy : RowIs w y T2 1 b.length (bv b)) (ha : a.length ≤ 1000000000) (hb : b.length ≤ 1000000000) :
    RecsIs w (.slice (some ⟨g, 0, none⟩) 2 2) [a, b] := by
  refine six_recs (vs := [x, y]) (rs := [a, b]) hg rfl fun i r hr => ?_
  match i, hr with
  | 0, hr => simp only [List.getElem?_cons_zero, Option.some.injEq] at hr; subst hr; exact ⟨by omega, x, T1, rfl, hx⟩
  | 1, hr => simp only [List.getElem?_cons_succ, List.getElem?_cons_zero, Option.some.injEq] at hr; subst hr; exact ⟨by omega, y, T2, rfl, hy⟩
  | i + 2, hr => simp at hr
set_option maxRecDepth 20000 in
set_option maxHeartbeats 2000000 in
theorem jAdd_any (w : World) (jb b bs : Nat) (dv : Value) (J : Jr) (D : Dev) (h : JIs w jb b bs dv J D) (hok : D.Ok) (h2 : 2 ≤ D.sure.length) (hwf : J.Wf) (hch : D.changes + 2100 ≤ 1000000000)
    (rv : Value) (rs : List (List UInt8)) (hr : RecsIs w rv rs) (hrl : rs.length ≤ 1000000) :
    Calls Try.prog 25 #[.pointer (some ⟨jb, 0, none⟩), rv] w fun e w' =>
      e = .returned (.int .i64 (J.add D rs).2.2) ∧ (∃ dv', JIs w' jb b bs dv' (J.add D rs).1 (J.add D rs).2.1) ∧ Fr w w' [jb, b, bs] := by
  have hhi := hok.wf.hi
  have hsecs : D.secs ≤ 2047 := secs_le hhi
  have hnum := hwf.num
  have hside := hwf.side
  have hdl := hwf.len
  have hcount := hwf.count
  obtain ⟨Ar, cr, rfl, hcr⟩ := hr.shape
  obtain ⟨Ad, cd, rfl⟩ := h.row.shape
  have c0 : w.cell? ⟨jb, 0, none⟩ = some (.pointer (some ⟨b, 0, none⟩)) := cell_of_row _ _ _ _ _ _ h.blk
  by_cases hbr : J.broken = true
  · have HL := Lib.hid (show J.add D rs = (J, D, 3) by unfold Jr.add; rw [if_pos hbr])
    have hbk := jBroken_any w jb b bs _ J D h
    rw [hbr] at hbk
    have HBK := Lib.hid hbk
    clear hbr hbk
    go_enter Try.func25, Try.ntmps25
    go_wp2_with fail
    refine HBK.out.mono ?_
    rintro e w' ⟨rfl, rfl⟩
    go_wp2
    go_ret
    rw [HL.out]
    exact ⟨rfl, ⟨_, h⟩, Fr.refl _ _⟩
  · skip
    have hbf : J.broken = false := by simpa using hbr
    have HBF := Lib.hid hbf
    have ew : wrap64 ((D.secs : Int) * 256) = (D.secs : Int) * 256 := by unfold wrap64; omega
    have hbk := jBroken_any w jb b bs _ J D h
    rw [hbf] at hbk
    have HBK := Lib.hid hbk
    have H := Lib.hid h
    have HR := Lib.hid hr
    clear hbr hbf hbk h hr
    go_enter Try.func25, Try.ntmps25
    go_wp2_with fail
    refine HBK.out.mono ?_
    rintro e w' ⟨rfl, rfl⟩
    go_wp2_with fail
    refine (jsectors_any w' b bs D H.out.dev h2 hhi).mono ?_
    rintro e w'' ⟨rfl, rfl⟩
    go_wp2_with fail
    rw [show ((D.secs : Int) * 256) = ((D.secs * 256 : Nat) : Int) from by omega]
    refine (wPack w'' _ rs HR.out (by omega) (D.secs * 256) (by omega)).mono ?_
    rintro e w1 ⟨pv, rfl, hp1, hb1⟩
    have hple := pack_le rs (D.secs * 256)
    obtain ⟨⟨P, kp⟩, hp⟩ : ∃ p, p = pack rs (D.secs * 256) := ⟨_, rfl⟩
    rw [← hp] at hp1 hple ⊢
    have HP := Lib.hid hp
    simp only at hp1 hple ⊢
    obtain ⟨Ap, cp, rfl⟩ := hp1.shape
    have HPR := Lib.hid hp1
    have HB1 := Lib.hid hb1
    have H1 := Lib.hid (H.out.below hb1)
    have HR1 := Lib.hid (HR.out.below hb1)
    clear hp hp1 hb1
    have hadd : J.add D rs = if kp ≠ 0 ∨ rs = [] then (J, D, kp) else J.lay D J.side J.data.length (J.data ++ P) (J.count + rs.length) := by
      unfold Jr.add
      rw [if_neg (by rw [HBF.out]; simp), ← HP.out]
    have HADD := Lib.hid hadd
    clear hadd
    by_cases hk : kp = 0
    · subst hk
      by_cases h0 : rs = []
      · have HL := Lib.hid (show J.add D rs = (J, D, 0) by rw [HADD.out, if_pos (.inr h0)])
        have hz : (((rs.length : Nat) : Int) == 0) = true := by rw [h0]; rfl
        have hz2 : rs.length = 0 := by rw [h0]; rfl
        clear HADD h0
        go_wp2
        go_ret
        rw [HL.out]
        exact ⟨rfl, ⟨_, H1.out⟩, (Fr.below_iff.2 HB1.out).mono (by simp)⟩
      · have hpos : 0 < rs.length := List.length_pos_iff.2 h0
        have HL := Lib.hid (show J.add D rs = J.lay D J.side J.data.length (J.data ++ P) (J.count + rs.length) by rw [HADD.out, if_neg (by simp [h0])])
        have hz : (((rs.length : Nat) : Int) == 0) = false := beq_false_of_ne (by omega)
        clear HADD h0
        have ec : wrap64 (J.count + (rs.length : Int)) = J.count + (rs.length : Int) := by unfold wrap64; omega
        go_upto_region 6 with (fail)
        refine wp_region_grows 25 (by kernel_rfl) (by kernel_rfl) (fun q v w' => match q with
          | 0 => v = .pointer (some ⟨jb, 0, none⟩)
          | 1 => v = .pointer (some ⟨jb, 0, none⟩)
          | 2 => v = .pointer (some ⟨jb, 0, none⟩)
          | 3 => v = .pointer (some ⟨jb, 1, none⟩)
          | 4 => v = .pointer (some ⟨jb, 2, none⟩)
          | 5 => v = .int .i64 J.side
          | 6 => v = .pointer (some ⟨jb, 0, none⟩)
          | 7 => v = .pointer (some ⟨jb, 0, none⟩)
          | 8 => v = .pointer (some ⟨jb, 4, none⟩)
          | 9 => v = .slice Ad J.data.length cd
          | 10 => v = .int .i64 J.data.length
          | 11 => v = .pointer (some ⟨jb, 0, none⟩)
          | 12 => v = .pointer (some ⟨jb, 0, none⟩)
          | 13 => v = .pointer (some ⟨jb, 4, none⟩)
          | 14 => v = .slice Ad J.data.length cd
          | 15 => v = .slice Ap P.length cp
          | 16 => ∃ g, v = .slice (some ⟨g, 0, none⟩) 2 2 ∧ w'.heap[g]? = some (.cells #[.slice Ad J.data.length cd, .slice Ap P.length cp] 33 (0, 0))
          | 17 => RowIs w' v 5 1 (J.data ++ P).length (bv (J.data ++ P))
          | 18 => v = .pointer (some ⟨jb, 0, none⟩)
          | 19 => v = .pointer (some ⟨jb, 0, none⟩)
          | 20 => v = .pointer (some ⟨jb, 5, none⟩)
          | 21 => v = .int .i64 J.count
          | 22 => v = .slice Ar rs.length cr
          | 23 => v = .int .i64 rs.length
          | 24 => v = .int .i64 (J.count + (rs.length : Int))
          | _ => True) ?hV ?hstep ?hfin
        case hV =>
          intro q v w w' hv hb
          match q, hv with
          | 0, hv => exact hv
          | 1, hv => exact hv
          | 2, hv => exact hv
          | 3, hv => exact hv
          | 4, hv => exact hv
          | 5, hv => exact hv
          | 6, hv => exact hv
          | 7, hv => exact hv
          | 8, hv => exact hv
          | 9, hv => exact hv
          | 10, hv => exact hv
          | 11, hv => exact hv
          | 12, hv => exact hv
          | 13, hv => exact hv
          | 14, hv => exact hv
          | 15, hv => exact hv
          | 16, hv => exact (by obtain ⟨g, q1, q2⟩ := hv; exact ⟨g, q1, (hb.block g (lt_of_heap q2)).trans q2⟩)
          | 17, hv => exact hv.below hb
          | 18, hv => exact hv
          | 19, hv => exact hv
          | 20, hv => exact hv
          | 21, hv => exact hv
          | 22, hv => exact hv
          | 23, hv => exact hv
          | 24, hv => exact hv
          | q + 25, hv => trivial
        case hstep =>
          simp (maxSteps := 4000000) only [List.take_succ_cons, List.take_zero, stepsAll, and_true, GrowStep, Oper.wpG, fillFrom, Nat.zero_add, Nat.reduceAdd, if_true, Act.put, List.setIfInBounds_toArray, List.set_cons_succ, List.set_cons_zero]
          refine ⟨?_, ?_, ?_, ?_, ?_, ?_, ?_, ?_, ?_, ?_, ?_, ?_, ?_, ?_, ?_, ?_, ?_, ?_, ?_, ?_, ?_, ?_, ?_, ?_, ?_⟩
          all_goals
            intro vs wx hbx hp K hK
          · go_step
            exact hK _ _ (Below.refl _ _) rfl
          · go_step
            exact hK _ _ (Below.refl _ _) rfl
          · have v1 : (vs 1) = .pointer (some ⟨jb, 0, none⟩) := hp 1 (by decide +kernel)
            go_step
            exact hK _ _ (Below.refl _ _) rfl
          · have v2 : (vs 2) = .pointer (some ⟨jb, 0, none⟩) := hp 2 (by decide +kernel)
            go_step
            exact hK _ _ (Below.refl _ _) rfl
          · have v3 : (vs 3) = .pointer (some ⟨jb, 1, none⟩) := hp 3 (by decide +kernel)
            go_step
            exact hK _ _ (Below.refl _ _) rfl
          · have v4 : (vs 4) = .pointer (some ⟨jb, 2, none⟩) := hp 4 (by decide +kernel)
            have c2 : wx.cell? ⟨jb, 2, none⟩ = some (.int .i64 J.side) := cell_of_row _ _ _ _ _ _ (H1.out.below hbx).blk
            go_step
            exact hK _ _ (Below.refl _ _) rfl
          · go_step
            exact hK _ _ (Below.refl _ _) rfl
          · have v6 : (vs 6) = .pointer (some ⟨jb, 0, none⟩) := hp 6 (by decide +kernel)
            go_step
            exact hK _ _ (Below.refl _ _) rfl
          · have v7 : (vs 7) = .pointer (some ⟨jb, 0, none⟩) := hp 7 (by decide +kernel)
            go_step
            exact hK _ _ (Below.refl _ _) rfl
          · have v8 : (vs 8) = .pointer (some ⟨jb, 4, none⟩) := hp 8 (by decide +kernel)
            have c4 : wx.cell? ⟨jb, 4, none⟩ = some (.slice Ad J.data.length cd) := cell_of_row _ _ _ _ _ _ (H1.out.below hbx).blk
            go_step
            exact hK _ _ (Below.refl _ _) rfl
          · have v9 : (vs 9) = .slice Ad J.data.length cd := hp 9 (by decide +kernel)
            go_step
            exact hK _ _ (Below.refl _ _) rfl
          · go_step
            exact hK _ _ (Below.refl _ _) rfl
          · have v11 : (vs 11) = .pointer (some ⟨jb, 0, none⟩) := hp 11 (by decide +kernel)
            go_step
            exact hK _ _ (Below.refl _ _) rfl
          · have v12 : (vs 12) = .pointer (some ⟨jb, 0, none⟩) := hp 12 (by decide +kernel)
            go_step
            exact hK _ _ (Below.refl _ _) rfl
          · have v13 : (vs 13) = .pointer (some ⟨jb, 4, none⟩) := hp 13 (by decide +kernel)
            have c4 : wx.cell? ⟨jb, 4, none⟩ = some (.slice Ad J.data.length cd) := cell_of_row _ _ _ _ _ _ (H1.out.below hbx).blk
            go_step
            exact hK _ _ (Below.refl _ _) rfl
          · go_step
            exact hK _ _ (Below.refl _ _) rfl
          · have v14 : (vs 14) = .slice Ad J.data.length cd := hp 14 (by decide +kernel)
            have v15 : (vs 15) = .slice Ap P.length cp := hp 15 (by decide +kernel)
            go_step
            exact hK _ _ ((Below.refl _ wx).alloc (Nat.le_refl _) _) ⟨_, rfl, heap_alloc_new wx _⟩
          · have v16 : ∃ g, (vs 16) = .slice (some ⟨g, 0, none⟩) 2 2 ∧ wx.heap[g]? = some (.cells #[.slice Ad J.data.length cd, .slice Ap P.length cp] 33 (0, 0)) := hp 16 (by decide +kernel)
            obtain ⟨g, q1, q2⟩ := v16
            go_step
            refine (Concat_any wx _ [J.data, P] (two_recs q2 ((H1.out.below hbx).row) (HPR.out.below hbx) (by omega) (by omega)) (by simp) (by simp only [List.flatten_cons, List.flatten_nil, List.append_nil, List.length_append]; omega)).mono ?_
            rintro e wy ⟨v', rfl, ho, hby⟩
            refine hK _ _ hby ?_
            have hq := RowIs.of_owns ho
            rw [show [J.data, P].flatten = J.data ++ P by simp] at hq
            exact hq
          · go_step
            exact hK _ _ (Below.refl _ _) rfl
          · have v18 : (vs 18) = .pointer (some ⟨jb, 0, none⟩) := hp 18 (by decide +kernel)
            go_step
            exact hK _ _ (Below.refl _ _) rfl
          · have v19 : (vs 19) = .pointer (some ⟨jb, 0, none⟩) := hp 19 (by decide +kernel)
            go_step
            exact hK _ _ (Below.refl _ _) rfl
          · have v20 : (vs 20) = .pointer (some ⟨jb, 5, none⟩) := hp 20 (by decide +kernel)
            have c5 : wx.cell? ⟨jb, 5, none⟩ = some (.int .i64 J.count) := cell_of_row _ _ _ _ _ _ (H1.out.below hbx).blk
            go_step
            exact hK _ _ (Below.refl _ _) rfl
          · go_step
            exact hK _ _ (Below.refl _ _) rfl
          · have v22 : (vs 22) = .slice Ar rs.length cr := hp 22 (by decide +kernel)
            go_step
            exact hK _ _ (Below.refl _ _) rfl
          · have v21 : (vs 21) = .int .i64 J.count := hp 21 (by decide +kernel)
            have v23 : (vs 23) = .int .i64 rs.length := hp 23 (by decide +kernel)
            go_step
            exact hK _ _ (Below.refl _ _) rfl
        case hfin =>
          intro vs wx hbx hv
          have v0 : vs 0 = .pointer (some ⟨jb, 0, none⟩) := hv 0 (by omega)
          have v5 : vs 5 = .int .i64 J.side := hv 5 (by omega)
          have v10 : vs 10 = .int .i64 J.data.length := hv 10 (by omega)
          have r17 : RowIs wx (vs 17) 5 1 (J.data ++ P).length (bv (J.data ++ P)) := hv 17 (by omega)
          have v24 : vs 24 = .int .i64 (J.count + (rs.length : Int)) := hv 24 (by omega)
          have HX := Lib.hid (H1.out.below hbx)
          have R17 := Lib.hid r17
          have FX := Lib.hid (show Fr w'' wx [jb, b, bs] from ((Fr.below_iff.2 HB1.out).below hbx).mono (by simp))
          have hlen : (J.data ++ P).length ≤ 1000000000 := by rw [List.length_append]; omega
          clear hv hbx r17 H1 HB1
          simp (maxSteps := 4000000) only [List.take_succ_cons, List.take_zero, List.drop_succ_cons, List.drop_zero, fillFrom, Nat.zero_add, Nat.reduceAdd, if_true, Act.put, List.setIfInBounds_toArray, List.set_cons_succ, List.set_cons_zero]
          go_wp2_with fail
          refine (jlay_any wx jb b bs _ J D HX.out hok h2 hnum J.side J.data.length hside (by omega) (J.data ++ P) (vs 17) R17.out hlen hch (J.count + (rs.length : Int))).mono ?_
          rintro e w3 ⟨rfl, hj3, hf3⟩
          go_wp2
          go_ret
          rw [HL.out]
          exact ⟨rfl, hj3, FX.out.trans hf3⟩
    · have hkn : (kp == 0) = false := beq_false_of_ne hk
      have hkn2 : (kp != 0) = true := by simp [bne, hkn]
      have HL := Lib.hid (show J.add D rs = (J, D, kp) by rw [HADD.out, if_pos (.inl hk)])
      clear HADD hk
      go_wp2
      go_ret
      rw [HL.out]
      exact ⟨rfl, ⟨_, H1.out⟩, (Fr.below_iff.2 HB1.out).mono (by simp)⟩
set_option maxRecDepth 20000 in
set_option maxHeartbeats 2000000 in
theorem jReplace_any (w : World) (jb b bs : Nat) (dv : Value) (J : Jr) (D : Dev) (h : JIs w jb b bs dv J D) (hok : D.Ok) (h2 : 2 ≤ D.sure.length) (hwf : J.Wf) (hch : D.changes + 2100 ≤ 1000000000)
    (rv : Value) (rs : List (List UInt8)) (hr : RecsIs w rv rs) (hrl : rs.length ≤ 1000000) :
    Calls Try.prog 26 #[.pointer (some ⟨jb, 0, none⟩), rv] w fun e w' =>
      e = .returned (.int .i64 (J.replace D rs).2.2) ∧ (∃ dv', JIs w' jb b bs dv' (J.replace D rs).1 (J.replace D rs).2.1) ∧ Fr w w' [jb, b, bs] := by
  have hhi := hok.wf.hi
  have hsecs : D.secs ≤ 2047 := secs_le hhi
  have hnum := hwf.num
  have hside := hwf.side
  have hdl := hwf.len
  have hcount := hwf.count
  obtain ⟨Ar, cr, rfl, hcr⟩ := hr.shape
  obtain ⟨Ad, cd, rfl⟩ := h.row.shape
  have c0 : w.cell? ⟨jb, 0, none⟩ = some (.pointer (some ⟨b, 0, none⟩)) := cell_of_row _ _ _ _ _ _ h.blk
  by_cases hbr : J.broken = true
  · have HL := Lib.hid (show J.replace D rs = (J, D, 3) by unfold Jr.replace; rw [if_pos hbr])
    have hbk := jBroken_any w jb b bs _ J D h
    rw [hbr] at hbk
    have HBK := Lib.hid hbk
    clear hbr hbk
    go_enter Try.func26, Try.ntmps26
    go_wp2_with fail
    refine HBK.out.mono ?_
    rintro e w' ⟨rfl, rfl⟩
    go_wp2
    go_ret
    rw [HL.out]
    exact ⟨rfl, ⟨_, h⟩, Fr.refl _ _⟩
  · skip
    have hbf : J.broken = false := by simpa using hbr
    have HBF := Lib.hid hbf
    have ew : wrap64 ((D.secs : Int) * 256) = (D.secs : Int) * 256 := by unfold wrap64; omega
    have hbk := jBroken_any w jb b bs _ J D h
    rw [hbf] at hbk
    have HBK := Lib.hid hbk
    have H := Lib.hid h
    have HR := Lib.hid hr
    clear hbr hbf hbk h hr
    go_enter Try.func26, Try.ntmps26
    go_wp2_with fail
    refine HBK.out.mono ?_
    rintro e w' ⟨rfl, rfl⟩
    go_wp2_with fail
    refine (jsectors_any w' b bs D H.out.dev h2 hhi).mono ?_
    rintro e w'' ⟨rfl, rfl⟩
    go_wp2_with fail
    rw [show ((D.secs : Int) * 256) = ((D.secs * 256 : Nat) : Int) from by omega]
    refine (wPack w'' _ rs HR.out (by omega) (D.secs * 256) (by omega)).mono ?_
    rintro e w1 ⟨pv, rfl, hp1, hb1⟩
    have hple := pack_le rs (D.secs * 256)
    obtain ⟨⟨P, kp⟩, hp⟩ : ∃ p, p = pack rs (D.secs * 256) := ⟨_, rfl⟩
    rw [← hp] at hp1 hple ⊢
    have HP := Lib.hid hp
    simp only at hp1 hple ⊢
    obtain ⟨Ap, cp, rfl⟩ := hp1.shape
    have HPR := Lib.hid hp1
    have HB1 := Lib.hid hb1
    have H1 := Lib.hid (H.out.below hb1)
    have HR1 := Lib.hid (HR.out.below hb1)
    clear hp hp1 hb1
    have hadd : J.replace D rs = if kp ≠ 0 then (J, D, kp) else J.lay D (1 - J.side) 0 P rs.length := by
      unfold Jr.replace
      rw [if_neg (by rw [HBF.out]; simp), ← HP.out]
    have HADD := Lib.hid hadd
    clear hadd
    by_cases hk : kp = 0
    · subst hk
      have HL := Lib.hid (show J.replace D rs = J.lay D (1 - J.side) 0 P rs.length by rw [HADD.out, if_neg (by simp)])
      clear HADD
      have es : wrap64 (1 - (J.side : Int)) = 1 - (J.side : Int) := by unfold wrap64; omega
      have c2 : w1.cell? ⟨jb, 2, none⟩ = some (.int .i64 J.side) := cell_of_row _ _ _ _ _ _ H1.out.blk
      have hlen : P.length ≤ 1000000000 := by omega
      go_wp2_with fail
      rw [show (1 - (J.side : Int)) = ((1 - J.side : Nat) : Int) from by omega]
      refine (jlay_any w1 jb b bs _ J D H1.out hok h2 hnum (1 - J.side) 0 (by omega) (by omega) P _ HPR.out hlen hch ((rs.length : Nat) : Int)).mono ?_
      rintro e w3 ⟨rfl, hj3, hf3⟩
      go_wp2
      go_ret
      rw [HL.out]
      exact ⟨rfl, hj3, ((Fr.below_iff.2 HB1.out).mono (by simp)).trans hf3⟩
    · have hkn : (kp == 0) = false := beq_false_of_ne hk
      have hkn2 : (kp != 0) = true := by simp [bne, hkn]
      have HL := Lib.hid (show J.replace D rs = (J, D, kp) by rw [HADD.out, if_pos hk])
      clear HADD hk
      go_wp2
      go_ret
      rw [HL.out]
      exact ⟨rfl, ⟨_, H1.out⟩, (Fr.below_iff.2 HB1.out).mono (by simp)⟩
end Go.Proofs.Yteggldplmbegfaa
