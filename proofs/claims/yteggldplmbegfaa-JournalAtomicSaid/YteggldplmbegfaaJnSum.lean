/- sum.Open, walked: the bytes ahead of their sum, or an error. -/
import Derived.Test.YteggldplmbegfaaJnPack
import Derived.Test.YteggldplmbegfaaB2
set_option linter.unusedVariables false
set_option linter.unusedSimpArgs false
namespace Go.Proofs.Yteggldplmbegfaa
open Go.RowKit

theorem sback (l : List UInt8) : (str l).toList = l := by rw [ByteArray.toList_eq, str_toList]
theorem lne {a b : List UInt8} (h : ¬ a = b) : (a == b) = false := beq_false_of_ne h
theorem sb_l {a b : List UInt8} (h : ¬ a = b) : ((str a).toList == (str b).toList) = false := by rw [sback, sback]; exact lne h
theorem sb_e (a : List UInt8) : ((str a).toList == (str a).toList) = true := by simp
theorem sOpen_short (w : World) (v : Value) (T : TypeId) (l : List UInt8) (h : RowIs w v T 1 l.length (bv l)) (hl : l.length < 4) :
    Calls Try.prog 90 #[v] w fun e w' => e = .returned (.tuple #[.slice none 0 0, .int .i64 8]) ∧ w' = w := by
  obtain ⟨A, c, rfl⟩ := h.shape
  go_enter Try.func90, Try.ntmps90
  go_wp2
  go_ret2
  exact ⟨rfl, rfl⟩
set_option maxRecDepth 20000 in
theorem sOpen_no (w : World) (v : Value) (T : TypeId) (l : List UInt8) (h : RowIs w v T 1 l.length (bv l)) (hl : 4 ≤ l.length) (hb : l.length ≤ 100000000) (hne : seal_ (l.take (l.length - 4)) ≠ l) :
    Calls Try.prog 90 #[v] w fun e w' => e = .returned (.tuple #[.slice none 0 0, .int .i64 9]) ∧ Below w.heap.size w w' := by
  have hbs : ∀ w : World, (Instr.buildSlice 33 0 #[]).run Try.prog w = .ok (.slice (some ⟨w.heap.size, 0, none⟩) 0 0) (w.alloc (.cells #[] 5 (0, 0))) := fun w => by kernel_rfl
  obtain ⟨A, c, rfl⟩ := h.shape
  have hcl := h.le
  obtain ⟨k, hk⟩ : ∃ k, k = l.length - 4 := ⟨_, rfl⟩
  have hk1 : k + 4 ≤ l.length := by omega
  have hk2 : l.length ≤ k + 4 := by omega
  have hkl : (l.take k).length = k := by rw [List.length_take]; omega
  have KL := Lib.hid hkl
  have ek : (l.length : Int) - 4 = (k : Int) := by omega
  have EK := Lib.hid ek
  clear hkl ek
  rw [← hk] at hne
  have HK := Lib.hid hk
  clear hk
  go_enter Try.func90, Try.ntmps90
  go_upto_region 4 with (fail)
  have hse := sb_l hne
  refine wp_region_grows 7 (by kernel_rfl) (by kernel_rfl) (fun q v w' => match q with
    | 0 => v = .slice A l.length c
    | 1 => v = .int .i64 ((l.length : Int) - 4)
    | 2 => RowIs w' v T 1 k (bv (l.take k))
    | 3 => RowIs w' v 5 1 (seal_ (l.take k)).length (bv (seal_ (l.take k)))
    | 4 => v = .string (str (seal_ (l.take k)))
    | 5 => v = .slice A l.length c
    | 6 => v = .string (str l)
    | _ => True) ?hV ?hstep ?hfin
  case hV =>
    intro q v w w' hv hb
    match q, hv with
    | 0, hv => exact hv
    | 1, hv => exact hv
    | 2, hv => exact hv.below hb
    | 3, hv => exact hv.below hb
    | 4, hv => exact hv
    | 5, hv => exact hv
    | 6, hv => exact hv
    | q + 7, hv => trivial
  case hstep =>
    simp (maxSteps := 4000000) only [List.take_succ_cons, List.take_zero, stepsAll, and_true, GrowStep, Oper.wpG, fillFrom, Nat.zero_add, Nat.reduceAdd, if_true, Act.put, List.setIfInBounds_toArray, List.set_cons_succ, List.set_cons_zero]
    refine ⟨?_, ?_, ?_, ?_, ?_, ?_, ?_⟩
    all_goals
      intro vs wx hbx hp K hK
    · go_step
      exact hK _ _ (Below.refl _ _) rfl
    · go_step
      exact hK _ _ (Below.refl _ _) rfl
    · have v0 : (vs 0) = .slice A l.length c := hp 0 (by decide +kernel)
      have v1 : (vs 1) = .int .i64 ((l.length : Int) - 4) := hp 1 (by decide +kernel)
      refine wp_sub_h (.tmp 10) (.tmp 11) rfl A l.length c T l v0 (h.below hbx) .i64 k (by rw [← EK.out]; exact v1) (by omega) ?_
      intro v hv
      exact hK _ _ (Below.refl _ _) hv
    · have v2 : RowIs wx (vs 2) T 1 k (bv (l.take k)) := hp 2 (by decide +kernel)
      go_step
      refine (wSeal _ _ T (l.take k) (by rw [KL.out]; exact v2) (by rw [KL.out]; omega)).mono ?_
      rintro e wy ⟨v', rfl, h1, h2⟩
      exact hK _ _ h2 h1
    · have v3 : RowIs wx (vs 3) 5 1 (seal_ (l.take k)).length (bv (seal_ (l.take k))) := hp 3 (by decide +kernel)
      obtain ⟨A3, c3, e3⟩ := v3.shape
      rw [e3] at v3
      refine wp_bytes_str 33 9 5 (.tmp 13) rfl Try.underlying33 Try.underlying5 Try.underlying9 A3 _ c3 5 (seal_ (l.take k)) e3 rfl v3 ?_
      exact hK _ _ (Below.refl _ _) rfl
    · go_step
      exact hK _ _ (Below.refl _ _) rfl
    · have v5 : (vs 5) = .slice A l.length c := hp 5 (by decide +kernel)
      refine wp_bytes_str 33 9 5 (.tmp 15) rfl Try.underlying33 Try.underlying5 Try.underlying9 A _ c T l v5 rfl (h.below hbx) ?_
      exact hK _ _ (Below.refl _ _) rfl
  case hfin =>
    intro vs wx hbx hv
    have v4 : vs 4 = .string (str (seal_ (l.take k))) := hv 4 (by omega)
    have v6 : vs 6 = .string (str l) := hv 6 (by omega)
    have HF := Lib.hid hbx
    clear hv hbx
    simp (maxSteps := 4000000) only [List.take_succ_cons, List.take_zero, List.drop_succ_cons, List.drop_zero, fillFrom, Nat.zero_add, Nat.reduceAdd, if_true, Act.put, List.setIfInBounds_toArray, List.set_cons_succ, List.set_cons_zero]
    go_wp2
    go_ret2
    exact ⟨rfl, HF.out⟩
set_option maxRecDepth 20000 in
theorem sOpen_yes (w : World) (v : Value) (T : TypeId) (l : List UInt8) (h : RowIs w v T 1 l.length (bv l)) (hl : 4 ≤ l.length) (hb : l.length ≤ 100000000) (hne : seal_ (l.take (l.length - 4)) = l) :
    Calls Try.prog 90 #[v] w fun e w' => ∃ v', e = .returned (.tuple #[v', .int .i64 0]) ∧ RowIs w' v' 5 1 (l.take (l.length - 4)).length (bv (l.take (l.length - 4))) ∧ Below w.heap.size w w' := by
  have hbs : ∀ w : World, (Instr.buildSlice 33 0 #[]).run Try.prog w = .ok (.slice (some ⟨w.heap.size, 0, none⟩) 0 0) (w.alloc (.cells #[] 5 (0, 0))) := fun w => by kernel_rfl
  obtain ⟨A, c, rfl⟩ := h.shape
  have hcl := h.le
  obtain ⟨k, hk⟩ : ∃ k, k = l.length - 4 := ⟨_, rfl⟩
  have hk1 : k + 4 ≤ l.length := by omega
  have hk2 : l.length ≤ k + 4 := by omega
  have hkl : (l.take k).length = k := by rw [List.length_take]; omega
  have KL := Lib.hid hkl
  have ek : (l.length : Int) - 4 = (k : Int) := by omega
  have EK := Lib.hid ek
  clear hkl ek
  rw [← hk] at hne
  have HK := Lib.hid hk
  clear hk
  go_enter Try.func90, Try.ntmps90
  go_upto_region 4 with (fail)
  have hse := sb_e l
  refine wp_region_grows 7 (by kernel_rfl) (by kernel_rfl) (fun q v w' => match q with
    | 0 => v = .slice A l.length c
    | 1 => v = .int .i64 ((l.length : Int) - 4)
    | 2 => RowIs w' v T 1 k (bv (l.take k))
    | 3 => RowIs w' v 5 1 (seal_ (l.take k)).length (bv (seal_ (l.take k)))
    | 4 => v = .string (str (seal_ (l.take k)))
    | 5 => v = .slice A l.length c
    | 6 => v = .string (str l)
    | _ => True) ?hV ?hstep ?hfin
  case hV =>
    intro q v w w' hv hb
    match q, hv with
    | 0, hv => exact hv
    | 1, hv => exact hv
    | 2, hv => exact hv.below hb
    | 3, hv => exact hv.below hb
    | 4, hv => exact hv
    | 5, hv => exact hv
    | 6, hv => exact hv
    | q + 7, hv => trivial
  case hstep =>
    simp (maxSteps := 4000000) only [List.take_succ_cons, List.take_zero, stepsAll, and_true, GrowStep, Oper.wpG, fillFrom, Nat.zero_add, Nat.reduceAdd, if_true, Act.put, List.setIfInBounds_toArray, List.set_cons_succ, List.set_cons_zero]
    refine ⟨?_, ?_, ?_, ?_, ?_, ?_, ?_⟩
    all_goals
      intro vs wx hbx hp K hK
    · go_step
      exact hK _ _ (Below.refl _ _) rfl
    · go_step
      exact hK _ _ (Below.refl _ _) rfl
    · have v0 : (vs 0) = .slice A l.length c := hp 0 (by decide +kernel)
      have v1 : (vs 1) = .int .i64 ((l.length : Int) - 4) := hp 1 (by decide +kernel)
      refine wp_sub_h (.tmp 10) (.tmp 11) rfl A l.length c T l v0 (h.below hbx) .i64 k (by rw [← EK.out]; exact v1) (by omega) ?_
      intro v hv
      exact hK _ _ (Below.refl _ _) hv
    · have v2 : RowIs wx (vs 2) T 1 k (bv (l.take k)) := hp 2 (by decide +kernel)
      go_step
      refine (wSeal _ _ T (l.take k) (by rw [KL.out]; exact v2) (by rw [KL.out]; omega)).mono ?_
      rintro e wy ⟨v', rfl, h1, h2⟩
      exact hK _ _ h2 h1
    · have v3 : RowIs wx (vs 3) 5 1 (seal_ (l.take k)).length (bv (seal_ (l.take k))) := hp 3 (by decide +kernel)
      obtain ⟨A3, c3, e3⟩ := v3.shape
      rw [e3] at v3
      refine wp_bytes_str 33 9 5 (.tmp 13) rfl Try.underlying33 Try.underlying5 Try.underlying9 A3 _ c3 5 (seal_ (l.take k)) e3 rfl v3 ?_
      exact hK _ _ (Below.refl _ _) rfl
    · go_step
      exact hK _ _ (Below.refl _ _) rfl
    · have v5 : (vs 5) = .slice A l.length c := hp 5 (by decide +kernel)
      refine wp_bytes_str 33 9 5 (.tmp 15) rfl Try.underlying33 Try.underlying5 Try.underlying9 A _ c T l v5 rfl (h.below hbx) ?_
      exact hK _ _ (Below.refl _ _) rfl
  case hfin =>
    intro vs wx hbx hv
    have v4 : vs 4 = .string (str (seal_ (l.take k))) := hv 4 (by omega)
    rw [hne] at v4
    have v6 : vs 6 = .string (str l) := hv 6 (by omega)
    have HF := Lib.hid hbx
    clear hv hbx
    simp (maxSteps := 4000000) only [List.take_succ_cons, List.take_zero, List.drop_succ_cons, List.drop_zero, fillFrom, Nat.zero_add, Nat.reduceAdd, if_true, Act.put, List.setIfInBounds_toArray, List.set_cons_succ, List.set_cons_zero]
    have hg1 := World.grownBy_alloc wx (.cells #[] 5 (0, 0)) none
    have HB1 := Lib.hid (HF.out.grown hg1 HF.out.size (by simp))
    have HR1 := Lib.hid (h.below HB1.out)
    have HO1 := Lib.hid (owns_empty wx 5 1 _ rfl w.heap.size HF.out.size)
    clear hg1
    go_wp2_with (first
      | ((with_reducible show wpList _ _ _ (Oper.mk _ (.slice ..) _ _ _ _ :: _) _ _); go_must (refine wpList_sub_h rfl (.tmp 19) (.tmp 20) rfl A l.length c T l rfl HR1.out .i64 k (congrArg (Value.int .i64) EK.out) (by omega) ?_); intro vc hvc; have HVC := Lib.hid hvc; clear hvc)
      | (at_builtin; go_must (refine wpList_appb _ rfl (.tmp 18) (.tmp 21) rfl w.heap.size (.slice (some ⟨wx.heap.size, 0, none⟩) 0 0) [] rfl HO1.out vc T (l.take k) rfl (by rw [KL.out]; exact HVC.out) (by rw [KL.out]; simp; omega) HB1.out.size ?_); intro v' w2 ho2 hg2; go_must (have HB2 := Lib.hid (below_app HB1.out HO1.out (Nat.le_refl _) hg2 HB1.out.size)); have HO2 := Lib.hid ho2; clear ho2 hg2))
    rw [List.nil_append] at HO2
    go_ret2
    rw [← HK.out]
    exact ⟨v', rfl, RowIs.of_owns HO2.out, HB2.out⟩
/-- sum.Open, told at once. -/
theorem wOpenR (w : World) (v : Value) (T : TypeId) (l : List UInt8) (h : RowIs w v T 1 l.length (bv l)) (hb : l.length ≤ 100000000) :
    Calls Try.prog 90 #[v] w fun e w' => Below w.heap.size w w' ∧ ((∃ r v', openR l = some r ∧ e = .returned (.tuple #[v', .int .i64 0]) ∧ RowIs w' v' 5 1 r.length (bv r)) ∨ (openR l = none ∧ ∃ v' c, e = .returned (.tuple #[v', .int .i64 c]) ∧ c ≠ 0)) := by
  by_cases hl : 4 ≤ l.length
  · by_cases hs : seal_ (l.take (l.length - 4)) = l
    · refine (sOpen_yes w v T l h hl hb hs).mono ?_
      rintro e w' ⟨v', rfl, h1, h2⟩
      exact ⟨h2, .inl ⟨_, v', by unfold openR; rw [if_pos ⟨hl, hs⟩], rfl, h1⟩⟩
    · refine (sOpen_no w v T l h hl hb hs).mono ?_
      rintro e w' ⟨rfl, h2⟩
      exact ⟨h2, .inr ⟨by unfold openR; rw [if_neg (fun h => hs h.2)], _, 9, rfl, by decide⟩⟩
  · refine (sOpen_short w v T l h (by omega)).mono ?_
    rintro e w' ⟨rfl, rfl⟩
    exact ⟨Below.refl _ _, .inr ⟨by unfold openR; rw [if_neg (fun h => hl h.1)], _, 8, rfl, by decide⟩⟩
end Go.Proofs.Yteggldplmbegfaa
