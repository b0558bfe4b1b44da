/- LAYER 4's LAWS: JournalAtomic, walked. -/
import Derived.Test.YteggldplmbegfaaL4f
import Derived.Test.YteggldplmbegfaaJnTorn2
set_option linter.unusedVariables false
set_option linter.unusedSimpArgs false
namespace Go.Proofs.Yteggldplmbegfaa
open Go.RowKit

theorem lie_le2 (l : List (List UInt8)) (h : ∀ r ∈ l, r.length ≤ 2000) : (lie l).length ≤ l.length * 2007 := by
  induction l with
  | nil => simp [lie_nil]
  | cons r l ih =>
    have h1 := ih (fun x hx => h x (by simp [hx]))
    have h2 := h r (by simp)
    have h3 : need r ≤ 2007 := by unfold need; split <;> omega
    rw [lie_cons, List.length_append, field_length, List.length_cons]
    omega
theorem plan_is (D : Dev) (L : Nat) (ks : List Int) (tn hf : Int) : D.plan (L : Int) ks tn hf = { D with left := (L : Int), kept := ks, torn := tn, half := hf } := by
  unfold Dev.plan
  have : max (L : Int) (-1) = (L : Int) := by omega
  rw [this]
theorem want_below {w w' : World} {base n : Nat} {v : Value} {xs : List Value} (h : w.ownsRow base 9 1 v n xs) (hb : Below w.heap.size w w') : w'.ownsRow base 9 1 v n xs := owns_below h hb
theorem keep_own {w w' : World} {base n k : Nat} {v : Value} {xs : List Value} {c : Array Value} (h : w.ownsRow base 9 1 v n xs) (hk : w.heap[k]? = some (.cells c 25 (0, 0))) (hg : w.grownBy w' v.ownBlock) : w'.heap[k]? = some (.cells c 25 (0, 0)) :=
  grown_keep hg hk (own_not h hk (by decide))
set_option maxRecDepth 20000 in
set_option maxHeartbeats 4000000 in
theorem JAtomic_any (w : World) (A1 : Option Addr) (n1 c1 : Nat) (first : List (List UInt8)) (A2 : Option Addr) (n2 c2 : Nat) (thn : List (List UInt8)) (hn1 : first.length = n1) (h1 : RecsIs w (.slice A1 n1 c1) first) (hnb1 : n1 ≤ 9223372036854775807)
    (hn2 : thn.length = n2) (h2 : RecsIs w (.slice A2 n2 c2) thn) (hnb2 : n2 ≤ 9223372036854775807) (rep : Bool) (after : Int) (ha : -9223372036854775808 ≤ after ∧ after ≤ 9223372036854775807)
    (kA : Option Addr) (kc : Nat) (ks : List Int) (tn hf : Int) (T : TypeId) (hk : RowIs w (.slice kA ks.length kc) T 1 ks.length (iv ks)) (hkb : ks.length ≤ 9223372036854775807)
    (htn : -9223372036854775808 ≤ tn ∧ tn ≤ 9223372036854775807) (hhf : -9223372036854775808 ≤ hf ∧ hf ≤ 9223372036854775807) :
    Calls Try.prog 7 #[.slice A1 n1 c1, .slice A2 n2 c2, .agg #[.bool rep, .int .i64 after, .slice kA ks.length kc, .int .i64 tn, .int .i64 hf]] w fun e w' => e = .returned (.bool true) ∧ Below w.heap.size w w' := by
  have H1 := Lib.hid h1
  have N1 := Lib.hid hn1
  have H2 := Lib.hid h2
  have N2 := Lib.hid hn2
  have HK := Lib.hid hk
  obtain ⟨kn, hkn⟩ : ∃ kn, kn = ks.length := ⟨_, rfl⟩
  rw [← hkn] at HK hkb ⊢
  have KN := Lib.hid hkn
  clear h1 hn1 h2 hn2 hk hkn
  go_enter Try.func7, Try.ntmps7
  go_upto_region 1 with fail
  have hbx0 := heap_alloc_new w (.cells #[.bool rep, .int .i64 after, .slice kA kn kc, .int .i64 tn, .int .i64 hf] 63 (0, 0))
  have hb1 : Below w.heap.size w (w.alloc (.cells #[.bool rep, .int .i64 after, .slice kA kn kc, .int .i64 tn, .int .i64 hf] 63 (0, 0))) := (Below.refl _ _).alloc (Nat.le_refl _) _
  obtain ⟨X, hX⟩ : ∃ X, X = w.heap.size := ⟨_, rfl⟩
  rw [← hX] at hbx0
  rw [← hX]
  have HX := Lib.hid hX
  obtain ⟨w1, hw1⟩ : ∃ w1, w1 = w.alloc (.cells #[.bool rep, .int .i64 after, .slice kA kn kc, .int .i64 tn, .int .i64 hf] 63 (0, 0)) := ⟨_, rfl⟩
  rw [← hw1] at hbx0 hb1 ⊢
  have BX := Lib.hid hbx0
  have F1 := Lib.hid hb1
  clear hw1 hX hbx0 hb1
  have hzC : (Try.prog.info? 25).map (·.size) = some 3 := by kernel_rfl
  have hzrC : (Try.prog.info? 25).map (·.zero) = some (some (.agg #[.slice none 0 0, .int .i64 0, .int .i64 0])) := by kernel_rfl
  refine wp_region_grows 9 (by kernel_rfl) (by kernel_rfl) (fun q v w' => match q with
    | 0 => v = .pointer (some ⟨X, 0, none⟩)
    | 1 => v = .bool rep
    | 2 => v = .pointer (some ⟨X, 1, none⟩)
    | 3 => v = .int .i64 after
    | 4 => v = .pointer (some ⟨X, 2, none⟩)
    | 5 => v = .agg #[.slice kA kn kc, .int .i64 tn, .int .i64 hf]
    | 6 => ∃ g, v = .pointer (some ⟨g, 0, none⟩) ∧ w1.heap.size ≤ g ∧ w'.heap[g]? = some (.cells #[.slice none 0 0, .int .i64 0, .int .i64 0] 25 (0, 0))
    | 7 => v = .bool rep
    | 8 => v = .int .i64 after
    | _ => True) ?hV ?hstep ?hfin
  case hV =>
    intro q v w w' hv hb
    match q, hv with
    | 0, hv => exact hv
    | 1, hv => exact hv
    | 2, hv => exact hv
    | 3, hv => exact hv
    | 4, hv => exact hv
    | 5, hv => exact hv
    | 6, hv => exact (by obtain ⟨g, e, h5, h6⟩ := hv; exact ⟨g, e, h5, (hb.block _ (lt_of_heap h6)).trans h6⟩)
    | 7, hv => exact hv
    | 8, hv => exact hv
    | q + 9, hv => trivial
  case hstep =>
    simp (maxSteps := 4000000) only [List.take_succ_cons, List.take_zero, stepsAll, and_true, GrowStep, Oper.wpG, fillFrom, Nat.zero_add, Nat.reduceAdd, if_true, Act.put, List.setIfInBounds_toArray, List.set_cons_succ, List.set_cons_zero]
    refine ⟨?_, ?_, ?_, ?_, ?_, ?_, ?_, ?_, ?_⟩
    all_goals
      intro vs wx hbx hp K hK
    · go_step
      exact hK _ _ (Below.refl _ _) rfl
    · have v0 : (vs 0) = .pointer (some ⟨X, 0, none⟩) := hp 0 (by decide +kernel)
      have c0 : wx.cell? ⟨X, 0, none⟩ = some (.bool rep) := cell_of_row _ _ _ _ _ _ ((hbx.block _ (lt_of_heap BX.out)).trans BX.out)
      go_step
      exact hK _ _ (Below.refl _ _) rfl
    · go_step
      exact hK _ _ (Below.refl _ _) rfl
    · have v2 : (vs 2) = .pointer (some ⟨X, 1, none⟩) := hp 2 (by decide +kernel)
      have c0 : wx.cell? ⟨X, 1, none⟩ = some (.int .i64 after) := cell_of_row _ _ _ _ _ _ ((hbx.block _ (lt_of_heap BX.out)).trans BX.out)
      go_step
      exact hK _ _ (Below.refl _ _) rfl
    · go_step
      exact hK _ _ (Below.refl _ _) rfl
    · have v4 : (vs 4) = .pointer (some ⟨X, 2, none⟩) := hp 4 (by decide +kernel)
      refine wp_load_mid 25 (.tmp 23) rfl X 2 v4 63 _ _ _ [.slice kA kn kc, .int .i64 tn, .int .i64 hf] ((hbx.block _ (lt_of_heap BX.out)).trans BX.out) Try.underlying25 rfl hzC (fun j v hj => by match j, hj with | 0, hj => exact hj | 1, hj => exact hj | 2, hj => exact hj) ?_
      exact hK _ _ (Below.refl _ _) rfl
    · refine wp_alloc_row 25 rfl _ hzrC fun w2 hn2 hg2 hs2 => hK _ _ (Fr.below_iff.1 ((Fr.refl wx []).grown hg2 (by simp))) ⟨_, rfl, hbx.size, hn2⟩
    · have v1 : (vs 1) = .bool rep := hp 1 (by decide +kernel)
      go_step
      exact hK _ _ (Below.refl _ _) v1
    · have v3 : (vs 3) = .int .i64 after := hp 3 (by decide +kernel)
      go_step
      exact hK _ _ (Below.refl _ _) v3
  case hfin =>
    intro vs wx hbx hv
    obtain ⟨C, v6, hC1, hC2⟩ := hv 6 (by omega)
    have v5 : vs 5 = .agg #[.slice kA kn kc, .int .i64 tn, .int .i64 hf] := hv 5 (by omega)
    have v7 : vs 7 = .bool rep := hv 7 (by omega)
    have v8 : vs 8 = .int .i64 after := hv 8 (by omega)
    have F2 := Lib.hid (F1.out.trans (hbx.mono F1.out.size))
    have hCw : w.heap.size ≤ C := Nat.le_trans F1.out.size hC1
    have hC2' := hC2
    clear hv hbx BX hC1
    simp (maxSteps := 4000000) only [List.take_succ_cons, List.take_zero, List.drop_succ_cons, List.drop_zero, fillFrom, Nat.zero_add, Nat.reduceAdd, if_true, Act.put, List.setIfInBounds_toArray, List.set_cons_succ, List.set_cons_zero]
    rw [v5, v6, v7, v8]
    go_upto_region 2 with (first
      | ((with_reducible show wpList _ _ _ (Oper.mk _ (.store 25 _ _) _ _ _ _ :: _) _ _); go_must (refine wpList_store_mid rfl rfl 25 (.tmp 9) (.tmp 24) rfl C 0 rfl [.slice kA kn kc, .int .i64 tn, .int .i64 hf] rfl 25 _ hC2 hzC (by simp) (by simp [Value.oneCell']) ?_); intro w3 hn3 hg3 hs3; clear hC2))
    rw [splice_all _ _ (by rfl)] at hn3
    have F3 := Lib.hid (Fr.below_iff.1 ((Fr.below_iff.2 F2.out).grown hg3 (fun k hk => by cases hk; exact .inr hCw)))
    have CC := Lib.hid hn3
    clear hn3 hg3 hs3 hC2' F2 F1 v5 v6 v7 v8 hzrC
    go_wp2_with fail
    refine (l4lives_any w3).mono ?_
    rintro e w4 ⟨rfl, hb4⟩
    have F4 := Lib.hid (F3.out.trans (hb4.mono F3.out.size))
    have CC4 := Lib.hid ((hb4.block _ (lt_of_heap CC.out)).trans CC.out)
    clear hb4 F3 CC
    have p0 : w4.cell? ⟨C, 0, none⟩ = some (.slice kA kn kc) := cell_of_row _ _ _ _ _ _ CC4.out
    have p1 : w4.cell? ⟨C, 1, none⟩ = some (.int .i64 tn) := cell_of_row _ _ _ _ _ _ CC4.out
    have p2 : w4.cell? ⟨C, 2, none⟩ = some (.int .i64 hf) := cell_of_row _ _ _ _ _ _ CC4.out
    go_wp2_with fail
    obtain ⟨wa, hwa, hrow, hba⟩ : ∃ wa, wa = (w4.alloc (.cells #[.int .i64 0, .slice A1 n1 c1, .int .i64 0, .slice none 0 0, .int .i64 0, .int .i64 0, .int .i64 0, .slice A2 n2 c2, .int .i64 0, .slice kA kn kc, .int .i64 tn, .int .i64 hf] 56 (0, 0))) ∧
        RowIs wa (.slice (some ⟨w4.heap.size, 0, none⟩) 2 2) 56 6 2 (script4 [⟨0, A1, n1, c1, first, 0, none, 0, 0, 0, 0⟩, ⟨0, A2, n2, c2, thn, 0, kA, kn, kc, tn, hf⟩]) ∧ Below w4.heap.size w4 wa :=
      ⟨_, rfl, ⟨rfl, .inr ⟨_, 0, 2, _, _, rfl, Nat.le_refl _, heap_alloc_new _ _, fun j x hj => by rw [Nat.zero_add, List.getElem?_toArray]; exact hj⟩⟩, (Below.refl _ _).alloc (Nat.le_refl _) _⟩
    rw [← hwa]
    have Fa := Lib.hid (F4.out.trans (hba.mono F4.out.size))
    have CCa := Lib.hid ((hba.block _ (lt_of_heap CC4.out)).trans CC4.out)
    clear hwa hba F4 CC4 p0 p1 p2
    refine (l4fits_any wa 6 _ 2 2 _ _ rfl hrow (by omega) (fun o ho => by
      simp only [List.mem_cons, List.not_mem_nil, or_false] at ho
      rcases ho with rfl | rfl
      · exact ⟨N1.out, hnb1, H1.out.below Fa.out, by simp⟩
      · exact ⟨N2.out, hnb2, H2.out.below Fa.out, hkb⟩)).mono ?_
    rintro e w5 ⟨r, rfl, hfit, hb5⟩
    have F5 := Lib.hid (Fa.out.trans (hb5.mono Fa.out.size))
    have CC5 := Lib.hid ((hb5.block _ (lt_of_heap CCa.out)).trans CCa.out)
    clear hb5 hrow Fa CCa
    cases r with
    | false =>
      go_wp2_with fail
      refine (l4lives_any w5).mono ?_
      rintro e w6 ⟨rfl, hb6⟩
      go_wp2
      go_ret
      exact ⟨rfl, F5.out.trans (hb6.mono F5.out.size)⟩
    | true =>
      obtain ⟨_, _, _, hsm⟩ := hfit rfl
      have hs1 := hsm ⟨0, A1, n1, c1, first, 0, none, 0, 0, 0, 0⟩ (by simp)
      have hs2 := hsm ⟨0, A2, n2, c2, thn, 0, kA, kn, kc, tn, hf⟩ (by simp)
      have hl1 : n1 ≤ 6 := by rw [← N1.out]; exact hs1.1
      have hl2 : n2 ≤ 6 := by rw [← N2.out]; exact hs2.1
      have hk70 : kn ≤ 70 := hs2.2.1
      have S1 := Lib.hid (show ∀ r ∈ first, r.length ≤ 2000 from hs1.2.2)
      have S2 := Lib.hid (show ∀ r ∈ thn, r.length ≤ 2000 from hs2.2.2)
      clear hfit hsm hs1 hs2
      go_wp2_with fail
      refine (wNew w5 120 120 rfl (by omega) (by omega)).mono ?_
      rintro e w6 ⟨b, bs, rfl, hd6, hb, hbs, hb6⟩
      have F6 := Lib.hid (F5.out.trans (hb6.mono F5.out.size))
      have CC6 := Lib.hid ((hb6.block _ (lt_of_heap CC5.out)).trans CC5.out)
      have HD6 := Lib.hid hd6
      have hbw : w.heap.size ≤ b := Nat.le_trans F5.out.size hb
      have hbsw : w.heap.size ≤ bs := Nat.le_trans F5.out.size hbs
      clear hb6 hd6 F5 CC5 hb hbs
      go_wp2_with fail
      refine (hOpen_new w6 b bs (by omega) (by omega) HD6.out).mono ?_
      rintro e w7 ⟨jb, rv, rfl, hjb, hj7, hr7, hf7⟩
      have hjbw : w.heap.size ≤ jb := Nat.le_trans F6.out.size hjb
      have F7 := Lib.hid (Fr.below_iff.1 ((Fr.below_iff.2 F6.out).then hf7 (by simp; omega)))
      have hbC : C ≠ b ∧ C ≠ bs := by
        obtain ⟨x1, y1⟩ := HD6.out.blk
        obtain ⟨x2, y2⟩ := HD6.out.sure
        have cc := CC6.out
        constructor
        · rintro rfl
          rw [y1] at cc
          simp at cc
        · rintro rfl
          rw [y2] at cc
          simp at cc
      have hjC : C ≠ jb := fun e => Nat.lt_irrefl _ (Nat.lt_of_lt_of_le (lt_of_heap CC6.out) (e ▸ hjb))
      have CC7 := Lib.hid (hf7.keep CC6.out (by simp; exact hbC))
      have HJ7 := Lib.hid hj7
      obtain ⟨A4, c4, rfl, _⟩ := hr7.recs.shape
      clear hf7 hj7 hr7 F6 HD6 hjb CC6
      simp only [List.length_nil]
      go_wp2_with fail
      have h0 := fresh_holds (n := 120) (by omega) (by omega)
      have hlf : (lie ([] ++ first)).length ≤ 15104 := by
        rw [List.nil_append]
        have := lie_le2 first S1.out
        have := N1.out
        have : first.length * 2007 ≤ 6 * 2007 := Nat.mul_le_mul_right _ (by omega)
        omega
      have hsec : (dev1 120).secs = 59 := by unfold Dev.secs; rw [dev1_len]
      have hst := h0.add_older (older_fresh (by omega)) (more := first) (fun r hr => by have := S1.out r hr; omega) (by rw [hsec]; omega) (by decide) (by simp [dev1, Dev.fresh])
      rw [List.nil_append] at hst
      refine (hAdd w7 jb b bs HJ7.out h0.calm.ok (by rw [dev1_len]; omega) (h0.wf (by simp)) (by simp [dev1, Dev.fresh]) _ first (H1.out.below F7.out) (by have := N1.out; omega)).mono ?_
      rintro e w8 ⟨rfl, hj8, hf8⟩
      obtain ⟨J1, hJ1⟩ : ∃ J1, J1 = (jr1.add (dev1 120) first).1 := ⟨_, rfl⟩
      obtain ⟨D1, hD1⟩ : ∃ D1, D1 = (jr1.add (dev1 120) first).2.1 := ⟨_, rfl⟩
      rw [hst.1]
      unfold Stepped2 at hst
      rw [← hJ1, ← hD1] at hst hj8
      obtain ⟨_, hh, hold, hnum, hch, hlen⟩ := hst
      rw [dev1_len] at hlen
      rw [hsec] at hch
      have hnum2 : J1.number ≤ 2 := hnum
      have hch2 : D1.changes ≤ 64 := by
        have : (dev1 120).changes = 2 := rfl
        rw [this] at hch
        omega
      have hsec1 : D1.secs = 59 := by unfold Dev.secs; rw [hlen]
      have HH := Lib.hid hh
      have OLD := Lib.hid hold
      have HJ8 := Lib.hid hj8
      have CC8 := Lib.hid (hf8.keep CC7.out (by simp; exact ⟨hjC, hbC⟩))
      have F8 := Lib.hid (Fr.below_iff.1 ((Fr.below_iff.2 F7.out).then hf8 (by simp; omega)))
      clear hJ1 hD1 hh hold hnum hch hj8 hf8 h0 hlf hsec HJ7 CC7 F7
      obtain ⟨L, hL, hLb⟩ : ∃ L : Nat, wrap64 ((IntKind.u64.wrap after).tmod 60) = (L : Int) ∧ L < 60 := by
        have h1 : 0 ≤ IntKind.u64.wrap after := by rw [IntKind.wrap_u64]; omega
        refine ⟨((IntKind.u64.wrap after).tmod 60).toNat, ?_, ?_⟩ <;> rw [Int.tmod_eq_emod_of_nonneg h1]
        · unfold wrap64; omega
        · omega
      have HL := Lib.hid hL
      clear hL
      have p0 : w8.cell? ⟨C, 0, none⟩ = some (.slice kA kn kc) := cell_of_row _ _ _ _ _ _ CC8.out
      have p1 : w8.cell? ⟨C, 1, none⟩ = some (.int .i64 tn) := cell_of_row _ _ _ _ _ _ CC8.out
      have p2 : w8.cell? ⟨C, 2, none⟩ = some (.int .i64 hf) := cell_of_row _ _ _ _ _ _ CC8.out
      have hoffb : OffB (.slice kA kn kc) kn [b, bs] := HK.out.offB (fun x hx => by
        simp only [List.mem_cons, List.not_mem_nil, or_false] at hx
        rcases hx with rfl | rfl
        · exact .inl hbw
        · exact .inl hbsw)
      have HOFF := Lib.hid hoffb
      clear hoffb
      go_wp2_with fail
      rw [HL.out]
      refine (wPlan w8 b bs D1 HJ8.out.dev (L : Int) (.slice kA kn kc) ks tn hf T (by rw [← KN.out]; exact HK.out.below F8.out) (by rw [← KN.out]; exact HOFF.out.imp id (fun h a m c e hm => h a m c e (by simp at hm ⊢; exact .inl hm))) (by rw [← KN.out]; omega)).mono ?_
      rintro e w9 ⟨rfl, hd9, hf9⟩
      rw [plan_is] at hd9
      obtain ⟨Dp, hDp⟩ : ∃ Dp : Dev, Dp = { D1 with left := (L : Int), kept := ks, torn := tn, half := hf } := ⟨_, rfl⟩
      rw [← hDp] at hd9
      have hks70 : ks.length ≤ 70 := by rw [← KN.out]; exact hk70
      have DPOK := Lib.hid (show Dp.Ok by rw [hDp, ← plan_is]; exact Dev.plan_ok HH.out.calm.ok _ _ _ _ (by omega) htn hhf (by omega))
      have dpl : Dp.sure.length = 120 := by rw [hDp]; exact hlen
      have dps : Dp.secs = 59 := by unfold Dev.secs; rw [dpl]
      have dpc : Dp.changes ≤ 64 := by rw [hDp]; exact hch2
      have CA := Lib.hid (show Cutly D1 ks tn hf (J1.add Dp thn) first (first ++ thn) by rw [hDp]; exact HH.out.torn_add OLD.out L (by omega) htn hhf (fun r hr => by have := S2.out r hr; omega) (by omega) (by omega))
      have CR := Lib.hid (show Cutly D1 ks tn hf (J1.replace Dp thn) first thn by rw [hDp]; exact HH.out.torn_replace OLD.out L (by omega) htn hhf (fun r hr => by have := S2.out r hr; omega) (by omega) (by omega))
      have AOK := Lib.hid (show (J1.add Dp thn).2.1.Ok from add_ok J1 DPOK.out (by omega) (by omega) thn)
      have ROK := Lib.hid (show (J1.replace Dp thn).2.1.Ok from replace_ok J1 DPOK.out (by omega) (by omega) thn)
      have J1WF := Lib.hid (HH.out.wf (by have := N1.out; omega))
      have HJ9 := Lib.hid (HJ8.out.moved hd9 (hf9.mono (by simp)))
      have CC9 := Lib.hid (hf9.keep CC8.out (by simp; exact hbC.1))
      have F9 := Lib.hid (Fr.below_iff.1 ((Fr.below_iff.2 F8.out).then hf9 (by simp; omega)))
      clear hd9 hf9 hDp CC8 F8 HJ8 p0 p1 p2 HH OLD HL
      go_wp2_with fail
      refine (l4texts_any w9 _ first (H1.out.below F9.out) (by have := N1.out; omega)).mono ?_
      rintro e w10 ⟨t1, rfl, ho10, hb10⟩
      have HJ10 := Lib.hid (HJ9.out.below hb10)
      have CC10 := Lib.hid ((hb10.block _ (lt_of_heap CC9.out)).trans CC9.out)
      have F10 := Lib.hid (F9.out.trans (hb10.mono F9.out.size))
      have HO10 := Lib.hid (owns_lower ho10 F9.out.size)
      clear ho10 hb10 HJ9 CC9 F9
      go_wp2_with fail
      refine (l4texts_any w10 _ thn (H2.out.below F10.out) (by have := N2.out; omega)).mono ?_
      rintro e w11 ⟨t2, rfl, ho11, hb11⟩
      have HJ11 := Lib.hid (HJ10.out.below hb11)
      have CC11 := Lib.hid ((hb11.block _ (lt_of_heap CC10.out)).trans CC10.out)
      have F11 := Lib.hid (F10.out.trans (hb11.mono F10.out.size))
      have HO11 := Lib.hid (owns_below HO10.out hb11)
      have HX11 := Lib.hid (RowIs.of_owns ho11)
      clear ho11 hb11 HJ10 CC10 F10 HO10
      obtain ⟨i0, hi, hz0, hz1, hz2⟩ := info_parts infoStr
      have hl1' : first.length ≤ 6 := by have := N1.out; omega
      have hl2' : thn.length ≤ 6 := by have := N2.out; omega
      go_upto_region 10 with (first | (at_builtin; go_must (refine wpList_app _ rfl (.tmp 64) (.tmp 66) 40 rfl w.heap.size 9 i0 _ 1 16 Try.underlying40 hi hz0 hz1 hz2 rfl (by decide) t1 first.length (tv first) rfl HO11.out t2 9 thn.length (tv thn) rfl HX11.out (tv_one _) (by unfold maxLen; omega) (by omega) F11.out.size ?_); intro v12 w12 hown12 hgr12; have HJ12 := Lib.hid (jat_want HJ11.out HO11.out hgr12); have F12 := Lib.hid (below_app F11.out HO11.out (Nat.le_refl _) hgr12 F11.out.size); have CC12 := Lib.hid (keep_own HO11.out CC11.out hgr12); have HO12 := hown12; clear hown12 hgr12 HJ11 HO11 HX11 F11 CC11))
      obtain ⟨new, hnew⟩ : ∃ new, new = first ++ thn := ⟨_, rfl⟩
      have hnl2 : first.length + thn.length = new.length := by rw [hnew, List.length_append]
      rw [← tv_append, ← hnew, hnl2] at HO12
      have hnewl : new.length ≤ 12 := by omega
      rw [← hnew] at CA
      have HO12 := Lib.hid HO12
      clear hnew hnl2
      obtain ⟨Az, cz, rfl⟩ := (RowIs.of_owns HO12.out).shape
      cases rep with
      | true =>
        go_wp2_with fail
        refine (hReplace w12 jb b bs HJ12.out DPOK.out (by omega) J1WF.out (by omega) _ thn (H2.out.below F12.out) (by omega)).mono ?_
        rintro e w13 ⟨rfl, hj13, hf13⟩
        obtain ⟨x, hx⟩ : ∃ x, x = J1.replace Dp thn := ⟨_, rfl⟩
        rw [← hx] at hj13 CR ROK ⊢
        have HJ13 := Lib.hid hj13
        have CC13 := Lib.hid (hf13.keep CC12.out (by simp; exact ⟨hjC, hbC⟩))
        have F13 := Lib.hid (Fr.below_iff.1 ((Fr.below_iff.2 F12.out).then hf13 (by simp; omega)))
        have CUT := CR
        have XOK := ROK
        clear hx hj13 hf13 CA AOK CR ROK HJ12 HO12 CC12 F12 hnewl
        go_wp2_with fail
        refine (l4texts_any w13 _ thn (H2.out.below F13.out) (by omega)).mono ?_
        rintro e w14 ⟨t4, rfl, ho14, hb14⟩
        have HJq := Lib.hid (HJ13.out.below hb14)
        have CCq := Lib.hid ((hb14.block _ (lt_of_heap CC13.out)).trans CC13.out)
        have Fq := Lib.hid (F13.out.trans (hb14.mono F13.out.size))
        have WANT := owns_lower ho14 F13.out.size
        clear ho14 hb14 HJ13 CC13 F13
        obtain ⟨new2, hnew2⟩ : ∃ new2, new2 = thn := ⟨_, rfl⟩
        have hnewl : new2.length ≤ 12 := by rw [hnew2]; omega
        rw [← hnew2] at CUT WANT
        have WANT := Lib.hid WANT
        clear hnew2
        -- x : what the call told; CUT : Hid (Cutly ..); want reads as new
        obtain ⟨hbch, J2, rs2, hJ2, hcode⟩ := CUT.out
        have hbackch : (x.2.1.back ks tn hf).changes + 10 ≤ 1000000000 := by omega
        have HJ2 := Lib.hid hJ2
        clear hbch hJ2 CUT
        rcases hcode with ⟨hc, hrs⟩ | ⟨hc, hrs⟩ | ⟨hc, hrs⟩
        · rw [hc]
          subst hrs
          have hlr : rs2.length ≤ 12 := hnewl
          clear hc
          -- w14: the world's name, x in hand, want's own row WANT; behind it: w17, opened
          have p0 : w14.cell? ⟨C, 0, none⟩ = some (.slice kA kn kc) := cell_of_row _ _ _ _ _ _ CCq.out
          have p1 : w14.cell? ⟨C, 1, none⟩ = some (.int .i64 tn) := cell_of_row _ _ _ _ _ _ CCq.out
          have p2 : w14.cell? ⟨C, 2, none⟩ = some (.int .i64 hf) := cell_of_row _ _ _ _ _ _ CCq.out
          go_wp2_with fail
          refine (wCut w14 b bs _ HJq.out.dev XOK.out (.slice kA kn kc) ks tn hf T (by rw [← KN.out]; exact HK.out.below Fq.out) (by rw [← KN.out]; exact HOFF.out.imp id (fun h a m c e hm => h a m c e (by simp at hm ⊢; exact .inr hm))) (by rw [← KN.out]; omega)).mono ?_
          rintro e w15 ⟨rfl, hd15, hf15⟩
          have WANT15 := Lib.hid (want_dev WANT.out HJq.out.dev hf15)
          have F15 := Lib.hid (Fr.below_iff.1 ((Fr.below_iff.2 Fq.out).then hf15 (by simp; omega)))
          have HD15 := Lib.hid hd15
          clear hd15 hf15 p0 p1 p2 CCq WANT Fq HJq
          go_wp2_with fail
          refine (wOn w15 b bs _ HD15.out).mono ?_
          rintro e w16 ⟨rfl, hd16, hf16⟩
          have WANT16 := Lib.hid (want_dev WANT15.out HD15.out (hf16.mono (by simp)))
          have F16 := Lib.hid (Fr.below_iff.1 ((Fr.below_iff.2 F15.out).then hf16 (by simp; omega)))
          have HD16 := Lib.hid (show DevIs w16 b bs (x.2.1.back ks tn hf) from hd16)
          clear hd16 hf16 WANT15 F15 HD15
          go_wp2_with fail
          refine (hOpen w16 b bs HD16.out HJ2.out hbackch).mono ?_
          rintro e w17 ⟨jb2, rv, rfl, hjb2, hj17, hr17, hf17⟩
          have WANT17 := Lib.hid (want_dev WANT16.out HD16.out hf17)
          have F17 := Lib.hid (Fr.below_iff.1 ((Fr.below_iff.2 F16.out).then hf17 (by simp; omega)))
          obtain ⟨A7, c7, hv7, _⟩ := hr17.recs.shape
          subst hv7
          have HR17 := Lib.hid hr17.recs
          clear hj17 hr17 hf17 hjb2 WANT16 F16 HD16
          go_wp2_with fail
          refine (l4same_any w17 _ _ rs2 rs2 HR17.out ⟨_, RowIs.of_owns WANT17.out⟩ (by omega) (by omega)).mono ?_
          rintro e w18 ⟨rfl, rfl⟩
          rw [decide_eq_true rfl]
          go_wp2
          go_ret
          exact ⟨rfl, F17.out⟩
        · rw [hc]
          clear hc
          go_wp2_with fail
          refine (l4texts_any w14 _ first (H1.out.below Fq.out) (by have := N1.out; omega)).mono ?_
          rintro e w14x ⟨tv1, rfl, ho14, hb14⟩
          have HJr := Lib.hid (HJq.out.below hb14)
          have CCr := Lib.hid ((hb14.block _ (lt_of_heap CCq.out)).trans CCq.out)
          have Fr14 := Lib.hid (Fq.out.trans (hb14.mono Fq.out.size))
          have WANTr := Lib.hid (owns_lower ho14 Fq.out.size)
          clear HJq CCq Fq WANT ho14 hb14
          have HJq := HJr
          have CCq := CCr
          have Fq := Fr14
          have WANT := WANTr
          clear HJr CCr Fr14 WANTr
          have hlr : rs2.length ≤ 12 := by rw [hrs]; have := N1.out; omega
          rw [← hrs] at WANT
          clear hrs
          -- w14x: the world's name, x in hand, want's own row WANT; behind it: w17, opened
          have p0 : w14x.cell? ⟨C, 0, none⟩ = some (.slice kA kn kc) := cell_of_row _ _ _ _ _ _ CCq.out
          have p1 : w14x.cell? ⟨C, 1, none⟩ = some (.int .i64 tn) := cell_of_row _ _ _ _ _ _ CCq.out
          have p2 : w14x.cell? ⟨C, 2, none⟩ = some (.int .i64 hf) := cell_of_row _ _ _ _ _ _ CCq.out
          go_wp2_with fail
          refine (wCut w14x b bs _ HJq.out.dev XOK.out (.slice kA kn kc) ks tn hf T (by rw [← KN.out]; exact HK.out.below Fq.out) (by rw [← KN.out]; exact HOFF.out.imp id (fun h a m c e hm => h a m c e (by simp at hm ⊢; exact .inr hm))) (by rw [← KN.out]; omega)).mono ?_
          rintro e w15 ⟨rfl, hd15, hf15⟩
          have WANT15 := Lib.hid (want_dev WANT.out HJq.out.dev hf15)
          have F15 := Lib.hid (Fr.below_iff.1 ((Fr.below_iff.2 Fq.out).then hf15 (by simp; omega)))
          have HD15 := Lib.hid hd15
          clear hd15 hf15 p0 p1 p2 CCq WANT Fq HJq
          go_wp2_with fail
          refine (wOn w15 b bs _ HD15.out).mono ?_
          rintro e w16 ⟨rfl, hd16, hf16⟩
          have WANT16 := Lib.hid (want_dev WANT15.out HD15.out (hf16.mono (by simp)))
          have F16 := Lib.hid (Fr.below_iff.1 ((Fr.below_iff.2 F15.out).then hf16 (by simp; omega)))
          have HD16 := Lib.hid (show DevIs w16 b bs (x.2.1.back ks tn hf) from hd16)
          clear hd16 hf16 WANT15 F15 HD15
          go_wp2_with fail
          refine (hOpen w16 b bs HD16.out HJ2.out hbackch).mono ?_
          rintro e w17 ⟨jb2, rv, rfl, hjb2, hj17, hr17, hf17⟩
          have WANT17 := Lib.hid (want_dev WANT16.out HD16.out hf17)
          have F17 := Lib.hid (Fr.below_iff.1 ((Fr.below_iff.2 F16.out).then hf17 (by simp; omega)))
          obtain ⟨A7, c7, hv7, _⟩ := hr17.recs.shape
          subst hv7
          have HR17 := Lib.hid hr17.recs
          clear hj17 hr17 hf17 hjb2 WANT16 F16 HD16
          go_wp2_with fail
          refine (l4same_any w17 _ _ rs2 rs2 HR17.out ⟨_, RowIs.of_owns WANT17.out⟩ (by omega) (by omega)).mono ?_
          rintro e w18 ⟨rfl, rfl⟩
          rw [decide_eq_true rfl]
          go_wp2
          go_ret
          exact ⟨rfl, F17.out⟩
        · rw [hc]
          have hlr : rs2.length ≤ 12 := by
            rcases hrs with hrs | hrs
            · rw [hrs]; have := N1.out; omega
            · rw [hrs]; exact hnewl
          have HRS := Lib.hid hrs
          have XC := Lib.hid hc
          clear hc hrs
          -- w14: the world's name, x in hand, want's own row WANT; behind it: w17, opened
          have p0 : w14.cell? ⟨C, 0, none⟩ = some (.slice kA kn kc) := cell_of_row _ _ _ _ _ _ CCq.out
          have p1 : w14.cell? ⟨C, 1, none⟩ = some (.int .i64 tn) := cell_of_row _ _ _ _ _ _ CCq.out
          have p2 : w14.cell? ⟨C, 2, none⟩ = some (.int .i64 hf) := cell_of_row _ _ _ _ _ _ CCq.out
          go_wp2_with fail
          refine (wCut w14 b bs _ HJq.out.dev XOK.out (.slice kA kn kc) ks tn hf T (by rw [← KN.out]; exact HK.out.below Fq.out) (by rw [← KN.out]; exact HOFF.out.imp id (fun h a m c e hm => h a m c e (by simp at hm ⊢; exact .inr hm))) (by rw [← KN.out]; omega)).mono ?_
          rintro e w15 ⟨rfl, hd15, hf15⟩
          have WANT15 := Lib.hid (want_dev WANT.out HJq.out.dev hf15)
          have F15 := Lib.hid (Fr.below_iff.1 ((Fr.below_iff.2 Fq.out).then hf15 (by simp; omega)))
          have HD15 := Lib.hid hd15
          clear hd15 hf15 p0 p1 p2 CCq WANT Fq HJq
          go_wp2_with fail
          refine (wOn w15 b bs _ HD15.out).mono ?_
          rintro e w16 ⟨rfl, hd16, hf16⟩
          have WANT16 := Lib.hid (want_dev WANT15.out HD15.out (hf16.mono (by simp)))
          have F16 := Lib.hid (Fr.below_iff.1 ((Fr.below_iff.2 F15.out).then hf16 (by simp; omega)))
          have HD16 := Lib.hid (show DevIs w16 b bs (x.2.1.back ks tn hf) from hd16)
          clear hd16 hf16 WANT15 F15 HD15
          go_wp2_with fail
          refine (hOpen w16 b bs HD16.out HJ2.out hbackch).mono ?_
          rintro e w17 ⟨jb2, rv, rfl, hjb2, hj17, hr17, hf17⟩
          have WANT17 := Lib.hid (want_dev WANT16.out HD16.out hf17)
          have F17 := Lib.hid (Fr.below_iff.1 ((Fr.below_iff.2 F16.out).then hf17 (by simp; omega)))
          obtain ⟨A7, c7, hv7, _⟩ := hr17.recs.shape
          subst hv7
          have HR17 := Lib.hid hr17.recs
          clear hj17 hr17 hf17 hjb2 WANT16 F16 HD16
          go_wp2_with fail
          by_cases hq : rs2 = new2
          · refine (l4same_any w17 _ _ rs2 new2 HR17.out ⟨_, RowIs.of_owns WANT17.out⟩ (by omega) (by omega)).mono ?_
            rintro e w18 ⟨rfl, rfl⟩
            rw [decide_eq_true hq]
            clear hq
            go_wp2
            go_ret
            exact ⟨rfl, F17.out⟩
          · refine (l4same_any w17 _ _ rs2 new2 HR17.out ⟨_, RowIs.of_owns WANT17.out⟩ (by omega) (by omega)).mono ?_
            rintro e w18 ⟨rfl, rfl⟩
            rw [decide_eq_false hq]
            have HE := Lib.hid (HRS.out.resolve_right hq)
            clear hq
            go_wp2_with fail
            refine (l4texts_any _ _ first (H1.out.below F17.out) (by have := N1.out; omega)).mono ?_
            rintro e w19 ⟨tv9, rfl, ho19, hb19⟩
            have HR19 := Lib.hid (HR17.out.below hb19)
            have F19 := Lib.hid (F17.out.trans (hb19.mono F17.out.size))
            have TX := Lib.hid (RowIs.of_owns ho19)
            clear ho19 hb19 HR17 F17 WANT17
            go_wp2_with fail
            refine (l4same_any w19 _ _ rs2 first HR19.out ⟨_, TX.out⟩ (by omega) (by have := N1.out; omega)).mono ?_
            rintro e w20 ⟨rfl, rfl⟩
            rw [decide_eq_true HE.out]
            go_wp2
            go_ret
            exact ⟨rfl, F19.out⟩
      | false =>
        go_wp2_with fail
        refine (hAdd w12 jb b bs HJ12.out DPOK.out (by omega) J1WF.out (by omega) _ thn (H2.out.below F12.out) (by omega)).mono ?_
        rintro e w13 ⟨rfl, hj13, hf13⟩
        obtain ⟨x, hx⟩ : ∃ x, x = J1.add Dp thn := ⟨_, rfl⟩
        rw [← hx] at hj13 CA AOK ⊢
        have HJq := Lib.hid hj13
        have CCq := Lib.hid (hf13.keep CC12.out (by simp; exact ⟨hjC, hbC⟩))
        have Fq := Lib.hid (Fr.below_iff.1 ((Fr.below_iff.2 F12.out).then hf13 (by simp; omega)))
        have WANT := Lib.hid (want_jn HO12.out HJ12.out hf13)
        have CUT := CA
        have XOK := AOK
        clear hx hj13 hf13 CA AOK CR ROK HJ12 HO12 CC12 F12
        -- x : what the call told; CUT : Hid (Cutly ..); want reads as new
        obtain ⟨hbch, J2, rs2, hJ2, hcode⟩ := CUT.out
        have hbackch : (x.2.1.back ks tn hf).changes + 10 ≤ 1000000000 := by omega
        have HJ2 := Lib.hid hJ2
        clear hbch hJ2 CUT
        rcases hcode with ⟨hc, hrs⟩ | ⟨hc, hrs⟩ | ⟨hc, hrs⟩
        · rw [hc]
          subst hrs
          have hlr : rs2.length ≤ 12 := hnewl
          clear hc
          -- w13: the world's name, x in hand, want's own row WANT; behind it: w17, opened
          have p0 : w13.cell? ⟨C, 0, none⟩ = some (.slice kA kn kc) := cell_of_row _ _ _ _ _ _ CCq.out
          have p1 : w13.cell? ⟨C, 1, none⟩ = some (.int .i64 tn) := cell_of_row _ _ _ _ _ _ CCq.out
          have p2 : w13.cell? ⟨C, 2, none⟩ = some (.int .i64 hf) := cell_of_row _ _ _ _ _ _ CCq.out
          go_wp2_with fail
          refine (wCut w13 b bs _ HJq.out.dev XOK.out (.slice kA kn kc) ks tn hf T (by rw [← KN.out]; exact HK.out.below Fq.out) (by rw [← KN.out]; exact HOFF.out.imp id (fun h a m c e hm => h a m c e (by simp at hm ⊢; exact .inr hm))) (by rw [← KN.out]; omega)).mono ?_
          rintro e w15 ⟨rfl, hd15, hf15⟩
          have WANT15 := Lib.hid (want_dev WANT.out HJq.out.dev hf15)
          have F15 := Lib.hid (Fr.below_iff.1 ((Fr.below_iff.2 Fq.out).then hf15 (by simp; omega)))
          have HD15 := Lib.hid hd15
          clear hd15 hf15 p0 p1 p2 CCq WANT Fq HJq
          go_wp2_with fail
          refine (wOn w15 b bs _ HD15.out).mono ?_
          rintro e w16 ⟨rfl, hd16, hf16⟩
          have WANT16 := Lib.hid (want_dev WANT15.out HD15.out (hf16.mono (by simp)))
          have F16 := Lib.hid (Fr.below_iff.1 ((Fr.below_iff.2 F15.out).then hf16 (by simp; omega)))
          have HD16 := Lib.hid (show DevIs w16 b bs (x.2.1.back ks tn hf) from hd16)
          clear hd16 hf16 WANT15 F15 HD15
          go_wp2_with fail
          refine (hOpen w16 b bs HD16.out HJ2.out hbackch).mono ?_
          rintro e w17 ⟨jb2, rv, rfl, hjb2, hj17, hr17, hf17⟩
          have WANT17 := Lib.hid (want_dev WANT16.out HD16.out hf17)
          have F17 := Lib.hid (Fr.below_iff.1 ((Fr.below_iff.2 F16.out).then hf17 (by simp; omega)))
          obtain ⟨A7, c7, hv7, _⟩ := hr17.recs.shape
          subst hv7
          have HR17 := Lib.hid hr17.recs
          clear hj17 hr17 hf17 hjb2 WANT16 F16 HD16
          go_wp2_with fail
          refine (l4same_any w17 _ _ rs2 rs2 HR17.out ⟨_, RowIs.of_owns WANT17.out⟩ (by omega) (by omega)).mono ?_
          rintro e w18 ⟨rfl, rfl⟩
          rw [decide_eq_true rfl]
          go_wp2
          go_ret
          exact ⟨rfl, F17.out⟩
        · rw [hc]
          clear hc
          go_wp2_with fail
          refine (l4texts_any w13 _ first (H1.out.below Fq.out) (by have := N1.out; omega)).mono ?_
          rintro e w14x ⟨tv1, rfl, ho14, hb14⟩
          have HJr := Lib.hid (HJq.out.below hb14)
          have CCr := Lib.hid ((hb14.block _ (lt_of_heap CCq.out)).trans CCq.out)
          have Fr14 := Lib.hid (Fq.out.trans (hb14.mono Fq.out.size))
          have WANTr := Lib.hid (owns_lower ho14 Fq.out.size)
          clear HJq CCq Fq WANT ho14 hb14
          have HJq := HJr
          have CCq := CCr
          have Fq := Fr14
          have WANT := WANTr
          clear HJr CCr Fr14 WANTr
          have hlr : rs2.length ≤ 12 := by rw [hrs]; have := N1.out; omega
          rw [← hrs] at WANT
          clear hrs
          -- w14x: the world's name, x in hand, want's own row WANT; behind it: w17, opened
          have p0 : w14x.cell? ⟨C, 0, none⟩ = some (.slice kA kn kc) := cell_of_row _ _ _ _ _ _ CCq.out
          have p1 : w14x.cell? ⟨C, 1, none⟩ = some (.int .i64 tn) := cell_of_row _ _ _ _ _ _ CCq.out
          have p2 : w14x.cell? ⟨C, 2, none⟩ = some (.int .i64 hf) := cell_of_row _ _ _ _ _ _ CCq.out
          go_wp2_with fail
          refine (wCut w14x b bs _ HJq.out.dev XOK.out (.slice kA kn kc) ks tn hf T (by rw [← KN.out]; exact HK.out.below Fq.out) (by rw [← KN.out]; exact HOFF.out.imp id (fun h a m c e hm => h a m c e (by simp at hm ⊢; exact .inr hm))) (by rw [← KN.out]; omega)).mono ?_
          rintro e w15 ⟨rfl, hd15, hf15⟩
          have WANT15 := Lib.hid (want_dev WANT.out HJq.out.dev hf15)
          have F15 := Lib.hid (Fr.below_iff.1 ((Fr.below_iff.2 Fq.out).then hf15 (by simp; omega)))
          have HD15 := Lib.hid hd15
          clear hd15 hf15 p0 p1 p2 CCq WANT Fq HJq
          go_wp2_with fail
          refine (wOn w15 b bs _ HD15.out).mono ?_
          rintro e w16 ⟨rfl, hd16, hf16⟩
          have WANT16 := Lib.hid (want_dev WANT15.out HD15.out (hf16.mono (by simp)))
          have F16 := Lib.hid (Fr.below_iff.1 ((Fr.below_iff.2 F15.out).then hf16 (by simp; omega)))
          have HD16 := Lib.hid (show DevIs w16 b bs (x.2.1.back ks tn hf) from hd16)
          clear hd16 hf16 WANT15 F15 HD15
          go_wp2_with fail
          refine (hOpen w16 b bs HD16.out HJ2.out hbackch).mono ?_
          rintro e w17 ⟨jb2, rv, rfl, hjb2, hj17, hr17, hf17⟩
          have WANT17 := Lib.hid (want_dev WANT16.out HD16.out hf17)
          have F17 := Lib.hid (Fr.below_iff.1 ((Fr.below_iff.2 F16.out).then hf17 (by simp; omega)))
          obtain ⟨A7, c7, hv7, _⟩ := hr17.recs.shape
          subst hv7
          have HR17 := Lib.hid hr17.recs
          clear hj17 hr17 hf17 hjb2 WANT16 F16 HD16
          go_wp2_with fail
          refine (l4same_any w17 _ _ rs2 rs2 HR17.out ⟨_, RowIs.of_owns WANT17.out⟩ (by omega) (by omega)).mono ?_
          rintro e w18 ⟨rfl, rfl⟩
          rw [decide_eq_true rfl]
          go_wp2
          go_ret
          exact ⟨rfl, F17.out⟩
        · rw [hc]
          have hlr : rs2.length ≤ 12 := by
            rcases hrs with hrs | hrs
            · rw [hrs]; have := N1.out; omega
            · rw [hrs]; exact hnewl
          have HRS := Lib.hid hrs
          have XC := Lib.hid hc
          clear hc hrs
          -- w13: the world's name, x in hand, want's own row WANT; behind it: w17, opened
          have p0 : w13.cell? ⟨C, 0, none⟩ = some (.slice kA kn kc) := cell_of_row _ _ _ _ _ _ CCq.out
          have p1 : w13.cell? ⟨C, 1, none⟩ = some (.int .i64 tn) := cell_of_row _ _ _ _ _ _ CCq.out
          have p2 : w13.cell? ⟨C, 2, none⟩ = some (.int .i64 hf) := cell_of_row _ _ _ _ _ _ CCq.out
          go_wp2_with fail
          refine (wCut w13 b bs _ HJq.out.dev XOK.out (.slice kA kn kc) ks tn hf T (by rw [← KN.out]; exact HK.out.below Fq.out) (by rw [← KN.out]; exact HOFF.out.imp id (fun h a m c e hm => h a m c e (by simp at hm ⊢; exact .inr hm))) (by rw [← KN.out]; omega)).mono ?_
          rintro e w15 ⟨rfl, hd15, hf15⟩
          have WANT15 := Lib.hid (want_dev WANT.out HJq.out.dev hf15)
          have F15 := Lib.hid (Fr.below_iff.1 ((Fr.below_iff.2 Fq.out).then hf15 (by simp; omega)))
          have HD15 := Lib.hid hd15
          clear hd15 hf15 p0 p1 p2 CCq WANT Fq HJq
          go_wp2_with fail
          refine (wOn w15 b bs _ HD15.out).mono ?_
          rintro e w16 ⟨rfl, hd16, hf16⟩
          have WANT16 := Lib.hid (want_dev WANT15.out HD15.out (hf16.mono (by simp)))
          have F16 := Lib.hid (Fr.below_iff.1 ((Fr.below_iff.2 F15.out).then hf16 (by simp; omega)))
          have HD16 := Lib.hid (show DevIs w16 b bs (x.2.1.back ks tn hf) from hd16)
          clear hd16 hf16 WANT15 F15 HD15
          go_wp2_with fail
          refine (hOpen w16 b bs HD16.out HJ2.out hbackch).mono ?_
          rintro e w17 ⟨jb2, rv, rfl, hjb2, hj17, hr17, hf17⟩
          have WANT17 := Lib.hid (want_dev WANT16.out HD16.out hf17)
          have F17 := Lib.hid (Fr.below_iff.1 ((Fr.below_iff.2 F16.out).then hf17 (by simp; omega)))
          obtain ⟨A7, c7, hv7, _⟩ := hr17.recs.shape
          subst hv7
          have HR17 := Lib.hid hr17.recs
          clear hj17 hr17 hf17 hjb2 WANT16 F16 HD16
          go_wp2_with fail
          by_cases hq : rs2 = new
          · refine (l4same_any w17 _ _ rs2 new HR17.out ⟨_, RowIs.of_owns WANT17.out⟩ (by omega) (by omega)).mono ?_
            rintro e w18 ⟨rfl, rfl⟩
            rw [decide_eq_true hq]
            clear hq
            go_wp2
            go_ret
            exact ⟨rfl, F17.out⟩
          · refine (l4same_any w17 _ _ rs2 new HR17.out ⟨_, RowIs.of_owns WANT17.out⟩ (by omega) (by omega)).mono ?_
            rintro e w18 ⟨rfl, rfl⟩
            rw [decide_eq_false hq]
            have HE := Lib.hid (HRS.out.resolve_right hq)
            clear hq
            go_wp2_with fail
            refine (l4texts_any _ _ first (H1.out.below F17.out) (by have := N1.out; omega)).mono ?_
            rintro e w19 ⟨tv9, rfl, ho19, hb19⟩
            have HR19 := Lib.hid (HR17.out.below hb19)
            have F19 := Lib.hid (F17.out.trans (hb19.mono F17.out.size))
            have TX := Lib.hid (RowIs.of_owns ho19)
            clear ho19 hb19 HR17 F17 WANT17
            go_wp2_with fail
            refine (l4same_any w19 _ _ rs2 first HR19.out ⟨_, TX.out⟩ (by omega) (by have := N1.out; omega)).mono ?_
            rintro e w20 ⟨rfl, rfl⟩
            rw [decide_eq_true HE.out]
            go_wp2
            go_ret
            exact ⟨rfl, F19.out⟩
end Go.Proofs.Yteggldplmbegfaa
