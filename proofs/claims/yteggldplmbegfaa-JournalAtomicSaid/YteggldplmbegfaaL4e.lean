/- LAYER 4's LAWS: JournalFinds, walked. -/
import Derived.Test.YteggldplmbegfaaL4c
import Derived.Test.YteggldplmbegfaaL4d
set_option linter.unusedVariables false
set_option linter.unusedSimpArgs false
namespace Go.Proofs.Yteggldplmbegfaa
open Go.RowKit

/-- A step of a journal that holds rs: it holds rs2 then, a bit later. -/
def Stepped (J : Jr) (D : Dev) (x : Jr × Dev × Int) (rs : List (List UInt8)) : Prop := x.2.2 = 0 ∧ Holds x.1 x.2.1 rs ∧ x.1.number ≤ J.number + 1 ∧ x.2.1.changes ≤ D.changes + D.secs + 3 ∧ x.2.1.sure.length = D.sure.length
theorem Holds.step_add {J : Jr} {D : Dev} {rs : List (List UInt8)} (h : Holds J D rs) {more : List (List UInt8)} (hm : ∀ r ∈ more, r.length ≤ 65531) (hn : J.number < 4611686018427387904) (hch : D.changes + 2100 ≤ 1000000000) :
    Stepped J D (J.add D more) (rs ++ more) ∨ J.add D more = (J, D, 5) := by
  by_cases hne : more = []
  · subst hne
    left
    rw [h.add_none, List.append_nil]
    exact ⟨rfl, h, by simp, by simp only; omega, rfl⟩
  · by_cases hl : (lie (rs ++ more)).length ≤ D.secs * 256
    · left
      obtain ⟨J', e, h', hn', _⟩ := h.add hm hne hl hn hch
      rw [e]
      exact ⟨rfl, h', by simp only; omega, layD_changes D _ _ _ _ h.calm hl, layD_len _ _ _ _ _⟩
    · exact .inr (h.add_full hm hne (by omega))
theorem Holds.step_replace {J : Jr} {D : Dev} {rs : List (List UInt8)} (h : Holds J D rs) {more : List (List UInt8)} (hm : ∀ r ∈ more, r.length ≤ 65531) (hn : J.number < 4611686018427387904) (hch : D.changes + 2100 ≤ 1000000000) :
    Stepped J D (J.replace D more) more ∨ J.replace D more = (J, D, 5) := by
  by_cases hl : (lie more).length ≤ D.secs * 256
  · left
    obtain ⟨J', e, h', hn'⟩ := h.replace hm hl hn hch
    rw [e]
    exact ⟨rfl, h', by simp only; omega, layD_changes D _ _ _ _ h.calm hl, layD_len _ _ _ _ _⟩
  · exact .inr (h.replace_full hm (by omega))
theorem owns_keep {w w' : World} {base : Nat} {e : TypeId} {sz n : Nat} {v : Value} {xs : List Value} (h : w.ownsRow base e sz v n xs) {S : List Nat} (hf : Fr w w' S) (hS : ∀ x ∈ S, x < base ∨ some x ≠ v.ownBlock) : w'.ownsRow base e sz v n xs := by
  refine ⟨h.1, ?_⟩
  rcases h.2 with h | ⟨g, cap, cur, rfl, hb, hg, h2⟩
  · exact .inl h
  · refine .inr ⟨g, cap, cur, rfl, hb, hf.keep hg (fun hx => ?_), h2⟩
    rcases hS g hx with h3 | h3
    · omega
    · exact h3 rfl
theorem own_not {w : World} {base n k : Nat} {T E : TypeId} {v : Value} {xs : List Value} {c : Array Value} (h : w.ownsRow base E 1 v n xs) (hk : w.heap[k]? = some (.cells c T (0, 0))) (hT : T ≠ E) : some k ≠ v.ownBlock := fun e => by
  obtain ⟨c', hc'⟩ := own_type h k e.symm
  rw [hk] at hc'
  simp only [Option.some.injEq, Obj.cells.injEq] at hc'
  exact hT hc'.2.1
theorem want_jn {w w' : World} {base n jb b bs : Nat} {v : Value} {xs : List Value} {J : Jr} {D : Dev} (h : w.ownsRow base 9 1 v n xs) (hj : JAt w jb b bs J D) (hf : Fr w w' [jb, b, bs]) : w'.ownsRow base 9 1 v n xs := by
  obtain ⟨dv, hj⟩ := hj
  obtain ⟨c1, h1⟩ := hj.dev.blk
  obtain ⟨c2, h2⟩ := hj.dev.sure
  refine owns_keep h hf fun x hx => ?_
  simp only [List.mem_cons, List.not_mem_nil, or_false] at hx
  rcases hx with rfl | rfl | rfl
  · exact .inr (own_not h hj.blk (by decide))
  · exact .inr (own_not h h1 (by decide))
  · exact .inr (own_not h h2 (by decide))
theorem want_dev {w w' : World} {base n b bs : Nat} {v : Value} {xs : List Value} {D : Dev} (h : w.ownsRow base 9 1 v n xs) (hj : DevIs w b bs D) (hf : Fr w w' [b, bs]) : w'.ownsRow base 9 1 v n xs := by
  obtain ⟨c1, h1⟩ := hj.blk
  obtain ⟨c2, h2⟩ := hj.sure
  refine owns_keep h hf fun x hx => ?_
  simp only [List.mem_cons, List.not_mem_nil, or_false] at hx
  rcases hx with rfl | rfl
  · exact .inr (own_not h h1 (by decide))
  · exact .inr (own_not h h2 (by decide))
theorem jat_want {w w' : World} {base n jb b bs : Nat} {v : Value} {xs : List Value} {J : Jr} {D : Dev} (hj : JAt w jb b bs J D) (h : w.ownsRow base 9 1 v n xs) (hg : w.grownBy w' v.ownBlock) : JAt w' jb b bs J D := by
  obtain ⟨dv, hj⟩ := hj
  have hf : Fr w w' v.ownBlock.toList := (Fr.refl w _).grown hg (fun k hk => .inl (by simp [hk]))
  have hS : ∀ x ∈ v.ownBlock.toList, ∃ c, w.heap[x]? = some (.cells c 9 (0, 0)) := fun x hx => own_type h x (by simpa using hx)
  refine ⟨dv, ⟨hf.keep hj.blk fun hx => ?_, hj.dev.move hf fun x hx => ?_, hj.row.other hf fun x hx => ?_⟩⟩
  · obtain ⟨c, hc⟩ := hS _ hx
    rw [hj.blk] at hc
    simp at hc
  · obtain ⟨c, hc⟩ := hS _ hx
    exact .inr ⟨_, _, _, hc, by decide, by decide, by decide, by decide⟩
  · obtain ⟨c, hc⟩ := hS _ hx
    exact .inr ⟨_, _, _, hc, by decide⟩
theorem tv_append (a b : List (List UInt8)) : tv (a ++ b) = tv a ++ tv b := by simp [tv]
set_option maxRecDepth 20000 in
set_option maxHeartbeats 4000000 in
theorem JFinds_any (w : World) (A : Option Addr) (n c : Nat) (l : List Op4) (T : TypeId) (hn : l.length = n) (h : RowIs w (.slice A n c) T 6 n (script4 l)) (hnb : n ≤ 9223372036854775807) (hop : ∀ o ∈ l, Op4Is w o) :
    Calls Try.prog 5 #[.slice A n c] w fun e w' => e = .returned (.bool true) ∧ Below w.heap.size w w' := by
  have HOP := Lib.hid hop
  have H := Lib.hid h
  have HN := Lib.hid hn
  clear hop h hn
  go_enter Try.func5, Try.ntmps5
  go_wp2_with fail
  refine (l4lives_any w).mono ?_
  rintro e w1 ⟨rfl, hb1⟩
  go_wp2_with fail
  refine (l4fits_any w1 6 A n c l T HN.out (H.out.below hb1) hnb (fun o ho => ⟨(HOP.out o ho).tn, (HOP.out o ho).tb, (HOP.out o ho).recs.below hb1, (HOP.out o ho).kb⟩)).mono ?_
  rintro e w2 ⟨r, rfl, hfit, hb2⟩
  have hb12 := hb1.trans (hb2.mono hb1.size)
  have F2 := Lib.hid hb12
  clear hb1 hb2 hb12
  cases r with
  | false =>
    go_wp2_with fail
    refine (l4lives_any w2).mono ?_
    rintro e w3 ⟨rfl, hb3⟩
    go_wp2
    go_ret
    exact ⟨rfl, F2.out.trans (hb3.mono F2.out.size)⟩
  | true =>
    obtain ⟨_, _, hn30, hsm⟩ := hfit rfl
    have SM := Lib.hid hsm
    clear hfit hsm
    go_wp2_with fail
    refine (wNew w2 60 60 rfl (by omega) (by omega)).mono ?_
    rintro e w3 ⟨b, bs, rfl, hd3, hb, hbs, hb3⟩
    have F3 := Lib.hid (F2.out.trans (hb3.mono F2.out.size))
    have HD3 := Lib.hid hd3
    have hbw : w.heap.size ≤ b := Nat.le_trans F2.out.size hb
    have hbsw : w.heap.size ≤ bs := Nat.le_trans F2.out.size hbs
    clear hb3 hd3 F2 hb hbs
    go_wp2_with fail
    refine (hOpen_new w3 b bs (by omega) (by omega) HD3.out).mono ?_
    rintro e w4 ⟨jb, rv, rfl, hjb, hj4, hr4, hf4⟩
    have hjbw : w.heap.size ≤ jb := Nat.le_trans F3.out.size hjb
    have F4 := Lib.hid (Fr.below_iff.1 ((Fr.below_iff.2 F3.out).then hf4 (by simp; omega)))
    have HJ4 := Lib.hid hj4
    obtain ⟨A4, c4, rfl, _⟩ := hr4.recs.shape
    clear hf4 hj4 hr4 F3 HD3 hjb
    simp only [List.length_nil]
    have h0 := fresh_holds (n := 60) (by omega) (by omega)
    have H0 := Lib.hid (show Holds jr1 (dev1 60) [] ∧ (dev1 60).sure.length = 60 ∧ jr1.number ≤ 1 + 0 ∧ (dev1 60).changes ≤ 2 + 32 * (0 : Nat) ∧ ([] : List (List UInt8)).length ≤ 6 * 0 from ⟨h0, dev1_len 60, by decide, by simp [dev1, Dev.fresh], by simp⟩)
    clear h0
    go_wp2_with fail
    go_loopw [40, 5, 6, 7, 8] (fun i jv _ _ wv wr => ∃ (k jb : Nat) (J : Jr) (D : Dev) (rs : List (List UInt8)), k ≤ n ∧ i = .int .i64 k ∧ jv = .pointer (some ⟨jb, 0, none⟩) ∧ w.heap.size ≤ jb ∧ JAt wr jb b bs J D ∧
        Hid (Holds J D rs ∧ D.sure.length = 60 ∧ J.number ≤ 1 + k ∧ D.changes ≤ 2 + 32 * k ∧ rs.length ≤ 6 * k) ∧ wr.ownsRow w.heap.size 9 1 wv rs.length (tv rs) ∧ Below w.heap.size w wr) (fun i _ _ _ _ _ => n - (intOf i).toNat)
    case atStart => exact ⟨0, jb, jr1, dev1 60, [], Nat.zero_le _, rfl, rfl, hjbw, HJ4.out, H0, World.ownsRow_nil _ _ _ _, F4.out⟩
    case round =>
      clear H0 HJ4 F4
      obtain ⟨k, jb, J, D, rs, hk, rfl, rfl, hjbw, hj, hh, hown, hb⟩ := hrel
      by_cases hlt : k < n
      · obtain ⟨g, o, rfl, cur, fr, hcur, hx, hcell⟩ := script4_at H.out HN.out k hlt
        have hrow := (hb.block g (lt_of_heap hcur)).trans hcur
        obtain ⟨p, hp0⟩ : ∃ p, p = l[k] := ⟨_, rfl⟩
        rw [← hp0] at hcell
        have hmem : p ∈ l := by rw [hp0]; exact List.getElem_mem _
        have hpb : Op4Is w p := HOP.out p hmem
        have hsmall : Small p := SM.out p hmem
        have htn := hpb.tn
        have hrs6 := hsmall.1
        have HPB := Lib.hid hpb
        have HSM := Lib.hid hsmall
        have HC := Lib.hid hcell
        have HJ := Lib.hid hj
        have HO := Lib.hid hown
        have HB := Lib.hid hb
        have HR := Lib.hid hrow
        clear hcell hp0 hpb hmem hsmall hj hown hb hcur hrow
        have hz : (Try.prog.info? 56).map (·.size) = some (op4Cells p).length := zeroOp4
        have hone := op4_one p
        have hfit : 0 + (op4Cells p).length ≤ (#[Value.int .i64 0, .slice none 0 0, .int .i64 0, .slice none 0 0, .int .i64 0, .int .i64 0] : Array Value).size := by simp [op4_length]
        go_upto_region 11 with (first
          | ((with_reducible show wpList _ _ _ (Oper.mk _ (.load 56 _) _ _ _ _ :: _) _ _); go_must (refine wpList_load_mid rfl 56 (.tmp 42) rfl g (o + k * 6) rfl T cur fr _ (op4Cells p) HR.out Try.underlying56 rfl hz HC.out ?_))
          | ((with_reducible show wpList _ _ _ (Oper.mk _ (.alloc 56) _ _ _ _ :: _) _ _); go_must (refine wpList_alloc_row rfl 56 rfl _ zrowOp4 ?_); intro w5 hn2 hg2 hs2)
          | ((with_reducible show wpList _ _ _ (Oper.mk _ (.store 56 _ _) _ _ _ _ :: _) _ _); go_must (refine wpList_store_mid rfl rfl 56 (.tmp 10) (.tmp 43) rfl wr.heap.size 0 rfl (op4Cells p) rfl 56 _ hn2 hz hfit hone ?_); intro w6 hn3 hg3 hs3; clear hn2))
        rw [splice_all _ _ (by rfl)] at hn3
        have F6 : Fr wr w6 [] := ((Fr.refl wr []).grown hg2 (by simp)).grown hg3 (by simp)
        have hb6 := Fr.below_iff.1 F6
        have HB6 := Lib.hid (HB.out.trans (hb6.mono HB.out.size))
        have HJ6 := Lib.hid (HJ.out.below hb6)
        have HO6 := Lib.hid (owns_below HO.out hb6)
        have p0 : w6.cell? ⟨wr.heap.size, 0, none⟩ = some (.int .i64 p.kind) := cell_of_row _ _ _ _ _ _ hn3
        have p1 : w6.cell? ⟨wr.heap.size, 1, none⟩ = some (.slice p.tA p.tn p.tc) := cell_of_row _ _ _ _ _ _ hn3
        have HN3 := Lib.hid hn3
        have hjl : jb ≠ wr.heap.size := fun e => Nat.lt_irrefl _ (e ▸ HJ.out.lt)
        have hbl : b ≠ wr.heap.size := fun e => Nat.lt_irrefl _ (e ▸ HJ.out.dev.lt.1)
        have hbsl : bs ≠ wr.heap.size := fun e => Nat.lt_irrefl _ (e ▸ HJ.out.dev.lt.2)
        have HREC := Lib.hid (HPB.out.recs.below HB6.out)
        have hD60 := hh.out.2.1
        have hJn := hh.out.2.2.1
        have hDc := hh.out.2.2.2.1
        have hrl := hh.out.2.2.2.2
        have HH := Lib.hid hh.out.1
        have hsec : D.secs = 29 := by unfold Dev.secs; rw [hD60]
        clear hg2 hg3 hs2 hs3 hn3 F6 HR HC hb6 HJ HO HB hh
        by_cases hk0 : (IntKind.u64.wrap p.kind).tmod 5 = 0
        · go_wp2_with fail
          refine (hAdd w6 jb b bs HJ6.out HH.out.calm.ok (by omega) (HH.out.wf (by omega)) (by omega) _ p.rs HREC.out (by omega)).mono ?_
          rintro e w7 ⟨rfl, hj7, hf7⟩
          have hst := HH.out.step_add (more := p.rs) (fun r hr => Nat.le_trans (HSM.out.2.2 r hr) (by omega)) (by omega) (by omega)
          have hn7 := hf7.keep HN3.out (by simp; omega)
          have q1 : w7.cell? ⟨wr.heap.size, 1, none⟩ = some (.slice p.tA p.tn p.tc) := cell_of_row _ _ _ _ _ _ hn7
          have HO7 := Lib.hid (want_jn HO6.out HJ6.out hf7)
          have F7 := Lib.hid (Fr.below_iff.1 ((Fr.below_iff.2 HB6.out).then hf7 (by simp; omega)))
          have HREC7 := Lib.hid (HPB.out.recs.below F7.out)
          rcases hst with hst | hst
          · obtain ⟨J', hJ'⟩ : ∃ J', J' = (J.add D p.rs).1 := ⟨_, rfl⟩
            obtain ⟨D', hD'⟩ : ∃ D', D' = (J.add D p.rs).2.1 := ⟨_, rfl⟩
            rw [hst.1]
            unfold Stepped at hst
            rw [← hJ', ← hD'] at hst hj7
            have HJ7 := Lib.hid hj7
            have hd60 : D'.sure.length = 60 := hst.2.2.2.2.trans hD60
            have hd1 := hst.2.2.1
            have hd2 := hst.2.2.2.1
            rw [hsec] at hd2
            have HH7 := Lib.hid hst.2.1
            clear hJ' hD' hst hj7 hf7 hn7 HH HJ6 HO6 p0 p1 HB6 HREC HN3
            go_wp2_with fail
            refine (l4texts_any w7 _ p.rs HREC7.out (by omega)).mono ?_
            rintro e w8 ⟨tv8, rfl, ho8, hb8⟩
            have HX8 := Lib.hid (RowIs.of_owns ho8)
            have HJ8 := Lib.hid (HJ7.out.below hb8)
            have HO8 := Lib.hid (owns_below HO7.out hb8)
            have F8 := Lib.hid (F7.out.trans (hb8.mono F7.out.size))
            clear ho8 hb8 HJ7 HO7 F7 HREC7 q1
            obtain ⟨i0, hi, hz0, hz1, hz2⟩ := info_parts infoStr
            go_wp2_with (at_builtin; go_must (refine wpList_app _ rfl (.tmp 70) (.tmp 73) 40 rfl w.heap.size 9 i0 _ 1 16 Try.underlying40 hi hz0 hz1 hz2 rfl (by decide) u8 rs.length (tv rs) rfl HO8.out tv8 9 p.rs.length (tv p.rs) rfl HX8.out (tv_one _) (by unfold maxLen; omega) (by omega) F8.out.size ?_); intro v9 w9 hown9 hgr9; have HJ9 := Lib.hid (jat_want HJ8.out HO8.out hgr9); have F9 := Lib.hid (below_app F8.out HO8.out (Nat.le_refl _) hgr9 F8.out.size); have HO9 := hown9; clear hown9 hgr9 HJ8 HO8 HX8 F8)
            obtain ⟨rs2, hrs2⟩ : ∃ rs2, rs2 = rs ++ p.rs := ⟨_, rfl⟩
            have hl2 : rs.length + p.rs.length = rs2.length := by rw [hrs2, List.length_append]
            rw [← tv_append, ← hrs2, hl2] at HO9
            rw [← hrs2] at HH7
            have HOZ := Lib.hid HO9
            clear HO9 hrs2
            obtain ⟨Az, cz, rfl⟩ := (RowIs.of_owns HOZ.out).shape
            refine (hLen _ jb b bs HJ9.out).mono ?_
            rintro e wl ⟨rfl, rfl⟩
            rw [HH7.out.count]
            go_wp2_with fail
            refine (wLoose _ b bs _ HJ9.out.dev).mono ?_
            rintro e wl ⟨rfl, rfl⟩
            rw [HH7.out.calm.loose]
            simp only [List.length_nil]
            go_wp2
            go_roundw
            case rel => exact ⟨k + 1, jb, J', D', rs2, by omega, by go_num, rfl, hjbw, HJ9.out, Lib.hid ⟨HH7.out, by omega, by omega, by omega, by omega⟩, HOZ.out, F9.out⟩
            case measure => simp [intOf]; omega
          · rw [hst] at hj7 ⊢
            simp only at hj7 ⊢
            have HJ7 := Lib.hid hj7
            clear hst hj7 hf7 hn7 HJ6 HO6 p0 p1 HB6 HREC HN3 HREC7 q1
            obtain ⟨Aw, cw, rfl⟩ := (RowIs.of_owns HO7.out).shape
            go_wp2_with fail
            refine (hLen _ jb b bs HJ7.out).mono ?_
            rintro e wl ⟨rfl, rfl⟩
            rw [HH.out.count]
            go_wp2_with fail
            refine (wLoose _ b bs _ HJ7.out.dev).mono ?_
            rintro e wl ⟨rfl, rfl⟩
            rw [HH.out.calm.loose]
            simp only [List.length_nil]
            go_wp2
            go_roundw
            case rel => exact ⟨k + 1, jb, J, D, rs, by omega, by go_num, rfl, hjbw, HJ7.out, Lib.hid ⟨HH.out, by omega, by omega, by omega, by omega⟩, HO7.out, F7.out⟩
            case measure => simp [intOf]; omega
        by_cases hk1 : (IntKind.u64.wrap p.kind).tmod 5 = 1
        · go_wp2_with fail
          refine (hReplace w6 jb b bs HJ6.out HH.out.calm.ok (by omega) (HH.out.wf (by omega)) (by omega) _ p.rs HREC.out (by omega)).mono ?_
          rintro e w7 ⟨rfl, hj7, hf7⟩
          have hst := HH.out.step_replace (more := p.rs) (fun r hr => Nat.le_trans (HSM.out.2.2 r hr) (by omega)) (by omega) (by omega)
          have hn7 := hf7.keep HN3.out (by simp; omega)
          have q1 : w7.cell? ⟨wr.heap.size, 1, none⟩ = some (.slice p.tA p.tn p.tc) := cell_of_row _ _ _ _ _ _ hn7
          have HO7 := Lib.hid (want_jn HO6.out HJ6.out hf7)
          have F7 := Lib.hid (Fr.below_iff.1 ((Fr.below_iff.2 HB6.out).then hf7 (by simp; omega)))
          have HREC7 := Lib.hid (HPB.out.recs.below F7.out)
          rcases hst with hst | hst
          · obtain ⟨J', hJ'⟩ : ∃ J', J' = (J.replace D p.rs).1 := ⟨_, rfl⟩
            obtain ⟨D', hD'⟩ : ∃ D', D' = (J.replace D p.rs).2.1 := ⟨_, rfl⟩
            rw [hst.1]
            unfold Stepped at hst
            rw [← hJ', ← hD'] at hst hj7
            have HJ7 := Lib.hid hj7
            have hd60 : D'.sure.length = 60 := hst.2.2.2.2.trans hD60
            have hd1 := hst.2.2.1
            have hd2 := hst.2.2.2.1
            rw [hsec] at hd2
            have HH7 := Lib.hid hst.2.1
            clear hJ' hD' hst hj7 hf7 hn7 HH HJ6 HO6 p0 p1 HB6 HREC HN3
            go_wp2_with fail
            refine (l4texts_any w7 _ p.rs HREC7.out (by omega)).mono ?_
            rintro e w8 ⟨tv8, rfl, ho8, hb8⟩
            have HJ8 := Lib.hid (HJ7.out.below hb8)
            have HOZ := Lib.hid (owns_lower ho8 F7.out.size)
            have F8 := Lib.hid (F7.out.trans (hb8.mono F7.out.size))
            clear ho8 hb8 HJ7 HO7 F7 HREC7 q1
            obtain ⟨rs2, hrs2⟩ : ∃ rs2, rs2 = p.rs := ⟨_, rfl⟩
            have hl6 : rs2.length ≤ 6 := by rw [hrs2]; exact hrs6
            rw [← hrs2] at HH7 HOZ
            clear hrs2
            obtain ⟨Az, cz, rfl⟩ := (RowIs.of_owns HOZ.out).shape
            go_wp2_with fail
            refine (hLen _ jb b bs HJ8.out).mono ?_
            rintro e wl ⟨rfl, rfl⟩
            rw [HH7.out.count]
            go_wp2_with fail
            refine (wLoose _ b bs _ HJ8.out.dev).mono ?_
            rintro e wl ⟨rfl, rfl⟩
            rw [HH7.out.calm.loose]
            simp only [List.length_nil]
            go_wp2
            go_roundw
            case rel => exact ⟨k + 1, jb, J', D', rs2, by omega, by go_num, rfl, hjbw, HJ8.out, Lib.hid ⟨HH7.out, by omega, by omega, by omega, by omega⟩, HOZ.out, F8.out⟩
            case measure => simp [intOf]; omega
          · rw [hst] at hj7 ⊢
            simp only at hj7 ⊢
            have HJ7 := Lib.hid hj7
            clear hst hj7 hf7 hn7 HJ6 HO6 p0 p1 HB6 HREC HN3 HREC7 q1
            obtain ⟨Aw, cw, rfl⟩ := (RowIs.of_owns HO7.out).shape
            go_wp2_with fail
            refine (hLen _ jb b bs HJ7.out).mono ?_
            rintro e wl ⟨rfl, rfl⟩
            rw [HH.out.count]
            go_wp2_with fail
            refine (wLoose _ b bs _ HJ7.out.dev).mono ?_
            rintro e wl ⟨rfl, rfl⟩
            rw [HH.out.calm.loose]
            simp only [List.length_nil]
            go_wp2
            go_roundw
            case rel => exact ⟨k + 1, jb, J, D, rs, by omega, by go_num, rfl, hjbw, HJ7.out, Lib.hid ⟨HH.out, by omega, by omega, by omega, by omega⟩, HO7.out, F7.out⟩
            case measure => simp [intOf]; omega
        · have hz0 : ((IntKind.u64.wrap p.kind).tmod 5 == 0) = false := beq_false_of_ne hk0
          have hz1 : ((IntKind.u64.wrap p.kind).tmod 5 == 1) = false := beq_false_of_ne hk1
          go_wp2_with fail
          refine (hOpen w6 b bs HJ6.out.dev HH.out (by omega)).mono ?_
          rintro e w7 ⟨jb2, rv, rfl, hjb2, hj7, hr7, hf7⟩
          have HJ7 := Lib.hid hj7
          have HO7 := Lib.hid (want_dev HO6.out HJ6.out.dev hf7)
          have F7 := Lib.hid (Fr.below_iff.1 ((Fr.below_iff.2 HB6.out).then hf7 (by simp; omega)))
          have hjbw2 : w.heap.size ≤ jb2 := Nat.le_trans HB6.out.size hjb2
          obtain ⟨A7, c7, hv7, _⟩ := hr7.recs.shape
          subst hv7
          have HR7 := Lib.hid hr7.recs
          clear hj7 hf7 hr7 HJ6 HO6 p0 p1 HB6 HREC HN3 hjb2 hjbw
          obtain ⟨Aw, cw, rfl⟩ := (RowIs.of_owns HO7.out).shape
          go_wp2_with fail
          refine (l4same_any w7 _ _ rs rs HR7.out ⟨_, RowIs.of_owns HO7.out⟩ (by omega) (by omega)).mono ?_
          rintro e w8 ⟨rfl, rfl⟩
          rw [decide_eq_true rfl]
          go_wp2_with fail
          refine (hLen _ jb2 b bs HJ7.out).mono ?_
          rintro e wl ⟨rfl, rfl⟩
          rw [HH.out.count]
          go_wp2_with fail
          refine (wLoose _ b bs _ HJ7.out.dev).mono ?_
          rintro e wl ⟨rfl, rfl⟩
          rw [HH.out.calm.loose]
          simp only [List.length_nil]
          go_wp2
          go_roundw
          case rel => exact ⟨k + 1, jb2, J, D, rs, by omega, by go_num, rfl, hjbw2, HJ7.out, Lib.hid ⟨HH.out, by omega, by omega, by omega, by omega⟩, HO7.out, F7.out⟩
          case measure => simp [intOf]; omega
      · obtain rfl : k = n := by omega
        have HJ := Lib.hid hj
        have HO := Lib.hid hown
        have HB := Lib.hid hb
        have hDc := hh.out.2.2.2.1
        have hrl := hh.out.2.2.2.2
        have HH := Lib.hid hh.out.1
        clear hj hown hb hh
        go_wp2_with fail
        refine (hOpen wr b bs HJ.out.dev HH.out (by omega)).mono ?_
        rintro e w7 ⟨jb2, rv, rfl, hjb2, hj7, hr7, hf7⟩
        have HO7 := Lib.hid (want_dev HO.out HJ.out.dev hf7)
        have F7 := Lib.hid (Fr.below_iff.1 ((Fr.below_iff.2 HB.out).then hf7 (by simp; omega)))
        obtain ⟨A7, c7, hv7, _⟩ := hr7.recs.shape
        subst hv7
        have HR7 := Lib.hid hr7.recs
        clear hj7 hf7 hr7 HJ HO HB hjb2 hjbw
        go_wp2_with fail
        refine (l4same_any w7 _ _ rs rs HR7.out ⟨_, RowIs.of_owns HO7.out⟩ (by omega) (by omega)).mono ?_
        rintro e w8 ⟨rfl, rfl⟩
        rw [decide_eq_true rfl]
        go_wp2
        go_ret
        exact ⟨rfl, F7.out⟩
end Go.Proofs.Yteggldplmbegfaa
