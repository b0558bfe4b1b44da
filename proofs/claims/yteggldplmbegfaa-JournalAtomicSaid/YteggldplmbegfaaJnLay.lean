/- (*Journal).lay, walked. -/
import Derived.Test.YteggldplmbegfaaJnTell
set_option linter.unusedVariables false
set_option linter.unusedSimpArgs false
namespace Go.Proofs.Yteggldplmbegfaa
open Go.RowKit

theorem made5b (n : Nat) : (madeCells (Value.int .u8 0).cells (n * 1)).toList = bv (List.replicate n 0) := by
  refine List.ext_getElem ?_ fun i h1 h2 => ?_
  · rw [Array.length_toList, size_madeCells, bv_length, List.length_replicate, Nat.mul_one]
  · simp [madeCells, bv, Value.cells, Nat.mod_one]
theorem pad_splice (n : Nat) (l : List UInt8) : splice (bv (List.replicate n 0)) 0 (bv l) = bv (l ++ List.replicate (n - l.length) 0) := by
  rw [bv_append]
  simp only [splice, List.take_zero, List.nil_append, Nat.zero_add, bv_length]
  congr 1
  simp [bv]
theorem chunk_splice (all : List UInt8) (i : Nat) : splice (bv (List.replicate 256 0)) 0 (bv ((all.drop (i * 256)).take 256)) = bv (chunk all i) := by
  unfold chunk
  exact pad_splice 256 _
theorem div_small {n : Nat} (h : n ≤ 1000000000) : n / 256 ≤ 4000000 := by omega
theorem wrap_small (n : Nat) (h : n ≤ 2000000000) : wrap64 (n : Int) = (n : Int) := by unfold wrap64; omega
theorem big_eq {n : Nat} (h : n = 4611686018427387904) : ((n : Int) == 4611686018427387904) = true := by
  have e : (n : Int) = 4611686018427387904 := by omega
  rw [e]
  exact beq_self_eq_true _
theorem big_ne {n : Nat} (h : ¬ n = 4611686018427387904) : ((n : Int) == 4611686018427387904) = false := beq_false_of_ne (by omega)
theorem secs_le {D : Dev} (h : D.sure.length ≤ 4096) : D.secs ≤ 2047 := by unfold Dev.secs; omega
theorem layW_enough (side : Nat) (all : List UInt8) (k i : Nat) (D : Dev) (h : all.length ≤ i * 256) : layW side all k i D = (D, 0) := by
  have hn : ¬ i * 256 < all.length := by omega
  cases k with
  | zero => rfl
  | succ k => rw [layW, if_neg hn]
theorem tell_data (J : Jr) (D : Dev) (n side used : Nat) : (J.tell D n side used).1.data = J.data ∧ (J.tell D n side used).1.count = J.count := by
  unfold Jr.tell
  simp only
  split
  · split
    · exact ⟨rfl, rfl⟩
    · exact ⟨rfl, rfl⟩
  · exact ⟨rfl, rfl⟩
theorem JIs.dev_own {w w' : World} {jb b bs : Nat} {dv : Value} {J : Jr} {D : Dev} (h : JIs w jb b bs dv J D) (hf : Fr w w' [jb]) : DevIs w' b bs D := by
  refine h.dev.move hf ?_
  intro x hx
  simp only [List.mem_cons, List.not_mem_nil, or_false] at hx
  subst hx
  exact .inr ⟨_, _, _, h.blk, by decide, by decide, by decide, by decide⟩
theorem chunk_min (all : List UInt8) (k : Nat) : (bv ((all.drop (k * 256)).take 256)).length = Nat.min (all.length - k * 256) 256 := by
  rw [bv_length, List.length_take, List.length_drop]
  exact Nat.min_comm _ _
theorem bv_take_get {l : List UInt8} {n j : Nat} {v : Value} (h : (bv (l.take n))[j]? = some v) : (bv l)[j]? = some v := by
  rw [bv_get] at h ⊢
  rw [List.getElem?_take] at h
  split at h
  · exact h
  · cases h
theorem off_of {w : World} {jb b bs n : Nat} {dv av : Value} {J : Jr} {D : Dev} {l : List Value} (h : RowIs w av 5 1 n l) (hj : JIs w jb b bs dv J D) : OffB av n [jb, b, bs] := by
  obtain ⟨cb, hb⟩ := hj.dev.blk
  obtain ⟨cs, hs⟩ := hj.dev.sure
  refine h.offB fun x hx => ?_
  simp only [List.mem_cons, List.not_mem_nil, or_false] at hx
  rcases hx with rfl | rfl | rfl
  · exact .inr ⟨_, _, _, hj.blk, by decide⟩
  · exact .inr ⟨_, _, _, hb, by decide⟩
  · exact .inr ⟨_, _, _, hs, by decide⟩
set_option maxRecDepth 20000 in
theorem tdiv256 (n : Nat) : (n : Int).tdiv 256 = ((n / 256 : Nat) : Int) := by
  rw [Int.tdiv_eq_ediv_of_nonneg (by omega)]
  omega
set_option maxRecDepth 20000 in
set_option maxHeartbeats 2000000 in
theorem jlay_any (w : World) (jb b bs : Nat) (dv : Value) (J : Jr) (D : Dev) (h : JIs w jb b bs dv J D) (hok : D.Ok) (h6 : 2 ≤ D.sure.length) (hnum : J.number ≤ 4611686018427387904) (side there : Nat) (hside : side ≤ 1) (hth : there ≤ 1000000000)
    (all : List UInt8) (av : Value) (ha : RowIs w av 5 1 all.length (bv all)) (hal : all.length ≤ 1000000000) (hch : D.changes + 2100 ≤ 1000000000) (count : Int) :
    Calls Try.prog 62 #[.pointer (some ⟨jb, 0, none⟩), .int .i64 side, .int .i64 there, av, .int .i64 count] w fun e w' =>
      e = .returned (.int .i64 (J.lay D side there all count).2.2) ∧ (∃ dv', JIs w' jb b bs dv' (J.lay D side there all count).1 (J.lay D side there all count).2.1) ∧ Fr w w' [jb, b, bs] := by
  have hsecs : D.secs ≤ 2047 := secs_le hok.wf.hi
  have hhi := hok.wf.hi
  obtain ⟨A, c, rfl⟩ := ha.shape
  have c1 : w.cell? ⟨jb, 1, none⟩ = some (.int .u64 J.number) := cell_of_row _ _ _ _ _ _ h.blk
  have c0 : w.cell? ⟨jb, 0, none⟩ = some (.pointer (some ⟨b, 0, none⟩)) := cell_of_row _ _ _ _ _ _ h.blk
  by_cases hend : J.number = 4611686018427387904
  · have HL := Lib.hid (show J.lay D side there all count = (J, D, 5) by unfold Jr.lay; rw [if_pos (.inl hend)])
    have hb : ((J.number : Int) == 4611686018427387904) = true := big_eq hend
    clear hend
    go_enter Try.func62, Try.ntmps62
    go_wp2
    go_ret
    rw [HL.out]
    exact ⟨rfl, ⟨dv, h⟩, Fr.refl _ _⟩
  · have hb : ((J.number : Int) == 4611686018427387904) = false := big_ne hend
    have ew : wrap64 ((D.secs : Int) * 256) = (D.secs : Int) * 256 := by unfold wrap64; omega
    have ew2 : IntKind.i64.wrap ((D.secs : Int) * 256) = (D.secs : Int) * 256 := by rw [IntKind.wrap_i64]; omega
    by_cases hbig : D.secs * 256 < all.length
    · have HL := Lib.hid (show J.lay D side there all count = (J, D, 5) by unfold Jr.lay; rw [if_pos (.inr hbig)])
      have g1 : ((D.secs : Int) * 256 < (all.length : Int)) := by omega
      go_enter Try.func62, Try.ntmps62
      go_wp2_with fail
      refine (jsectors_any w b bs D h.dev h6 hhi).mono ?_
      rintro e w' ⟨rfl, rfl⟩
      go_wp2
      go_ret
      rw [HL.out]
      exact ⟨rfl, ⟨dv, h⟩, Fr.refl _ _⟩
    · have g1 : ¬ ((D.secs : Int) * 256 < (all.length : Int)) := by omega
      have HL := Lib.hid (show J.lay D side there all count = (let w := layW side all (all.length + 1) (there / 256) D
        if w.2 = 0 then
          let b := w.1.barrier
          if b.2 = 0 then
            let t := J.tell b.1 (J.number + 1) side all.length
            if t.2.2 = 0 then ({ t.1 with data := all, count := count }, t.2.1, 0) else t
          else ({ J with broken := true }, b.1, b.2)
        else ({ J with broken := true }, w.1, w.2)) by unfold Jr.lay; rw [if_neg (by omega)])
      have et := tdiv256 there
      have et2 : wrap64 ((there / 256 : Nat) : Int) = ((there / 256 : Nat) : Int) := wrap_small _ (Nat.le_trans (div_small hth) (by decide))
      obtain ⟨i0, hi0⟩ : ∃ i0, i0 = there / 256 := ⟨_, rfl⟩
      have hi0b : i0 ≤ 4000000 := by rw [hi0]; exact div_small hth
      rw [← hi0] at et et2 HL
      clear hi0
      have H := Lib.hid h
      have HA := Lib.hid ha
      go_enter Try.func62, Try.ntmps62
      go_wp2_with fail
      refine (jsectors_any w b bs D h.dev h6 hhi).mono ?_
      rintro e w' ⟨rfl, rfl⟩
      clear h ha
      go_wp2_with fail
      go_loopw [11] (fun i wr => ∃ (k fuel : Nat) (D1 : Dev), i = .int .i64 k ∧ i0 ≤ k ∧ k ≤ i0 + 2048 ∧ all.length < (k + fuel) * 256 ∧ Hid (layW side all (all.length + 1) i0 D = layW side all fuel k D1) ∧ JIs wr jb b bs dv J D1 ∧ D1.Ok ∧ D1.changes + i0 ≤ D.changes + k ∧ Hid (D1.sure.length = D.sure.length) ∧ Fr w' wr [jb, b, bs])
        (fun i _ => all.length + 1 - (intOf i).toNat)
      case atStart => exact ⟨i0, all.length + 1, D, rfl, Nat.le_refl _, by omega, by omega, Lib.hid rfl, H.out, hok, by omega, Lib.hid rfl, Fr.refl _ _⟩
      case round =>
        obtain ⟨k, fuel, D1, rfl, hk0, hk1, hfu, hlw, hj, hok1, hch1, hlen, hf⟩ := hrel
        have H1 := Lib.hid hj
        have F1 := Lib.hid hf
        have HLEN := hlen
        have g0 : wr.cell? ⟨jb, 0, none⟩ = some (.pointer (some ⟨b, 0, none⟩)) := cell_of_row _ _ _ _ _ _ hj.blk
        have hkw : wrap64 ((k : Int) * 256) = (k : Int) * 256 := by unfold wrap64; omega
        by_cases hlt : k * 256 < all.length
        · obtain ⟨fuel, rfl⟩ : ∃ f, fuel = f + 1 := ⟨fuel - 1, by omega⟩
          have hlti : (k : Int) * 256 < (all.length : Int) := by omega
          have HLW := Lib.hid (show layW side all (all.length + 1) i0 D = (let w := D1.write ((2 + side * D1.secs + k : Nat) : Int) (chunk all k)
              if w.2 = 0 then layW side all fuel (k + 1) w.1 else w) by rw [hlw.out]; conv => lhs; unfold layW; rw [if_pos hlt])
          have hA1 := HA.out.apart (F1.out) (off_of HA.out H.out)
          have HA1 := Lib.hid hA1
          clear hj hf hlw hA1
          obtain ⟨z0, hi, hz0, hz1, hz2⟩ := info_parts info5
          go_upto_region 7 with (at_make; refine wpList_make_full _ rfl _ _ 33 rfl wr.heap.size 5 z0 _ 1 Try.underlying33 hi hz0 hz1 .i64 .i64 256 256 256 rfl rfl rfl rfl ?c1 ?c2 ?c3 ?_; rotate_right; intro w1 hown hgr)
          case c2 => unfold maxLen; omega
          have hro := owns_row hown rfl
          rw [made5b 256] at hro
          have HG1 := Lib.hid hgr
          have HRO := Lib.hid hro
          have HA2 := Lib.hid (HA1.out.grown hgr)
          clear hown hgr hro
          have hnz : all.length - k * 256 ≠ 0 := by omega
          go_upto_region 8 with (first
            | ((with_reducible show wpList _ _ _ (Oper.mk _ (.slice _ _ (some _) none _) _ _ _ _ :: _) _ _); go_must (refine wpList_sub_l rfl (.tmp 44) (.tmp 46) rfl A all.length c 5 all rfl rfl HA2.out .i64 (k * 256) (congrArg (Value.int .i64) (by omega)) (by omega) ?_); intro vc hvc; go_must (obtain ⟨av0, cv0, hve⟩ := hvc.shape); subst hve; go_must (obtain ⟨ad, hadr⟩ := hvc.nonempty hnz); subst hadr; have HVC := Lib.hid hvc; clear hvc)
            | ((with_reducible show wpList _ _ _ (Oper.mk _ (.call _) _ _ _ _ :: _) _ _); go_must (refine wpList_copy_mid rfl (.tmp 43) (.tmp 47) 33 33 rfl 5 Try.underlying33 zero5 wr.heap.size 0 256 256 rfl ad (all.length - k * 256) cv0 rfl _ 5 HRO.out (bv ((all.drop (k * 256)).take 256)) (chunk_min all k) (fun j v hj => HVC.out.cells ad rfl j v (bv_take_get hj)) (by rw [bv_length, List.length_take, List.size_toArray, bv_length, List.length_replicate]; omega) (bv_one _) ?_); intro w2 hn2 hg2 hs2))
          rw [List.toList_toArray, chunk_splice] at hn2
          have HN2 := Lib.hid hn2
          have HF2 := Lib.hid (((Fr.refl wr []).grown HG1.out (by simp)).grown hg2 (fun j hj => by cases hj; exact .inr (Nat.le_refl _)))
          have HB2 := Lib.hid (Fr.below_iff.1 HF2.out)
          clear hn2 hg2 hs2 HG1 HRO HVC
          have H2 := Lib.hid (H1.out.below HB2.out)
          have hD1 : 2 ≤ D1.sure.length := by rw [HLEN.out]; exact h6
          have hD2 : D1.sure.length ≤ 4096 := hok1.wf.hi
          have hk4 : k ≤ 4096 := by omega
          have hsec2 : D1.secs ≤ 2047 := secs_le hD2
          refine wp_region_grows 9 (by kernel_rfl) (by kernel_rfl) (fun q v w' => match q with
            | 0 => v = .pointer (some ⟨jb, 0, none⟩)
            | 1 => v = .pointer (some ⟨jb, 0, none⟩)
            | 2 => v = .pointer (some ⟨jb, 0, none⟩)
            | 3 => v = .pointer (some ⟨b, 0, none⟩)
            | 4 => v = .pointer (some ⟨jb, 0, none⟩)
            | 5 => v = .int .i64 side
            | 6 => v = .int .i64 k
            | 7 => v = .int .i64 ((2 + side * D1.secs + k : Nat) : Int)
            | 8 => v = .slice (some ⟨wr.heap.size, 0, none⟩) 256 256
            | _ => True) ?hV ?hstep ?hfin
          case hV =>
            intro q v w w' hv hb
            match q, hv with
            | 0, hv => exact hv
            | 1, hv => exact hv
            | 2, hv => exact hv
            | 3, hv => exact hv
            | 4, hv => exact hv
            | 5, hv => exact hv
            | 6, hv => exact hv
            | 7, hv => exact hv
            | 8, hv => exact hv
            | q + 9, hv => trivial
          case hstep =>
            simp (maxSteps := 4000000) only [List.take_succ_cons, List.take_zero, stepsAll, and_true, GrowStep, Oper.wpG, fillFrom, Nat.zero_add, Nat.reduceAdd, if_true, Act.put, List.setIfInBounds_toArray, List.set_cons_succ, List.set_cons_zero]
            refine ⟨?_, ?_, ?_, ?_, ?_, ?_, ?_, ?_, ?_⟩
            all_goals
              intro vs wx hbx hp K hK
            · go_step
              exact hK _ _ (Below.refl _ _) rfl
            · have v0 : (vs 0) = .pointer (some ⟨jb, 0, none⟩) := hp 0 (by decide +kernel)
              go_step
              exact hK _ _ (Below.refl _ _) rfl
            · have v1 : (vs 1) = .pointer (some ⟨jb, 0, none⟩) := hp 1 (by decide +kernel)
              go_step
              exact hK _ _ (Below.refl _ _) rfl
            · have v2 : (vs 2) = .pointer (some ⟨jb, 0, none⟩) := hp 2 (by decide +kernel)
              have c0 : wx.cell? ⟨jb, 0, none⟩ = some (.pointer (some ⟨b, 0, none⟩)) := cell_of_row _ _ _ _ _ _ (H2.out.below hbx).blk
              go_step
              exact hK _ _ (Below.refl _ _) rfl
            · go_step
              exact hK _ _ (Below.refl _ _) rfl
            · go_step
              exact hK _ _ (Below.refl _ _) rfl
            · go_step
              exact hK _ _ (Below.refl _ _) rfl
            · have v4 : (vs 4) = .pointer (some ⟨jb, 0, none⟩) := hp 4 (by decide +kernel)
              have v5 : (vs 5) = .int .i64 side := hp 5 (by decide +kernel)
              have v6 : (vs 6) = .int .i64 k := hp 6 (by decide +kernel)
              go_step
              refine (jat_any _ jb b bs dv J D1 (H2.out.below hbx) hD1 hD2 side k hside hk4).mono ?_
              rintro e wy ⟨rfl, rfl⟩
              exact hK _ _ (Below.refl _ _) rfl
            · go_step
              exact hK _ _ (Below.refl _ _) rfl
          case hfin =>
            intro vs wx hbx hv
            have v3 : vs 3 = .pointer (some ⟨b, 0, none⟩) := hv 3 (by omega)
            have v7 : vs 7 = .int .i64 ((2 + side * D1.secs + k : Nat) : Int) := hv 7 (by omega)
            have v8 : vs 8 = .slice (some ⟨wr.heap.size, 0, none⟩) 256 256 := hv 8 (by omega)
            have HX := Lib.hid (H2.out.below hbx)
            have FX := Lib.hid (show Fr w' wx [jb, b, bs] from (F1.out.trans (HF2.out.mono (by simp))).below hbx)
            have RX := Lib.hid (row_at ((hbx.block _ (lt_of_heap HN2.out)).trans HN2.out) (chunk_length all k) (Nat.le_refl _))
            obtain ⟨q, hq⟩ : ∃ q, q = 2 + side * D1.secs + k := ⟨_, rfl⟩
            rw [← hq] at v7
            rw [← hq] at HLW
            clear hv hbx HN2 HF2 HB2 H1 F1 H2 HA1 HA2 hq
            simp (maxSteps := 4000000) only [List.take_succ_cons, List.take_zero, List.drop_succ_cons, List.drop_zero, fillFrom, Nat.zero_add, Nat.reduceAdd, if_true, Act.put, List.setIfInBounds_toArray, List.set_cons_succ, List.set_cons_zero]
            go_wp2_with fail
            have hok2 := Dev.write_ok hok1 (by omega) ((q : Nat) : Int) (chunk all k)
            have hch2 := Dev.write_changes D1 ((q : Nat) : Int) (chunk all k)
            have hlen2 := Dev.write_len D1 ((q : Nat) : Int) (chunk all k)
            refine (wWrite wx b bs D1 HX.out.dev hok1 (by omega) ((q : Nat) : Int) 5 _ (chunk all k) RX.out (chunk_length _ _)).mono ?_
            rintro e w3 ⟨rfl, hd3, hf3⟩
            obtain ⟨⟨D2, k2⟩, hp⟩ : ∃ p, p = D1.write ((q : Nat) : Int) (chunk all k) := ⟨_, rfl⟩
            rw [← hp] at hd3 hok2 hch2 hlen2 ⊢
            rw [← hp] at HLW
            clear hp
            simp only at hd3 hok2 hch2 hlen2 HLW ⊢
            have H3 := Lib.hid (HX.out.dev_move hd3 hf3)
            have F3 := Lib.hid (FX.out.trans (hf3.mono (by simp)))
            have LEN2 := Lib.hid (hlen2.trans HLEN.out)
            clear hd3 hf3 HX FX RX v3 v7 v8 hlen2
            by_cases hk : k2 = 0
            · subst hk
              have HLW2 := HLW.out
              simp only [if_true] at HLW2
              have HLW3 := Lib.hid HLW2
              clear HLW2 HLW
              go_wp2
              refine ⟨?rel, ?measure⟩
              case rel => exact ⟨k + 1, fuel, D2, by go_num, by omega, by omega, by omega, HLW3, H3.out, hok2, by omega, LEN2, F3.out⟩
              case measure => simp [intOf]; omega
            · have hkn : (k2 == 0) = false := beq_false_of_ne hk
              have hkn2 : (k2 != 0) = true := by simp [bne, hkn]
              have c6 : w3.cell? ⟨jb, 6, none⟩ = some (.bool J.broken) := cell_of_row _ _ _ _ _ _ H3.out.blk
              have f6 : w3.frozen? ⟨jb, 6, none⟩ = false := frozen_of_row _ _ _ _ _ H3.out.blk
              go_wp2
              go_ret
              have hr := HL.out
              have hw := HLW.out
              rw [if_neg hk] at hw
              rw [hw] at hr
              simp only at hr
              rw [if_neg hk] at hr
              rw [hr]
              have f4 := jset6 w3 jb true
              exact ⟨rfl, ⟨dv, H3.out.own f4 (jset6_heap H3.out.blk true) rfl⟩, F3.out.trans (f4.mono (by simp))⟩
        · have hlti : ¬ (k : Int) * 256 < (all.length : Int) := by omega
          have hle : all.length ≤ k * 256 := by omega
          have HLW := Lib.hid (hlw.out.trans (layW_enough side all fuel k D1 hle))
          clear hj hf hlw
          go_wp2_with fail
          have hok2 := Dev.barrier_ok hok1 (by omega)
          have hch2 := Dev.barrier_changes D1
          have hlen2 := Dev.barrier_len D1
          refine (wBarrier wr b bs D1 H1.out.dev hok1 (by omega)).mono ?_
          rintro e w3 ⟨rfl, hd3, hf3⟩
          obtain ⟨⟨D2, k2⟩, hp⟩ : ∃ p, p = D1.barrier := ⟨_, rfl⟩
          rw [← hp] at hd3 hok2 hch2 hlen2 ⊢
          have HP := Lib.hid hp
          clear hp
          simp only at hd3 hok2 hch2 hlen2 ⊢
          have H3 := Lib.hid (H1.out.dev_move hd3 hf3)
          have F3 := Lib.hid (F1.out.trans (hf3.mono (by simp)))
          clear hd3 hf3 H1 g0 hlen2
          have hr0 := HL.out
          rw [HLW.out] at hr0
          simp only [if_true] at hr0
          rw [← HP.out] at hr0
          simp only at hr0
          have HR := Lib.hid hr0
          clear hr0 HP HL HLW
          by_cases hk : k2 = 0
          · subst hk
            have g1' : w3.cell? ⟨jb, 1, none⟩ = some (.int .u64 J.number) := cell_of_row _ _ _ _ _ _ H3.out.blk
            have en : IntKind.u64.wrap ((J.number : Int) + 1) = (J.number : Int) + 1 := wraps_u64 _ (by omega) (by omega)
            go_wp2_with fail
            rw [show ((J.number : Int) + 1) = ((J.number + 1 : Nat) : Int) from by omega]
            refine (jtell_any w3 jb b bs dv J D2 H3.out hok2 (by omega) (J.number + 1) side all.length (by omega) hside hal).mono ?_
            rintro e w4 ⟨rfl, hj4, hf4⟩
            obtain ⟨⟨J4, D4, k4⟩, hp⟩ : ∃ p, p = J.tell D2 (J.number + 1) side all.length := ⟨_, rfl⟩
            have hJ4 := tell_data J D2 (J.number + 1) side all.length
            rw [← hp] at hj4 hJ4 ⊢
            rw [← hp] at HR
            clear hp
            simp only at hj4 hJ4 HR ⊢
            have H4 := Lib.hid hj4
            have F4 := Lib.hid (F3.out.trans hf4)
            clear hj4 hf4 F3 g1' en
            by_cases hk : k4 = 0
            · subst hk
              have c4 : w4.cell? ⟨jb, 4, none⟩ = some dv := cell_of_row _ _ _ _ _ _ H4.out.blk
              have c5 : w4.cell? ⟨jb, 5, none⟩ = some (.int .i64 J4.count) := cell_of_row _ _ _ _ _ _ H4.out.blk
              have f4 : w4.frozen? ⟨jb, 4, none⟩ = false := frozen_of_row _ _ _ _ _ H4.out.blk
              have f5 : w4.frozen? ⟨jb, 5, none⟩ = false := frozen_of_row _ _ _ _ _ H4.out.blk
              go_wp2
              go_ret
              have hr := HR.out
              simp only [if_true] at hr
              rw [hr]
              have p1 := heap_setCell_same w4 jb 4 _ _ (.slice A all.length c) H4.out.blk
              have p2 := heap_setCell_same _ jb 5 _ _ (.int .i64 count) p1
              have fx : Fr w4 ((w4.setCell ⟨jb, 4, none⟩ (.slice A all.length c)).setCell ⟨jb, 5, none⟩ (.int .i64 count)) [jb] :=
                ((Fr.refl w4 _).grown (setCell_grown w4 jb 4 _) (fun k hk => by cases hk; exact .inl (by simp))).grown (setCell_grown _ jb 5 _) (fun k hk => by cases hk; exact .inl (by simp))
              have fall := F4.out.trans (fx.mono (by simp))
              refine ⟨rfl, ⟨.slice A all.length c, ⟨p2, H4.out.dev_own fx, HA.out.apart fall (off_of HA.out H.out)⟩⟩, fall⟩
            · have hkn : (k4 == 0) = false := beq_false_of_ne hk
              have hkn2 : (k4 != 0) = true := by simp [bne, hkn]
              go_wp2
              go_ret
              have hr := HR.out
              simp only [if_true] at hr
              rw [if_neg hk] at hr
              rw [hr]
              exact ⟨rfl, ⟨dv, H4.out⟩, F4.out⟩
          · have hkn : (k2 == 0) = false := beq_false_of_ne hk
            have hkn2 : (k2 != 0) = true := by simp [bne, hkn]
            have c6 : w3.cell? ⟨jb, 6, none⟩ = some (.bool J.broken) := cell_of_row _ _ _ _ _ _ H3.out.blk
            have f6 : w3.frozen? ⟨jb, 6, none⟩ = false := frozen_of_row _ _ _ _ _ H3.out.blk
            go_wp2
            go_ret
            have hr := HR.out
            rw [if_neg hk] at hr
            rw [hr]
            have f4 := jset6 w3 jb true
            exact ⟨rfl, ⟨dv, H3.out.own f4 (jset6_heap H3.out.blk true) rfl⟩, F3.out.trans (f4.mono (by simp))⟩
end Go.Proofs.Yteggldplmbegfaa
