/- LAYER 3's LAWS: DeviceSure, walked. -/
import Derived.Test.YteggldplmbegfaaL3m
set_option linter.unusedVariables false
set_option linter.unusedSimpArgs false
namespace Go.Proofs.Yteggldplmbegfaa
open Go.RowKit

theorem set_rep (k : Nat) (hlt : k < 6) : (List.replicate k zsec ++ List.replicate (6 - k) []).set k zsec = List.replicate (k + 1) zsec ++ List.replicate (6 - (k + 1)) [] := by
  rw [List.set_append_right _ _ (by simp), List.length_replicate, Nat.sub_self, show 6 - k = (6 - (k + 1)) + 1 by omega, List.replicate_succ, List.set_cons_zero, List.replicate_succ', List.append_assoc]
  rfl
/-- The device when k ops have been written. -/
def devK (s : List (List UInt8)) (l : List Op3) (k : Nat) (c : Int) : Dev := { Dev.fresh 6 with sure := s, loose := (l.map opW).take k, changes := c + k }
theorem devK_ok (s : List (List UInt8)) (hs : s.length = 6) (hf : ∀ x ∈ s, x.length = 256) (l : List Op3) (k : Nat) (hk : k ≤ l.length) (hl : l.length ≤ 60) (c : Int) (hc : 0 ≤ c ∧ c ≤ 1000) : (devK s l k c).Ok := by
  refine ⟨⟨by simp [devK, hs], by simp [devK, hs], hf, fun p hp => ?_, by simp [devK, Dev.fresh], by simp [devK, Dev.fresh], by simp [devK, Dev.fresh], ?_, ?_⟩, ?_, by simp [devK, Dev.fresh]⟩
  · have := List.mem_of_mem_take hp
    simp only [List.mem_map] at this
    obtain ⟨o, _, rfl⟩ := this
    exact ⟨by simp only [devK, hs]; exact idx6_lt _, opW_len o⟩
  all_goals
    simp only [devK, List.length_take, List.length_map]
    omega
theorem devK_write (s : List (List UInt8)) (hs : s.length = 6) (l : List Op3) (k : Nat) (hk : k < l.length) (c : Int) : (devK s l k c).write ((opW l[k]).1 : Nat) (opW l[k]).2 = (devK s l (k + 1) c, 0) := by
  rw [Dev.write_calm (by simp [devK, Dev.fresh]) rfl (by omega) (by simp only [devK, hs]; have := idx6_lt l[k].at_; simp only [opW]; omega) (opW_len _)]
  simp only [devK, Int.toNat_natCast]
  rw [List.take_succ_eq_append_getElem (by simpa using hk)]
  simp
  omega
theorem idx6_val (a : Int) : wrap64 ((IntKind.u64.wrap a).tmod 6) = ((idx6 a : Nat) : Int) := by
  have h0 : 0 ≤ IntKind.u64.wrap a := Int.emod_nonneg _ (by decide)
  unfold idx6
  generalize IntKind.u64.wrap a = x at *
  rw [Int.tmod_eq_emod_of_nonneg h0]
  have h6 : (((x.toNat % 6 : Nat)) : Int) = x % 6 := by omega
  rw [h6]
  unfold wrap64
  omega
theorem min_val (n : Nat) : (if (256 : Int) < (n : Int) then (256 : Int) else (n : Int)) = ((min n 256 : Nat) : Int) := by
  split <;> omega
theorem take_min (s : ByteArray) : s.data.toList.take (min s.size 256) = s.data.toList.take 256 := by
  have h : s.data.toList.length = s.size := rfl
  rw [← h, List.take_eq_take_iff]
  omega
theorem devK_barrier (s : List (List UInt8)) (l l2 : List Op3) (c : Int) : (devK s l l.length c).barrier = (devK (Dev.settle (l.map opW) s) l2 0 (c + l.length + 1), 0) := by
  rw [Dev.barrier_calm (by simp [devK, Dev.fresh]) rfl]
  simp [devK, Dev.fresh, List.take_of_length_le]
theorem settleK_len (l : List Op3) : (Dev.settle (l.map opW) (List.replicate 6 zsec)).length = 6 := by rw [settle_len]; simp
theorem settleK_full (l : List Op3) : ∀ x ∈ Dev.settle (l.map opW) (List.replicate 6 zsec), x.length = 256 := by
  refine (Dev.settle_wf _ _ (fun x hx => by rw [List.eq_of_mem_replicate hx]; exact zsec_length) (fun p hp => ?_)).2
  simp only [List.mem_map] at hp
  obtain ⟨o, _, rfl⟩ := hp
  exact ⟨by rw [List.length_replicate]; exact idx6_lt _, opW_len o⟩
/-- The device behind the cut, on again. -/
def devCut (S1 : List (List UInt8)) (l : List Op3) (c : Int) (kept : List Int) (torn half : Int) : Dev := { (devK S1 l l.length c).cut kept torn half with off := false }
theorem devCut_sure (S1 : List (List UInt8)) (l : List Op3) (c : Int) (kept : List Int) (torn half : Int) : (devCut S1 l c kept torn half).sure = Dev.cutFrom kept torn half 0 (l.map opW) S1 := by
  simp [devCut, devK, Dev.cut, Dev.fresh, List.take_of_length_le]
theorem devCut_loose (S1 : List (List UInt8)) (l : List Op3) (c : Int) (kept : List Int) (torn half : Int) : (devCut S1 l c kept torn half).loose = [] := by
  simp [devCut, devK, Dev.cut, Dev.fresh]
theorem devCut_ok (S1 : List (List UInt8)) (hs : S1.length = 6) (hf : ∀ x ∈ S1, x.length = 256) (l : List Op3) (hl : l.length ≤ 60) (c : Int) (hc : 0 ≤ c ∧ c ≤ 1000) (kept : List Int) (torn half : Int) : (devCut S1 l c kept torn half).Ok := by
  have ok7 := Dev.cut_ok (devK_ok S1 hs hf l l.length (Nat.le_refl _) hl c hc) kept torn half
  exact ⟨⟨ok7.wf.lo, ok7.wf.hi, ok7.wf.full, ok7.wf.loose, ok7.wf.left, ok7.wf.torn, ok7.wf.half, ok7.wf.many, ok7.wf.changes⟩, ok7.many, ok7.keptb⟩
theorem loose_in (S1 : List (List UInt8)) (hs : S1.length = 6) (l : List Op3) : ∀ p ∈ l.map opW, p.1 < S1.length ∧ p.2.length = 256 := by
  intro p hp
  simp only [List.mem_map] at hp
  obtain ⟨o, _, rfl⟩ := hp
  exact ⟨by rw [hs]; exact idx6_lt _, opW_len o⟩
theorem devCut_may (S1 : List (List UInt8)) (hs : S1.length = 6) (hf : ∀ x ∈ S1, x.length = 256) (l : List Op3) (c : Int) (kept : List Int) (torn half : Int) (j : Nat) (hj : j < 6) : (devCut S1 l c kept torn half).may j = 0 := by
  have h := (Dev.cutFrom_wf kept torn half (l.map opW) 0 S1 hf (loose_in S1 hs l)).1
  unfold Dev.may
  rw [devCut_sure, h, hs, if_neg (by simp [devCut]), if_neg (by omega)]
theorem devCut_tells (S1 : List (List UInt8)) (hs : S1.length = 6) (hf : ∀ x ∈ S1, x.length = 256) (l : List Op3) (c : Int) (kept : List Int) (torn half : Int) (j : Nat) (hj : j < 6) :
    (devCut S1 l c kept torn half).at_ j = S1.getD j [] ∨ (devCut S1 l c kept torn half).at_ j ∈ mayL l l.length j ∨ ∃ i, ∃ h : i < l.length, (i : Int) = torn ∧ idx6 l[i].at_ = j := by
  have e : (devCut S1 l c kept torn half).at_ j = (Dev.cutFrom kept torn half 0 (l.map opW) S1).getD j [] := by
    unfold Dev.at_
    rw [devCut_loose, devCut_sure]
    simp [Dev.now]
  rw [e]
  rcases cutFrom_tells kept torn half (l.map opW) 0 S1 j (fun p hp => (loose_in S1 hs l p hp).2) hf (fun p hp => (loose_in S1 hs l p hp).1) (by omega) with h | ⟨p, hp, h1, h2⟩ | ⟨i, p, hi, h1, h2⟩
  · exact .inl h
  · refine .inr (.inl ?_)
    rw [h2, ← h1]
    exact mayL_mem l p hp
  · have hil : i < l.length := by have := (List.getElem?_eq_some_iff.1 hi).1; simpa using this
    refine .inr (.inr ⟨i, hil, by simpa using h2, ?_⟩)
    rw [List.getElem?_map, List.getElem?_eq_getElem hil] at hi
    simp only [Option.map_some, Option.some.injEq] at hi
    rw [← h1, ← hi]
    rfl
theorem info9 : (Try.prog.info? 9).map (fun i => (i.zero, i.size, i.bytes)) = some (some (.string ⟨#[]⟩), 1, 16) := by kernel_rfl
theorem zrow {w : World} {g : Nat} (h : w.ownsRow g 5 1 (.slice (some ⟨g, 0, none⟩) 256 256) 256 (madeCells (Value.int .u8 0).cells (256 * 1)).toList) : RowIs w (.slice (some ⟨g, 0, none⟩) 256 256) 5 1 256 (bv zsec) := by
  have := RowIs.of_owns h
  rw [made5] at this
  exact this

theorem str_back (l : List UInt8) : (str l).toList = l := by rw [ByteArray.toList_eq, str_toList]
theorem l_ne {a b : List UInt8} (h : ¬ a = b) : (a == b) = false := beq_false_of_ne h
theorem wpList_at {P : Program} {ops l : _} {Q : Exit → Act → World → Prop} {a : Act} {w w' : World} (h : w' = w) (k : wpList P ops Q l a w') : wpList P ops Q l a w := h ▸ k
set_option maxRecDepth 100000 in
set_option maxHeartbeats 4000000 in
theorem DeviceSure_any (w : World) (A1 A2 : Option Addr) (n1 c1 n2 c2 : Nat) (l1 l2 : List Op3) (T1 T2 T3 : TypeId) (hn1 : l1.length = n1) (h1 : RowIs w (.slice A1 n1 c1) T1 8 n1 (scriptCells l1)) (hnb1 : n1 ≤ 9223372036854775807)
    (hn2 : l2.length = n2) (h2 : RowIs w (.slice A2 n2 c2) T2 8 n2 (scriptCells l2)) (hnb2 : n2 ≤ 9223372036854775807)
    (hkb1 : ∀ o ∈ l1, o.s.size ≤ 9223372036854775807 ∧ o.kn ≤ 9223372036854775807) (hkb2 : ∀ o ∈ l2, o.s.size ≤ 9223372036854775807 ∧ o.kn ≤ 9223372036854775807)
    (A3 : Option Addr) (c3 : Nat) (kept : List Int) (torn half : Int) (h3 : RowIs w (.slice A3 kept.length c3) T3 1 kept.length (iv kept)) (hkb : kept.length ≤ 9223372036854775807) :
    Calls Try.prog 3 #[.slice A1 n1 c1, .slice A2 n2 c2, .agg #[.slice A3 kept.length c3, .int .i64 torn, .int .i64 half]] w fun e w' => e = .returned (.bool true) ∧ Below w.heap.size w w' := by
  have hbox := heap_alloc_new w (.cells #[.slice A3 kept.length c3, .int .i64 torn, .int .i64 half] 25 (0, 0))
  have hgb := World.grownBy_alloc w (.cells #[.slice A3 kept.length c3, .int .i64 torn, .int .i64 half] 25 (0, 0)) none
  obtain ⟨w0, hw0⟩ : ∃ w0, w0 = w.alloc (.cells #[.slice A3 kept.length c3, .int .i64 torn, .int .i64 half] 25 (0, 0)) := ⟨_, rfl⟩
  rw [← hw0] at hbox hgb
  have F0 := Lib.hid (Fr.below_iff.1 ((Fr.refl w []).grown hgb (by simp)))
  clear hgb
  go_enter Try.func3, Try.ntmps3
  go_wp2_with fail
  rw [← hw0]
  clear hw0
  refine (l3lives_any _).mono ?_
  rintro e w1 ⟨rfl, hb1⟩
  have F1 := Lib.hid (F0.out.trans (hb1.mono F0.out.size))
  have B1 := Lib.hid ((hb1.block _ (lt_of_heap hbox)).trans hbox)
  clear hb1
  go_wp2_with fail
  refine (l3fits_any _ A1 n1 c1 l1 T1 hn1 (h1.below F1.out) hnb1 hkb1).mono ?_
  rintro e w2 ⟨r1, rfl, hr1, hb2⟩
  have F2 := Lib.hid (F1.out.trans (hb2.mono F1.out.size))
  have B2 := Lib.hid ((hb2.block _ (lt_of_heap B1.out)).trans B1.out)
  clear hb2 F1 B1
  cases r1 with
  | false =>
    clear hr1
    go_wp2_with fail
    refine (l3lives_any _).mono ?_
    rintro e w3 ⟨rfl, hb3⟩
    have F3 := Lib.hid (F2.out.trans (hb3.mono F2.out.size))
    clear hb3
    go_wp2
    go_ret
    exact ⟨rfl, F3.out⟩
  | true =>
    have hr1 := hr1 rfl
    have R1 := Lib.hid hr1
    have hn60 : n1 ≤ 60 := hr1.1
    clear hr1
    go_wp2_with fail
    refine (l3fits_any _ A2 n2 c2 l2 T2 hn2 (h2.below F2.out) hnb2 hkb2).mono ?_
    rintro e w3 ⟨r2, rfl, hr2, hb3⟩
    have F3 := Lib.hid (F2.out.trans (hb3.mono F2.out.size))
    have B3 := Lib.hid ((hb3.block _ (lt_of_heap B2.out)).trans B2.out)
    clear hb3 F2 B2
    cases r2 with
    | false =>
      clear hr2
      go_wp2_with fail
      refine (l3lives_any _).mono ?_
      rintro e w4 ⟨rfl, hb4⟩
      have F4 := Lib.hid (F3.out.trans (hb4.mono F3.out.size))
      clear hb4
      go_wp2
      go_ret
      exact ⟨rfl, F4.out⟩
    | true =>
      have hr2 := hr2 rfl
      have R2 := Lib.hid hr2
      have hn60b : n2 ≤ 60 := hr2.1
      clear hr2
      have k0 : w3.cell? ⟨w.heap.size, 0, none⟩ = some (.slice A3 kept.length c3) := cell_of_row _ _ _ _ _ _ B3.out
      by_cases hk70 : (70 : Int) < (kept.length : Int)
      · go_wp2_with fail
        refine (l3lives_any _).mono ?_
        rintro e w4 ⟨rfl, hb4⟩
        have F4 := Lib.hid (F3.out.trans (hb4.mono F3.out.size))
        clear hb4
        go_wp2
        go_ret
        exact ⟨rfl, F4.out⟩
      · go_wp2_with fail
        refine (wNew _ 6 6 rfl (by omega) (by omega)).mono ?_
        rintro e w4 ⟨b, bs, rfl, hd, hbb, hbsb, hb4⟩
        have F4 := Lib.hid (F3.out.trans (hb4.mono F3.out.size))
        have B4 := Lib.hid ((hb4.block _ (lt_of_heap B3.out)).trans B3.out)
        have hbw : w.heap.size < b := by have := lt_of_heap B3.out; omega
        have hbsw : w.heap.size < bs := by have := lt_of_heap B3.out; omega
        clear hb4 k0 B3
        go_upto_region 5 with (fail)
        have hwa := heap_alloc_new w4 (.cells #[.string ⟨#[]⟩, .string ⟨#[]⟩, .string ⟨#[]⟩, .string ⟨#[]⟩, .string ⟨#[]⟩, .string ⟨#[]⟩] 32 (0, 0))
        have hga := World.grownBy_alloc w4 (.cells #[.string ⟨#[]⟩, .string ⟨#[]⟩, .string ⟨#[]⟩, .string ⟨#[]⟩, .string ⟨#[]⟩, .string ⟨#[]⟩] 32 (0, 0)) none
        generalize w4.alloc (.cells #[.string ⟨#[]⟩, .string ⟨#[]⟩, .string ⟨#[]⟩, .string ⟨#[]⟩, .string ⟨#[]⟩, .string ⟨#[]⟩] 32 (0, 0)) = w5 at *
        have hwa' : w5.heap[w4.heap.size]? = some (.cells (sv (List.replicate 6 [])).toArray 32 (0, 0)) := hwa
        have d5 := hd.grown hga
        obtain ⟨hbW, hbsW⟩ := hd.lt
        have B5 := Lib.hid (grown_keep hga B4.out (by simp))
        have F5 := Lib.hid (Fr.below_iff.1 ((Fr.below_iff.2 F4.out).grown hga (by simp)))
        have hW : w.heap.size < w4.heap.size := lt_of_heap B4.out
        obtain ⟨W, hWe⟩ : ∃ W, W = w4.heap.size := ⟨_, rfl⟩
        rw [← hWe] at hwa' hW hbW hbsW
        rw [← hWe]
        clear hwa hga hd hWe F4 B4
        obtain ⟨i5, hi5, hz50, hz51, hz52⟩ := info_parts info5
        go_wp2_with fail
        go_loopw [50] (fun i wr => ∃ k : Nat, k ≤ 6 ∧ i = .int .i64 k ∧ wr.heap[W]? = some (.cells (sv (List.replicate k zsec ++ List.replicate (6 - k) [])).toArray 32 (0, 0)) ∧ Fr w5 wr [W]) (fun i _ => 6 - (intOf i).toNat)
        case atStart => exact ⟨0, by omega, rfl, hwa', Fr.refl _ _⟩
        case round =>
          obtain ⟨k, hk, rfl, hwk, hfr⟩ := hrel
          by_cases hlt : k < 6
          · have hlti : (k : Int) < 6 := by omega
            go_upto_region 9 with (first
              | (at_make; refine wpList_make_full _ rfl _ _ 33 rfl wr.heap.size 5 i5 _ 1 Try.underlying33 hi5 hz50 hz51 .i64 .i64 256 256 256 rfl rfl rfl rfl ?c1 ?c2 ?c3 ?_; rotate_right; intro w6 hown hgr)
              | (with_reducible show wpList _ _ _ (Oper.mk _ (.convert _ _ _) _ _ _ _ :: _) _ _; refine wpList_bytes_str rfl 33 9 5 (.tmp 54) rfl Try.underlying33 Try.underlying5 Try.underlying9 (some ⟨wr.heap.size, 0, none⟩) 256 256 5 zsec rfl zsec_length (zrow hown) ?_; have hw6 := grown_keep hgr hwk (by simp); have hc6 : w6.cell? ⟨W, k, none⟩ = some _ := (cell_of_row _ _ _ _ _ _ hw6).trans (sv_some _ k (by simp; omega)); have hf6 := frozen_of_row w6 W k _ _ hw6))
            case c1 => rw [hz52]; omega
            case c2 => unfold maxLen; omega
            case c3 => exact Nat.le_refl _
            have hst := heap_setCell_same w6 W k _ _ (.string (str zsec)) hw6
            rw [sv_set, set_rep k hlt] at hst
            have hF6 := (hfr.grown hgr (by simp)).grown (setCell_grown w6 W k (.string (str zsec))) (by simp)
            have HST := Lib.hid hst
            have HF6 := Lib.hid hF6
            clear hst hF6 hown hgr hw6 hc6 hf6 hwk hfr
            go_wp2
            go_roundw
            case rel => exact ⟨k + 1, by omega, by go_num, HST.out, HF6.out⟩
            case measure => simp [intOf]; omega
          · obtain rfl : k = 6 := by omega
            have hwz : wr.heap[W]? = some (.cells (sv (List.replicate 6 zsec)).toArray 32 (0, 0)) := by simpa using hwk
            have d6 := d5.move hfr (fun x hx => by simp at hx; subst hx; exact .inr ⟨_, _, _, hwa', by decide, by decide, by decide, by decide⟩)
            have B6 := Lib.hid (hfr.keep B5.out (by simp; omega))
            have F6 := Lib.hid (Fr.below_iff.1 ((Fr.below_iff.2 F5.out).then hfr (by simp; omega)))
            clear hwk hfr hwa' d5 B5 F5
            go_wp2_with fail
            obtain ⟨wA, hwA⟩ : ∃ wA : World, wA = wr := ⟨_, rfl⟩
            rw [← hwA] at hwz d6 B6 F6 ⊢
            clear hwA
            have hdev0 : Dev.fresh 6 = devK (List.replicate 6 zsec) l1 0 0 := by simp [devK, Dev.fresh]
            rw [hdev0] at d6
            have hall6 : ∀ x ∈ List.replicate 6 zsec, x.length = 256 := fun x hx => by rw [List.eq_of_mem_replicate hx]; exact zsec_length
            have HA6 := Lib.hid hall6
            clear hall6 hdev0
            go_loopw [60] (fun i wr => ∃ k : Nat, k ≤ n1 ∧ i = .int .i64 k ∧ wr.heap[W]? = some (.cells (sv (Dev.settle ((l1.map opW).take k) (List.replicate 6 zsec))).toArray 32 (0, 0)) ∧
              DevIs wr b bs (devK (List.replicate 6 zsec) l1 k 0) ∧ Fr wA wr [W, b, bs]) (fun i _ => n1 - (intOf i).toNat)
            case atStart => exact ⟨0, by omega, rfl, by simpa [Dev.settle] using hwz, d6, Fr.refl _ _⟩
            case round =>
              obtain ⟨k, hk, rfl, hwk, hdk, hfr⟩ := hrel
              by_cases hlt : k < n1
              · obtain ⟨g, o, rfl, cur, fr, hcur, hx, hcell⟩ := script_at h1 hn1 k hlt
                have hrow := ((Fr.below_iff.2 F6.out).then hfr (by simp; omega)).keep hcur (by simp)
                obtain ⟨p, hp0⟩ : ∃ p, p = l1[k] := ⟨_, rfl⟩
                rw [← hp0] at hcell
                have hpb : p.s.size ≤ 300 := (R1.out.2 p (by rw [hp0]; exact List.getElem_mem _)).1
                have HP := Lib.hid hp0
                have HC := Lib.hid hcell
                clear hcell hp0
                have hz : (Try.prog.info? 35).map (·.size) = some (op3Cells p).length := zero35
                have hone := op3_one p
                have hfit : 0 + (op3Cells p).length ≤ (#[Value.int .i64 0, .int .i64 0, .int .u8 0, .string ⟨#[]⟩, .bool false, .slice none 0 0, .int .i64 0, .int .i64 0] : Array Value).size := by simp [op3_length]
                go_upto_region 13 with (first
                  | (with_reducible show wpList _ _ _ (Oper.mk _ (.load 35 _) _ _ _ _ :: _) _ _; refine wpList_load_mid rfl 35 (.tmp 62) rfl g (o + k * 8) rfl T1 cur fr _ (op3Cells p) hrow Try.underlying35 rfl hz HC.out ?_)
                  | (with_reducible show wpList _ _ _ (Oper.mk _ (.alloc 35) _ _ _ _ :: _) _ _; refine wpList_alloc_row rfl 35 rfl _ zrow35 ?_; intro w7 hn7 hg7 hs7)
                  | (with_reducible show wpList _ _ _ (Oper.mk _ (.store 35 _ _) _ _ _ _ :: _) _ _; refine wpList_store_mid rfl rfl 35 (.tmp 12) (.tmp 63) rfl wr.heap.size 0 rfl (op3Cells p) rfl 35 _ hn7 hz hfit hone ?_; intro w8 hn8 hg8 hs8; clear hn7))
                rw [splice_all _ _ (by rfl)] at hn8
                have F8 : Fr wr w8 [] := ((Fr.refl wr []).grown hg7 (by simp)).grown hg8 (by simp)
                have d8 := hdk.below (Fr.below_iff.1 F8)
                have hw8 := F8.keep hwk (by simp)
                have hfr8 := hfr.then F8 (by simp)
                have q1 : w8.cell? ⟨wr.heap.size, 1, none⟩ = some (.int .i64 p.at_) := cell_of_row _ _ _ _ _ _ hn8
                have q2 : w8.cell? ⟨wr.heap.size, 2, none⟩ = some (.int .u8 p.c.toNat) := cell_of_row _ _ _ _ _ _ hn8
                have q3 : w8.cell? ⟨wr.heap.size, 3, none⟩ = some (.string p.s) := cell_of_row _ _ _ _ _ _ hn8
                clear hg7 hg8 hs7 hs8 F8 hrow hcur hwk hdk hfr
                go_upto_region 14 with (fail)
                go_still_tail 9, (by kernel_rfl)
                refine wpStill_slice_str rfl 9 (.tmp 72) (.tmp 76) rfl rfl p.s rfl _ rfl (min p.s.size 256) ?s1 (Nat.min_le_left _ _) ?_
                case s1 => exact min_val _
                refine wpStill_nil ?_
                change wpList _ _ _ _ _ w8.drew
                rw [min_val, idx6_val, take_min]
                have d9 : DevIs w8.drew b bs _ := d8.drew
                have hw9 : w8.drew.heap[W]? = _ := hw8
                have hfr9 : Fr wA w8.drew [W, b, bs] := hfr8.drew
                generalize w8.drew = w9 at *
                clear d8 hw8 hfr8 hn8 q1 q2 q3
                go_wp2_with fail
                refine (wFull _ _ p.c rfl _).mono ?_
                rintro e w10 ⟨gf, rfl, hgf, hgs, hb10⟩
                rw [str_toList] at hgf
                have d10 := d9.below hb10
                have hw10 := (hb10.block _ (lt_of_heap hw9)).trans hw9
                have hfr10 := hfr9.below hb10
                have hltb := d9.lt
                clear d9 hw9 hfr9 hb10
                go_wp2_with fail
                have hcc := wWrite w10 b bs _ d10 (devK_ok _ (by simp) HA6.out l1 k (by omega) (by omega) 0 (by omega)) (by simp only [devK]; omega) (idx6 p.at_ : Nat) 5 _ (fullB p.c (p.s.data.toList.take 256)) (row_at hgf (fullB_length _ _) (Nat.le_refl 256)) (fullB_length _ _)
                have hwr := devK_write (List.replicate 6 zsec) (by simp) l1 k (by omega) 0
                rw [← HP.out] at hwr
                simp only [opW] at hwr
                rw [hwr] at hcc
                simp only at hcc
                refine hcc.mono ?_
                rintro e w11 ⟨rfl, d11, hf11⟩
                have hw11 := hf11.keep hw10 (by simp; omega)
                have hgf11 := hf11.keep hgf (by simp; omega)
                have hfr11 := hfr10.then hf11 (by simp)
                clear hcc hwr hf11 hw10 hgf hfr10 d10 hltb
                obtain ⟨q, hq⟩ : ∃ q, q = idx6 p.at_ := ⟨_, rfl⟩
                have hq6 : q < 6 := by rw [hq]; exact idx6_lt _
                have hqi : (q : Int) < 6 := by omega
                rw [← hq]
                have HQ := Lib.hid hq
                clear hq
                obtain ⟨st, hst0⟩ : ∃ st, st = Dev.settle ((l1.map opW).take k) (List.replicate 6 zsec) := ⟨_, rfl⟩
                rw [← hst0] at hw11
                have hsl : st.length = 6 := by rw [hst0, settle_len]; simp
                have HS0 := Lib.hid hst0
                clear hst0
                have hc11 : w11.cell? ⟨W, q, none⟩ = some _ := (cell_of_row _ _ _ _ _ _ hw11).trans (sv_some _ q (by omega))
                have hf11 := frozen_of_row w11 W q _ _ hw11
                go_upto_region 17 with (fail)
                go_upto_region 18 with (first
                  | (with_reducible show wpList _ _ _ (Oper.mk _ (.convert _ _ _) _ _ _ _ :: _) _ _; refine wpList_bytes_str rfl 33 9 5 (.tmp 85) rfl Try.underlying33 Try.underlying5 Try.underlying9 (some ⟨gf, 0, none⟩) 256 256 5 (fullB p.c (p.s.data.toList.take 256)) rfl (fullB_length _ _) (row_at hgf11 (fullB_length _ _) (Nat.le_refl 256)) ?_))
                have hst := heap_setCell_same w11 W q _ _ (.string (str (fullB p.c (p.s.data.toList.take 256)))) hw11
                rw [sv_set] at hst
                have hs9 : st.set q (fullB p.c (p.s.data.toList.take 256)) = Dev.settle ((l1.map opW).take (k + 1)) (List.replicate 6 zsec) := by
                  rw [List.take_succ_eq_append_getElem (l := l1.map opW) (i := k) (by simp; omega), settle_snoc, ← HS0.out]
                  simp only [List.getElem_map, ← HP.out, opW, HQ.out]
                rw [hs9] at hst
                have hsg := setCell_grown w11 W q (.string (str (fullB p.c (p.s.data.toList.take 256))))
                have HST := Lib.hid hst
                have HF := Lib.hid (hfr11.grown hsg (by simp))
                have HD := Lib.hid (d11.move ((Fr.refl w11 [W]).grown hsg (by simp)) (fun x hx => by simp at hx; subst hx; exact .inr ⟨_, _, _, hw11, by decide, by decide, by decide, by decide⟩))
                clear hst hsg hw11 hc11 hf11 hgf11 hfr11 d11
                go_wp2
                refine ⟨?_, ?measure⟩
                (repeat apply Exists.intro)
                refine ⟨?rel, rfl⟩
                case rel =>
                  exact ⟨k + 1, by omega, by go_num, HST.out, HD.out, HF.out⟩
                case measure => simp [intOf]; omega
              · obtain rfl : k = n1 := by omega
                have hlk : l1.length = k := hn1
                have hS1 : Dev.settle ((l1.map opW).take k) (List.replicate 6 zsec) = Dev.settle (l1.map opW) (List.replicate 6 zsec) := by rw [List.take_of_length_le (by simp; omega)]
                rw [hS1] at hwk
                have hbr := devK_barrier (List.replicate 6 zsec) l1 l2 0
                rw [hlk] at hbr
                obtain ⟨S1, hS⟩ : ∃ S1, S1 = Dev.settle (l1.map opW) (List.replicate 6 zsec) := ⟨_, rfl⟩
                have hS6 : S1.length = 6 := by rw [hS]; exact settleK_len l1
                have hSf : ∀ x ∈ S1, x.length = 256 := by rw [hS]; exact settleK_full l1
                rw [← hS] at hwk hbr
                have HSF := Lib.hid hSf
                have HS := Lib.hid hS
                clear hS1 hS hSf
                go_wp2_with fail
                have hcc := wBarrier wr b bs _ hdk (devK_ok _ (by simp) HA6.out l1 k (by omega) (by omega) 0 (by omega)) (by simp only [devK]; omega)
                rw [hbr] at hcc
                simp only at hcc
                refine hcc.mono ?_
                rintro e w6 ⟨rfl, d6', hf6⟩
                have hw6 := hf6.keep hwk (by simp; omega)
                have F7 := Lib.hid (Fr.below_iff.1 (((Fr.below_iff.2 F6.out).then hfr (by simp; omega)).then hf6 (by simp; omega)))
                have B7 := Lib.hid (hf6.keep (hfr.keep B6.out (by simp; omega)) (by simp; omega))
                clear hcc hbr hf6 hwk hdk hfr hwz d6 F6 B6
                obtain ⟨n3, hn3⟩ : ∃ n3 : Int, n3 = 0 + (k : Int) + 1 := ⟨_, rfl⟩
                have hn3b : 0 ≤ n3 ∧ n3 ≤ 100 := by omega
                rw [← hn3] at d6'
                clear hn3
                go_upto_region 22 with (fail)
                have hM0 := heap_alloc_new w6 (.cells #[.slice none 0 0, .slice none 0 0, .slice none 0 0, .slice none 0 0, .slice none 0 0, .slice none 0 0] 41 (0, 0))
                have hgM := World.grownBy_alloc w6 (.cells #[.slice none 0 0, .slice none 0 0, .slice none 0 0, .slice none 0 0, .slice none 0 0, .slice none 0 0] 41 (0, 0)) none
                have hsM : (w6.alloc (.cells #[.slice none 0 0, .slice none 0 0, .slice none 0 0, .slice none 0 0, .slice none 0 0, .slice none 0 0] 41 (0, 0))).heap.size = w6.heap.size + 1 := by simp
                generalize w6.alloc (.cells #[.slice none 0 0, .slice none 0 0, .slice none 0 0, .slice none 0 0, .slice none 0 0, .slice none 0 0] 41 (0, 0)) = wB at *
                have d7 := d6'.grown hgM
                have hwB := grown_keep hgM hw6 (by simp)
                have F8 := Lib.hid (Fr.below_iff.1 ((Fr.below_iff.2 F7.out).grown hgM (by simp)))
                have B8 := Lib.hid (grown_keep hgM B7.out (by simp))
                have hWM : W < w6.heap.size := lt_of_heap hw6
                obtain ⟨M, hMe⟩ : ∃ M, M = w6.heap.size := ⟨_, rfl⟩
                rw [← hMe] at hM0 hsM hWM
                rw [← hMe]
                have hmay0 : MayIs wB wB.heap.size M (List.replicate 6 (.slice none 0 0)) (mayL l2 0) := by
                  have hnil : ∀ j < 6, (List.replicate 6 (Value.slice none 0 0)).getD j undef = .slice none 0 0 := fun j hj => by
                    rw [List.getD_eq_getElem?_getD, List.getElem?_replicate, if_pos hj]
                    rfl
                  refine ⟨hM0, rfl, by omega, fun j hj => ?_, fun i hi j hj hij g hg => ?_⟩
                  · rw [hnil j hj]
                    exact World.ownsRow_nil _ _ _ _
                  · rw [hnil i hi] at hg
                    cases hg
                clear hM0 hgM d6' hw6 F7 B7 hMe
                obtain ⟨base, hbase⟩ : ∃ base, base = wB.heap.size := ⟨_, rfl⟩
                rw [← hbase] at hmay0 hsM
                obtain ⟨i5, hi5, hz50, hz51, hz52⟩ := info_parts info5
                obtain ⟨i9, hi9, hz90, hz91, hz92⟩ := info_parts info9
                go_wp2_with fail
                go_loopw [94, 16] (fun i t wr => ∃ k : Nat, ∃ ms : List Value, ∃ tt : Int, k ≤ n2 ∧ i = .int .i64 k ∧ t = .int .i64 tt ∧ MayIs wr base M ms (mayL l2 k) ∧ DevIs wr b bs (devK S1 l2 k n3) ∧ Fr wB wr [M, b, bs] ∧
                  Hid (∀ i (h : i < l2.length), i < k → (i : Int) = torn → tt = (idx6 l2[i].at_ : Nat))) (fun i _ _ => n2 - (intOf i).toNat)
                case atStart => exact ⟨0, _, -1, by omega, rfl, rfl, hmay0, d7, Fr.refl _ _, by show ∀ i, _; omega⟩
                case round =>
                  obtain ⟨k, ms, tt, hk, rfl, rfl, hmay, hdk, hfr, htt⟩ := hrel
                  by_cases hlt : k < n2
                  · obtain ⟨g, o, rfl, cur, fr, hcur, hx, hcell⟩ := script_at h2 hn2 k hlt
                    have hrow := ((Fr.below_iff.2 F8.out).then hfr (by simp; omega)).keep hcur (by simp)
                    obtain ⟨p, hp0⟩ : ∃ p, p = l2[k] := ⟨_, rfl⟩
                    rw [← hp0] at hcell
                    have hpb : p.s.size ≤ 300 := (R2.out.2 p (by rw [hp0]; exact List.getElem_mem _)).1
                    have HP := Lib.hid hp0
                    have HC := Lib.hid hcell
                    clear hcell hp0
                    have hz : (Try.prog.info? 35).map (·.size) = some (op3Cells p).length := zero35
                    have hone := op3_one p
                    have hfit : 0 + (op3Cells p).length ≤ (#[Value.int .i64 0, .int .i64 0, .int .u8 0, .string ⟨#[]⟩, .bool false, .slice none 0 0, .int .i64 0, .int .i64 0] : Array Value).size := by simp [op3_length]
                    go_upto_region 26 with (first
                      | (with_reducible show wpList _ _ _ (Oper.mk _ (.load 35 _) _ _ _ _ :: _) _ _; refine wpList_load_mid rfl 35 (.tmp 97) rfl g (o + k * 8) rfl T2 cur fr _ (op3Cells p) hrow Try.underlying35 rfl hz HC.out ?_)
                      | (with_reducible show wpList _ _ _ (Oper.mk _ (.alloc 35) _ _ _ _ :: _) _ _; refine wpList_alloc_row rfl 35 rfl _ zrow35 ?_; intro w7 hn7 hg7 hs7)
                      | (with_reducible show wpList _ _ _ (Oper.mk _ (.store 35 _ _) _ _ _ _ :: _) _ _; refine wpList_store_mid rfl rfl 35 (.tmp 18) (.tmp 98) rfl wr.heap.size 0 rfl (op3Cells p) rfl 35 _ hn7 hz hfit hone ?_; intro w8 hn8 hg8 hs8; clear hn7))
                    rw [splice_all _ _ (by rfl)] at hn8
                    have F9 : Fr wr w8 [] := ((Fr.refl wr []).grown hg7 (by simp)).grown hg8 (by simp)
                    have d8 := hdk.below (Fr.below_iff.1 F9)
                    have hm8 := hmay.move F9 (by simp)
                    have hfr8 := hfr.then F9 (by simp)
                    have q1 : w8.cell? ⟨wr.heap.size, 1, none⟩ = some (.int .i64 p.at_) := cell_of_row _ _ _ _ _ _ hn8
                    have q2 : w8.cell? ⟨wr.heap.size, 2, none⟩ = some (.int .u8 p.c.toNat) := cell_of_row _ _ _ _ _ _ hn8
                    have q3 : w8.cell? ⟨wr.heap.size, 3, none⟩ = some (.string p.s) := cell_of_row _ _ _ _ _ _ hn8
                    clear hg7 hg8 hs7 hs8 F9 hrow hcur hmay hdk hfr
                    go_upto_region 27 with (fail)
                    go_still_tail 9, (by kernel_rfl)
                    refine wpStill_slice_str rfl 9 (.tmp 107) (.tmp 111) rfl rfl p.s rfl _ rfl (min p.s.size 256) ?s1 (Nat.min_le_left _ _) ?_
                    case s1 => exact min_val _
                    refine wpStill_nil ?_
                    change wpList _ _ _ _ _ w8.drew
                    rw [min_val, idx6_val, take_min]
                    have d9 : DevIs w8.drew b bs _ := d8.drew
                    have hm9 : MayIs w8.drew base M ms (mayL l2 k) := hm8.move (Fr.refl w8 []).drew (by simp)
                    have hfr9 : Fr wB w8.drew [M, b, bs] := hfr8.drew
                    generalize w8.drew = w9 at *
                    clear d8 hm8 hfr8 hn8 q1 q2 q3
                    go_wp2_with fail
                    refine (wFull _ _ p.c rfl _).mono ?_
                    rintro e w10 ⟨gf, rfl, hgf, hgs, hb10⟩
                    rw [str_toList] at hgf
                    have d10 := d9.below hb10
                    have hm10 := hm9.move (Fr.below_iff.2 hb10) (by simp)
                    have hfr10 := hfr9.below hb10
                    clear d9 hm9 hfr9 hb10
                    obtain ⟨q, hq⟩ : ∃ q, q = idx6 p.at_ := ⟨_, rfl⟩
                    have hq6 : q < 6 := by rw [hq]; exact idx6_lt _
                    have hqi : (q : Int) < 6 := by omega
                    rw [← hq]
                    have HQ := Lib.hid hq
                    clear hq
                    obtain ⟨fb, hfb⟩ : ∃ fb, fb = fullB p.c (p.s.data.toList.take 256) := ⟨_, rfl⟩
                    have hfl : fb.length = 256 := by rw [hfb]; exact fullB_length _ _
                    rw [← hfb] at hgf
                    have HFB := Lib.hid hfb
                    clear hfb
                    go_upto_region 28 with (first
                      | (with_reducible show wpList _ _ _ (Oper.mk _ (.convert _ _ _) _ _ _ _ :: _) _ _; refine wpList_bytes_str rfl 33 9 5 (.tmp 113) rfl Try.underlying33 Try.underlying5 Try.underlying9 (some ⟨gf, 0, none⟩) 256 256 5 fb rfl hfl (row_at hgf hfl (Nat.le_refl 256)) ?_))
                    go_wp2_with (first
                      | (with_reducible show wpList _ _ _ (Oper.mk _ (.convert _ _ _) _ _ _ _ :: _) _ _; refine wpList_str_bytes rfl 9 33 5 (.tmp 117) rfl Try.underlying9 Try.underlying33 Try.underlying5 (str fb) rfl ?_; intro w11 cb hr11 hg11 hs11; rw [str_size, str_toList, hfl] at hr11; rw [str_size, hfl]))
                    have d11 := d10.grown hg11
                    have hm11 := hm10.move ((Fr.refl w10 []).grown hg11 (by simp)) (by simp)
                    have hfr11 := hfr10.grown hg11 (by simp)
                    clear d10 hm10 hfr10 hg11 hgf
                    have hcc := wWrite w11 b bs _ d11 (devK_ok _ hS6 HSF.out l2 k (by omega) (by omega) n3 (by omega)) (by simp only [devK]; omega) (q : Nat) 5 _ fb hr11 hfl
                    have hwr := devK_write S1 hS6 l2 k (by omega) n3
                    rw [← HP.out] at hwr
                    simp only [opW, ← HQ.out, ← HFB.out] at hwr
                    rw [hwr] at hcc
                    simp only at hcc
                    refine hcc.mono ?_
                    rintro e w12 ⟨rfl, d12, hf12⟩
                    have hm12 := hm11.move hf12 (by simp; omega)
                    have hfr12 := hfr11.then hf12 (by simp)
                    have hb12 : base ≤ w12.heap.size := by have := hfr12.size; omega
                    clear hcc hwr hf12 hm11 hfr11 d11 hr11
                    obtain ⟨v, hv⟩ : ∃ v, v = ms.getD q undef := ⟨_, rfl⟩
                    have hcv : w12.cell? ⟨M, q, none⟩ = some v := by
                      rw [cell_of_row _ _ _ _ _ _ hm12.blk, hv, List.getElem?_toArray, List.getD_eq_getElem?_getD, List.getElem?_eq_getElem (by rw [hm12.len]; exact hq6)]
                      rfl
                    have hown12 := hm12.rows q hq6
                    have hle := mayL_le l2 k q
                    rw [← hv] at hown12
                    obtain ⟨ln, hln⟩ : ∃ ln, ln = (mayL l2 k q).length := ⟨_, rfl⟩
                    rw [← hln] at hown12 hle
                    have HV := Lib.hid hv
                    have HLN := Lib.hid hln
                    have HM := Lib.hid hm12
                    clear hv hln hm12
                    go_upto_region 30 with (fail)
                    go_upto_region 31 with (first
                      | (with_reducible show wpList _ _ _ (Oper.mk _ (.call _) _ _ _ _ :: _) _ _; refine wpList_append_own_at _ rfl (.tmp 124) (.tmp 126) 40 rfl base 9 i9 (.string ⟨#[]⟩) 1 16 Try.underlying40 hi9 hz90 hz91 hz92 rfl (by omega) v ln (sv (mayL l2 k q)) rfl ?app1 ⟨w12.heap.size, 0, none⟩ 1 1 [.string (str fb)] rfl (by simp) (cell_one_new _ _ _) (by simp [Value.oneCell']) ?app2 ?app3 ?app4 ?app5; rotate_right; intro v' w13 hown13 hgr13 hnil13 hat13; clear hnil13; obtain ⟨A13, c13, rfl⟩ := owns_slice hown13; rw [HV.out] at hgr13 hat13; have hm13 := HM.out.move ((Fr.refl w12 []).grown (World.grownBy_alloc w12 (.cells #[.string (str fb)] 9 (0, 0)) none) (by simp)) (by simp); have hbM := hm13.blk_push hq6 hgr13; have hcM : w13.cell? ⟨M, q, none⟩ = some v := (cell_of_row _ _ _ _ _ _ hbM).trans ((cell_of_row _ _ _ _ _ _ HM.out.blk).symm.trans hcv); have hfM := frozen_of_row w13 M q _ _ hbM))
                    case app1 => exact owns_keep hown12 ((Fr.refl w12 []).grown (World.grownBy_alloc w12 (.cells #[.string (str fb)] 9 (0, 0)) none) (by simp)) (by simp)
                    case app2 => unfold maxLen; omega
                    case app3 => omega
                    case app4 => simp; omega
                    have hmL := hm13.push hq6 (by rw [← HLN.out]; exact hown13) hgr13 hat13
                    have hS2 := mayL_succ l2 k (by omega)
                    rw [← HP.out] at hS2
                    simp only [opW, ← HQ.out, ← HFB.out] at hS2
                    rw [← hS2] at hmL
                    have hFL := hm13.fr hq6 (.slice A13 (ln + 1) c13) hgr13
                    have hFX : Fr w12 (w12.alloc (.cells #[.string (str fb)] 9 (0, 0))) [] := (Fr.refl w12 []).grown (World.grownBy_alloc w12 (.cells #[.string (str fb)] 9 (0, 0)) none) (by simp)
                    have frL := (hfr12.then hFX (by simp)).then hFL (fun x hx => by
                      rcases List.mem_cons.1 hx with rfl | hx
                      · exact .inl (by simp)
                      · have := owns_lt (hm13.rows q hq6) (g := x) (by simpa using hx)
                        exact .inr (by omega))
                    have dL := (d12.below (Fr.below_iff.1 hFX)).move hFL (fun x hx => by
                      rcases List.mem_cons.1 hx with rfl | hx
                      · exact .inr ⟨_, _, _, hm13.blk, by decide, by decide, by decide, by decide⟩
                      · obtain ⟨cur, hcur⟩ := owns_blk (hm13.rows q hq6) (g := x) (by simpa using hx)
                        exact .inr ⟨_, _, _, hcur, by decide, by decide, by decide, by decide⟩)
                    have hbxL := frL.keep B8.out (by simp; omega)
                    generalize w13.setCell ⟨M, q, none⟩ (.slice A13 (ln + 1) c13) = wL at *
                    have hct : wL.cell? ⟨w.heap.size, 1, none⟩ = some (.int .i64 torn) := cell_of_row _ _ _ _ _ _ hbxL
                    clear hS2 hFL hFX hm13 hbM hcM hfM hown13 hgr13 hat13 HM hcv hown12 hfr12 d12 hbxL
                    by_cases hkt : (k : Int) = torn
                    · have hnew : Hid (∀ i (h : i < l2.length), i < k + 1 → (i : Int) = torn → (q : Int) = (idx6 l2[i].at_ : Nat)) := by
                        show ∀ i, _
                        intro i hi _ hit
                        obtain rfl : i = k := by omega
                        rw [← HP.out, HQ.out]
                      have HKT := Lib.hid hkt
                      clear htt
                      go_wp2
                      refine ⟨?rel, ?measure⟩
                      case rel =>
                        exact ⟨k + 1, _, _, by omega, by rw [← HKT.out]; go_num, rfl, hmL, dL, frL, hnew⟩
                      case measure => have := HKT.out; simp [intOf]; omega
                    · have hnew : Hid (∀ i (h : i < l2.length), i < k + 1 → (i : Int) = torn → tt = (idx6 l2[i].at_ : Nat)) := by
                        show ∀ i, _
                        intro i hi h2 hit
                        exact htt.out i hi (by omega) hit
                      clear htt
                      go_wp2
                      refine ⟨?rel, ?measure⟩
                      case rel =>
                        exact ⟨k + 1, _, _, by omega, by go_num, rfl, hmL, dL, frL, hnew⟩
                      case measure => simp [intOf]; omega
                  · obtain rfl : k = n2 := by omega
                    have hbxr := hfr.keep B8.out (by simp; omega)
                    have hzc : (Try.prog.info? 25).map (·.size) = some ([Value.slice A3 kept.length c3, .int .i64 torn, .int .i64 half] : List Value).length := by kernel_rfl
                    have F9 := Lib.hid (Fr.below_iff.1 ((Fr.below_iff.2 F8.out).then hfr (by simp; omega)))
                    go_upto_region 34 with (fail)
                    go_wp2_with (first
                      | (with_reducible show wpList _ _ _ (Oper.mk _ (.load 25 _) _ _ _ _ :: _) _ _; refine wpList_load_mid rfl 25 (.tmp 5) rfl w.heap.size 0 rfl 25 _ _ _ _ hbxr Try.underlying25 rfl hzc (fun j v hj => by rw [Nat.zero_add, List.getElem?_toArray]; exact hj) ?_))
                    have hkofs : OffB (.slice A3 kept.length c3) kept.length [bs] := h3.offB (fun x hx => by simp at hx; subst hx; exact .inl (by omega))
                    refine (wCut wr b bs _ hdk (devK_ok _ hS6 HSF.out l2 k (by omega) (by omega) n3 (by omega)) (.slice A3 kept.length c3) kept torn half T3 (h3.below F9.out) hkofs (by omega)).mono ?_
                    rintro e w7 ⟨rfl, d7c, hf7⟩
                    have hm7 := hmay.move hf7 (by simp; omega)
                    have fr7 := hfr.then hf7 (by simp)
                    clear hmay hdk hfr hf7 hbxr hkofs F9 hmay0 d7
                    go_wp2_with fail
                    refine (wOn w7 b bs _ d7c).mono ?_
                    rintro e w8 ⟨rfl, d8c, hf8⟩
                    have mC := hm7.move hf8 (by simp; omega)
                    have fr8 := fr7.then hf8 (by simp)
                    have hwC := fr8.keep hwB (by simp; omega)
                    have FC := Lib.hid (Fr.below_iff.1 ((Fr.below_iff.2 F8.out).then fr8 (by simp; omega)))
                    obtain ⟨Df, hDf⟩ : ∃ Df, Df = devCut S1 l2 n3 kept torn half := ⟨_, rfl⟩
                    have hDf2 : ({ (devK S1 l2 k n3).cut kept torn half with off := false } : Dev) = Df := by rw [hDf, devCut, hn2]
                    rw [hDf2] at d8c
                    have okf : Df.Ok := by rw [hDf]; exact devCut_ok S1 hS6 HSF.out l2 (by omega) n3 (by omega) kept torn half
                    have MAY : Hid (∀ j : Nat, j < 6 → Df.may j = 0) := by show ∀ j : Nat, _; intro j hj; rw [hDf]; exact devCut_may S1 hS6 HSF.out l2 n3 kept torn half j hj
                    have TELL : Hid (∀ j : Nat, j < 6 → Df.at_ j = S1.getD j [] ∨ Df.at_ j ∈ mayL l2 k j ∨ tt = j) := by
                      show ∀ j : Nat, _
                      intro j hj
                      have h := devCut_tells S1 hS6 HSF.out l2 n3 kept torn half j hj
                      have hLk : mayL l2 l2.length j = mayL l2 k j := by rw [hn2]
                      rw [← hDf, hLk] at h
                      rcases h with h | h | ⟨i, hi, h1, h2⟩
                      · exact .inl h
                      · exact .inr (.inl h)
                      · exact .inr (.inr (by rw [htt.out i hi (by omega) h1, h2]))
                    have hloose : Df.loose = [] := by rw [hDf]; exact devCut_loose _ _ _ _ _ _
                    clear hm7 fr7 hf8 fr8 hDf hDf2 d7c htt hwB
                    generalize (Dev.cut (devK S1 l2 k n3) kept torn half).off = bo
                    go_wp2_with fail
                    go_loopw [140] (fun i wr => ∃ j : Nat, j ≤ 6 ∧ i = .int .i64 j ∧ Fr w8 wr []) (fun i _ => 6 - (intOf i).toNat)
                    case atStart => exact ⟨0, by omega, rfl, Fr.refl _ _⟩
                    case round =>
                      obtain ⟨j, hj, rfl, hfr⟩ := hrel
                      by_cases hlt : j < 6
                      · have hji : (j : Int) < 6 := by omega
                        go_wp2_with fail
                        refine (wRead_yes wr b bs Df (d8c.below (Fr.below_iff.1 hfr)) okf j (MAY.out j hlt)).mono ?_
                        rintro e w10 ⟨g10, rfl, hg10, hg101, hb10⟩
                        have hxl := Dev.at_len okf.wf (MAY.out j hlt)
                        have htell := TELL.out j hlt
                        generalize Df.at_ j = x at *
                        have HT := Lib.hid htell
                        have hfr10 := hfr.below hb10
                        clear htell hfr hb10 hg101
                        go_wp2_with fail
                        refine (wLoose w10 b bs Df (d8c.below (Fr.below_iff.1 hfr10))).mono ?_
                        rw [hloose]
                        rintro e w11 ⟨rfl, rfl⟩
                        have hfr11 := hfr10.drew
                        have hg11 : w11.drew.heap[g10]? = _ := hg10
                        have hcv := run_bytes_str (P := Try.prog) w11.drew 33 9 5 Try.underlying33 Try.underlying5 Try.underlying9 (some ⟨g10, 0, none⟩) 256 256 109 x hxl (row_at hg11 hxl (Nat.le_refl 256))
                        have hcW : w11.drew.cell? ⟨W, j, none⟩ = some _ := (cell_of_row _ _ _ _ _ _ (hfr11.keep hwC (by simp))).trans (sv_some _ j (by omega))
                        have HG := Lib.hid hg11
                        have HFR := Lib.hid hfr11
                        have hx1 := str_back x
                        have hx2 := str_back S1[j]
                        by_cases he : x = S1[j]
                        · clear HT
                          have HT : Hid (True) := Lib.hid trivial
                          go_upto_region 42 with (fail)
                          go_still_tail 11, (by kernel_rfl)
                          change wpList _ _ _ _ _ w11.drew
                          clear hcv hcW hg10 hg11 hfr10
                          obtain ⟨w12, hw12⟩ : ∃ w12, w12 = w11.drew := ⟨_, rfl⟩
                          refine wpList_at hw12 ?_
                          rw [← hw12] at HG HFR
                          clear hfr11 hw12 hx2
                          try clear hbeq
                          have HE0 := Lib.hid he
                          clear he
                          have hg12 := HG.out
                          have hcv := run_bytes_str (P := Try.prog) w12 33 9 5 Try.underlying33 Try.underlying5 Try.underlying9 (some ⟨g10, 0, none⟩) 256 256 109 x hxl (row_at hg12 hxl (Nat.le_refl 256))
                          have hm12 := mC.move HFR.out (by simp)
                          obtain ⟨v, hv⟩ : ∃ v, v = ms.getD j undef := ⟨_, rfl⟩
                          have hcM : w12.cell? ⟨M, j, none⟩ = some v := by
                            rw [cell_of_row _ _ _ _ _ _ hm12.blk, hv, List.getElem?_toArray, List.getD_eq_getElem?_getD, List.getElem?_eq_getElem (by rw [hm12.len]; exact hlt)]
                            rfl
                          have own12 := hm12.rows j hlt
                          rw [← hv] at own12
                          obtain ⟨L, hL⟩ : ∃ L, L = mayL l2 k j := ⟨_, rfl⟩
                          rw [← hL] at own12
                          try rw [← hL] at HT
                          have hLl : L.length ≤ 60 := by rw [hL]; have := mayL_le l2 k j; omega
                          obtain ⟨A', c', hva⟩ := owns_slice own12
                          rw [hva] at own12 hcM
                          clear hv hL hva hm12 hg12
                          have HOWN := Lib.hid own12
                          clear own12
                          go_wp2_with fail
                          go_loopw [171, 24] (fun i sm wx => ∃ m : Nat, ∃ bb : Bool, m ≤ L.length ∧ i = .int .i64 m ∧ sm = .bool bb ∧ wx = w12 ∧ Hid (bb = true ∨ x ∈ L.drop m)) (fun i _ _ => L.length - (intOf i).toNat)
                          case atStart => exact ⟨0, true, by omega, rfl, rfl, rfl, by show _ ∨ _; exact .inl rfl⟩
                          case round =>
                            obtain ⟨m, bb, hm, rfl, rfl, rfl, hbb⟩ := hrel
                            by_cases hml : m < L.length
                            · have hmli : (m : Int) < L.length := by omega
                              rcases HOWN.out.2 with ⟨hnil, h0⟩ | ⟨g2, cap, cur, hvs, _, hg2, hnc, _, _, htk⟩
                              · omega
                              · simp only [Value.slice.injEq] at hvs
                                obtain ⟨rfl, _, rfl⟩ := hvs
                                have hce : wr.cell? ⟨g2, m, none⟩ = some (.string (str L[m])) := by
                                  have := (RowIs.of_owns HOWN.out).cells ⟨g2, 0, none⟩ rfl m (.string (str L[m])) (by rw [sv_get, List.getElem?_eq_getElem hml]; rfl)
                                  rw [addr_add, Nat.zero_add] at this
                                  exact this
                                have hLm : L.drop m = L[m] :: L.drop (m + 1) := List.drop_eq_getElem_cons hml
                                clear hg2 hnc htk
                                cases bb with
                                | true =>
                                  go_wp2
                                  refine ⟨?rel, ?measure⟩
                                  case rel => exact ⟨m + 1, true, by omega, by go_num, by first | rfl | trivial, by first | rfl | trivial, by show _ ∨ _; exact .inl rfl⟩
                                  case measure => simp [intOf]; omega
                                | false =>
                                  have hin : x = L[m] ∨ x ∈ L.drop (m + 1) := by
                                    rcases hbb.out with h | h
                                    · cases h
                                    · rw [hLm] at h
                                      exact List.mem_cons.1 h
                                  clear hbb hLm
                                  have hx2 := str_back L[m]
                                  by_cases he : x = L[m]
                                  · clear hin
                                    have HE := Lib.hid he
                                    go_wp2
                                    refine ⟨?rel, ?measure⟩
                                    case rel => exact ⟨m + 1, true, by omega, by go_num, by first | rfl | simp, by first | rfl | trivial, by show _ ∨ _; exact .inl rfl⟩
                                    case measure => simp [intOf]; omega
                                  · have hbe2 := l_ne he
                                    have hin2 : x ∈ L.drop (m + 1) := hin.resolve_left he
                                    have HI : Hid (false = true ∨ x ∈ L.drop (m + 1)) := by show _ ∨ _; exact .inr hin2
                                    clear hin hin2
                                    go_wp2
                                    refine ⟨?rel, ?measure⟩
                                    case rel => exact ⟨m + 1, false, by omega, by go_num, by first | rfl | simp [hbe2], by first | rfl | trivial, HI⟩
                                    case measure => simp [intOf]; omega
                            · obtain rfl : bb = true := by
                                rcases hbb.out with h | h
                                · exact h
                                · rw [List.drop_eq_nil_of_le (by omega)] at h
                                  cases h
                              clear hbb
                              go_wp2
                              refine ⟨?rel, ?measure⟩
                              case rel => exact ⟨j + 1, by omega, by go_num, HFR.out⟩
                              case measure => simp [intOf]; omega
                        · by_cases hjt : (j : Int) = tt
                          · subst hjt
                            have hbeq := l_ne he
                            go_upto_region 42 with (fail)
                            go_still_tail 11, (by kernel_rfl)
                            change wpList _ _ _ _ _ w11.drew
                            clear hcv hcW hg10 hg11 hfr10
                            obtain ⟨w12, hw12⟩ : ∃ w12, w12 = w11.drew := ⟨_, rfl⟩
                            refine wpList_at hw12 ?_
                            rw [← hw12] at HG HFR
                            clear hfr11 hw12 hx2
                            try clear hbeq
                            have HE0 := Lib.hid he
                            clear he
                            have hg12 := HG.out
                            have hcv := run_bytes_str (P := Try.prog) w12 33 9 5 Try.underlying33 Try.underlying5 Try.underlying9 (some ⟨g10, 0, none⟩) 256 256 109 x hxl (row_at hg12 hxl (Nat.le_refl 256))
                            have hm12 := mC.move HFR.out (by simp)
                            obtain ⟨v, hv⟩ : ∃ v, v = ms.getD j undef := ⟨_, rfl⟩
                            have hcM : w12.cell? ⟨M, j, none⟩ = some v := by
                              rw [cell_of_row _ _ _ _ _ _ hm12.blk, hv, List.getElem?_toArray, List.getD_eq_getElem?_getD, List.getElem?_eq_getElem (by rw [hm12.len]; exact hlt)]
                              rfl
                            have own12 := hm12.rows j hlt
                            rw [← hv] at own12
                            obtain ⟨L, hL⟩ : ∃ L, L = mayL l2 k j := ⟨_, rfl⟩
                            rw [← hL] at own12
                            try rw [← hL] at HT
                            have hLl : L.length ≤ 60 := by rw [hL]; have := mayL_le l2 k j; omega
                            obtain ⟨A', c', hva⟩ := owns_slice own12
                            rw [hva] at own12 hcM
                            clear hv hL hva hm12 hg12
                            have HOWN := Lib.hid own12
                            clear own12
                            go_wp2_with fail
                            go_loopw [171, 24] (fun i sm wx => ∃ m : Nat, ∃ bb : Bool, m ≤ L.length ∧ i = .int .i64 m ∧ sm = .bool bb ∧ wx = w12 ∧ Hid (bb = true ∨ x ∈ L.drop m)) (fun i _ _ => L.length - (intOf i).toNat)
                            case atStart => exact ⟨0, true, by omega, rfl, rfl, rfl, by show _ ∨ _; exact .inl rfl⟩
                            case round =>
                              obtain ⟨m, bb, hm, rfl, rfl, rfl, hbb⟩ := hrel
                              by_cases hml : m < L.length
                              · have hmli : (m : Int) < L.length := by omega
                                rcases HOWN.out.2 with ⟨hnil, h0⟩ | ⟨g2, cap, cur, hvs, _, hg2, hnc, _, _, htk⟩
                                · omega
                                · simp only [Value.slice.injEq] at hvs
                                  obtain ⟨rfl, _, rfl⟩ := hvs
                                  have hce : wr.cell? ⟨g2, m, none⟩ = some (.string (str L[m])) := by
                                    have := (RowIs.of_owns HOWN.out).cells ⟨g2, 0, none⟩ rfl m (.string (str L[m])) (by rw [sv_get, List.getElem?_eq_getElem hml]; rfl)
                                    rw [addr_add, Nat.zero_add] at this
                                    exact this
                                  have hLm : L.drop m = L[m] :: L.drop (m + 1) := List.drop_eq_getElem_cons hml
                                  clear hg2 hnc htk
                                  cases bb with
                                  | true =>
                                    go_wp2
                                    refine ⟨?rel, ?measure⟩
                                    case rel => exact ⟨m + 1, true, by omega, by go_num, by first | rfl | trivial, by first | rfl | trivial, by show _ ∨ _; exact .inl rfl⟩
                                    case measure => simp [intOf]; omega
                                  | false =>
                                    have hin : x = L[m] ∨ x ∈ L.drop (m + 1) := by
                                      rcases hbb.out with h | h
                                      · cases h
                                      · rw [hLm] at h
                                        exact List.mem_cons.1 h
                                    clear hbb hLm
                                    have hx2 := str_back L[m]
                                    by_cases he : x = L[m]
                                    · clear hin
                                      have HE := Lib.hid he
                                      go_wp2
                                      refine ⟨?rel, ?measure⟩
                                      case rel => exact ⟨m + 1, true, by omega, by go_num, by first | rfl | simp, by first | rfl | trivial, by show _ ∨ _; exact .inl rfl⟩
                                      case measure => simp [intOf]; omega
                                    · have hbe2 := l_ne he
                                      have hin2 : x ∈ L.drop (m + 1) := hin.resolve_left he
                                      have HI : Hid (false = true ∨ x ∈ L.drop (m + 1)) := by show _ ∨ _; exact .inr hin2
                                      clear hin hin2
                                      go_wp2
                                      refine ⟨?rel, ?measure⟩
                                      case rel => exact ⟨m + 1, false, by omega, by go_num, by first | rfl | simp [hbe2], by first | rfl | trivial, HI⟩
                                      case measure => simp [intOf]; omega
                              · obtain rfl : bb = true := by
                                  rcases hbb.out with h | h
                                  · exact h
                                  · rw [List.drop_eq_nil_of_le (by omega)] at h
                                    cases h
                                clear hbb
                                go_wp2
                                refine ⟨?rel, ?measure⟩
                                case rel => exact ⟨j + 1, by omega, by go_num, HFR.out⟩
                                case measure => simp [intOf]; omega
                          · have hin : x ∈ mayL l2 k j := by
                              rcases HT.out with h | h | h
                              · exact absurd (by rw [h, List.getD_eq_getElem?_getD, List.getElem?_eq_getElem (by omega)]; rfl) he
                              · exact h
                              · exact absurd h.symm hjt
                            clear HT
                            have HT := Lib.hid hin
                            clear hin
                            have hbj : ((j : Int) == tt) = false := by simpa using hjt
                            have hbeq := l_ne he
                            go_upto_region 42 with (fail)
                            go_still_tail 11, (by kernel_rfl)
                            change wpList _ _ _ _ _ w11.drew
                            clear hcv hcW hg10 hg11 hfr10
                            obtain ⟨w12, hw12⟩ : ∃ w12, w12 = w11.drew := ⟨_, rfl⟩
                            refine wpList_at hw12 ?_
                            rw [← hw12] at HG HFR
                            clear hfr11 hw12 hx2
                            try clear hbeq
                            have HE0 := Lib.hid he
                            clear he
                            have hg12 := HG.out
                            have hcv := run_bytes_str (P := Try.prog) w12 33 9 5 Try.underlying33 Try.underlying5 Try.underlying9 (some ⟨g10, 0, none⟩) 256 256 109 x hxl (row_at hg12 hxl (Nat.le_refl 256))
                            have hm12 := mC.move HFR.out (by simp)
                            obtain ⟨v, hv⟩ : ∃ v, v = ms.getD j undef := ⟨_, rfl⟩
                            have hcM : w12.cell? ⟨M, j, none⟩ = some v := by
                              rw [cell_of_row _ _ _ _ _ _ hm12.blk, hv, List.getElem?_toArray, List.getD_eq_getElem?_getD, List.getElem?_eq_getElem (by rw [hm12.len]; exact hlt)]
                              rfl
                            have own12 := hm12.rows j hlt
                            rw [← hv] at own12
                            obtain ⟨L, hL⟩ : ∃ L, L = mayL l2 k j := ⟨_, rfl⟩
                            rw [← hL] at own12
                            try rw [← hL] at HT
                            have hLl : L.length ≤ 60 := by rw [hL]; have := mayL_le l2 k j; omega
                            obtain ⟨A', c', hva⟩ := owns_slice own12
                            rw [hva] at own12 hcM
                            clear hv hL hva hm12 hg12
                            have HOWN := Lib.hid own12
                            clear own12
                            go_wp2_with fail
                            go_loopw [171, 24] (fun i sm wx => ∃ m : Nat, ∃ bb : Bool, m ≤ L.length ∧ i = .int .i64 m ∧ sm = .bool bb ∧ wx = w12 ∧ Hid (bb = true ∨ x ∈ L.drop m)) (fun i _ _ => L.length - (intOf i).toNat)
                            case atStart => exact ⟨0, false, by omega, rfl, rfl, rfl, by show _ ∨ _; exact .inr HT.out⟩
                            case round =>
                              obtain ⟨m, bb, hm, rfl, rfl, rfl, hbb⟩ := hrel
                              by_cases hml : m < L.length
                              · have hmli : (m : Int) < L.length := by omega
                                rcases HOWN.out.2 with ⟨hnil, h0⟩ | ⟨g2, cap, cur, hvs, _, hg2, hnc, _, _, htk⟩
                                · omega
                                · simp only [Value.slice.injEq] at hvs
                                  obtain ⟨rfl, _, rfl⟩ := hvs
                                  have hce : wr.cell? ⟨g2, m, none⟩ = some (.string (str L[m])) := by
                                    have := (RowIs.of_owns HOWN.out).cells ⟨g2, 0, none⟩ rfl m (.string (str L[m])) (by rw [sv_get, List.getElem?_eq_getElem hml]; rfl)
                                    rw [addr_add, Nat.zero_add] at this
                                    exact this
                                  have hLm : L.drop m = L[m] :: L.drop (m + 1) := List.drop_eq_getElem_cons hml
                                  clear hg2 hnc htk
                                  cases bb with
                                  | true =>
                                    go_wp2
                                    refine ⟨?rel, ?measure⟩
                                    case rel => exact ⟨m + 1, true, by omega, by go_num, by first | rfl | trivial, by first | rfl | trivial, by show _ ∨ _; exact .inl rfl⟩
                                    case measure => simp [intOf]; omega
                                  | false =>
                                    have hin : x = L[m] ∨ x ∈ L.drop (m + 1) := by
                                      rcases hbb.out with h | h
                                      · cases h
                                      · rw [hLm] at h
                                        exact List.mem_cons.1 h
                                    clear hbb hLm
                                    have hx2 := str_back L[m]
                                    by_cases he : x = L[m]
                                    · clear hin
                                      have HE := Lib.hid he
                                      go_wp2
                                      refine ⟨?rel, ?measure⟩
                                      case rel => exact ⟨m + 1, true, by omega, by go_num, by first | rfl | simp, by first | rfl | trivial, by show _ ∨ _; exact .inl rfl⟩
                                      case measure => simp [intOf]; omega
                                    · have hbe2 := l_ne he
                                      have hin2 : x ∈ L.drop (m + 1) := hin.resolve_left he
                                      have HI : Hid (false = true ∨ x ∈ L.drop (m + 1)) := by show _ ∨ _; exact .inr hin2
                                      clear hin hin2
                                      go_wp2
                                      refine ⟨?rel, ?measure⟩
                                      case rel => exact ⟨m + 1, false, by omega, by go_num, by first | rfl | simp [hbe2], by first | rfl | trivial, HI⟩
                                      case measure => simp [intOf]; omega
                              · obtain rfl : bb = true := by
                                  rcases hbb.out with h | h
                                  · exact h
                                  · rw [List.drop_eq_nil_of_le (by omega)] at h
                                    cases h
                                clear hbb
                                go_wp2
                                refine ⟨?rel, ?measure⟩
                                case rel => exact ⟨j + 1, by omega, by go_num, HFR.out⟩
                                case measure => simp [intOf]; omega
                      · go_wp2
                        go_ret
                        exact ⟨rfl, Fr.below_iff.1 ((Fr.below_iff.2 FC.out).then hfr (by simp))⟩
end Go.Proofs.Yteggldplmbegfaa
