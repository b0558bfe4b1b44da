/- THE DEVICE's Cut, walked. -/
import Derived.Test.YteggldplmbegfaaDev2
import Derived.Deep.Cut
import Derived.Deep.DeepCutAuto
set_option linter.unusedVariables false
set_option linter.unusedSimpArgs false
namespace Go.Proofs.Yteggldplmbegfaa
open Go.RowKit

/-- Where the k-th loose write lies. -/
theorem lz_at {w : World} {A : Option Addr} {n c : Nat} {ls : List (Nat × List UInt8)} (h : RowIs w (.slice A n c) 111 257 n (lz ls)) (hn : ls.length = n) (hf : ∀ p ∈ ls, p.2.length = 256) (k : Nat) (hk : k < n) :
    ∃ g o, A = some ⟨g, o, none⟩ ∧ ∃ cur fr, w.heap[g]? = some (.cells cur 111 fr) ∧ ∃ hx : k < ls.length, ∀ j x, (lzc ls[k])[j]? = some x → cur[o + k * 257 + j]? = some x := by
  rcases h.2 with ⟨rfl, _⟩ | ⟨g, o, c', cur, fr, hv, hc, hg, hx⟩
  · omega
  · simp only [Value.slice.injEq] at hv
    obtain ⟨rfl, _, _⟩ := hv
    refine ⟨g, o, rfl, cur, fr, hg, by omega, fun j x hj => ?_⟩
    have hj' : j < 257 := by
      have h2 := (List.getElem?_eq_some_iff.1 hj).1
      have h3 := hf ls[k] (List.getElem_mem _)
      simp only [lzc, List.length_cons, bv_length] at h2
      omega
    rw [Nat.add_assoc]
    refine hx _ x ?_
    unfold lz
    rw [flatten_get 257 _ (by simp only [List.mem_map]; rintro l ⟨p, hp, rfl⟩; simp [lzc, bv_length, hf p hp]) k j hj']
    simp only [List.getElem?_map, List.getElem?_eq_getElem (show k < ls.length by omega), Option.map_some, Option.bind_some]
    exact hj

theorem zero111 : (Try.prog.info? 111).map (·.size) = some 257 := by kernel_rfl
theorem zero109 : (Try.prog.info? 109).map (·.size) = some 256 := by kernel_rfl

theorem zrow111 : (Try.prog.info? 111).map (·.zero) = some (some (.agg Try.zeroCells111)) := by kernel_rfl
theorem zsize111 : Try.zeroCells111.size = 257 := by kernel_rfl
theorem zrow109 : (Try.prog.info? 109).map (·.zero) = some (some (.agg Try.zeroCells109)) := by kernel_rfl
theorem zsize109 : Try.zeroCells109.size = 256 := by kernel_rfl
theorem lzc_one (p : Nat × List UInt8) : ∀ v ∈ lzc p, v.oneCell' = true := by
  intro v hv
  simp only [lzc, List.mem_cons] at hv
  rcases hv with rfl | hv
  · rfl
  · exact bv_one _ v hv
theorem flat_length (s : List (List UInt8)) (h : ∀ x ∈ s, x.length = 256) : (flat s).length = s.length * 256 := by
  unfold flat
  rw [flatten_len 256]
  · simp
  · intro l hl
    simp only [List.mem_map] at hl
    obtain ⟨x, hx, rfl⟩ := hl
    rw [bv_length]; exact h x hx
theorem flat_set (s : List (List UInt8)) (i : Nat) (b : List UInt8) (off n : Nat) (hi : i < s.length) (h : ∀ x ∈ s, x.length = 256) (ho : off + b.length ≤ 256) :
    splice (flat s) (i * 256 + off) (bv b) = flat (s.set i (splice (s.getD i []) off b)) := by
  unfold flat
  rw [splice_flatten 256 _ (fun l hl => by simp only [List.mem_map] at hl; obtain ⟨x, hx, rfl⟩ := hl; rw [bv_length]; exact h x hx) i (by simpa using hi) off (bv b) (by rw [bv_length]; exact ho)]
  congr 1
  rw [List.map_set]
  congr 1
  rw [List.getD_eq_getElem?_getD, List.getElem?_map, List.getElem?_eq_getElem hi, List.getD_eq_getElem?_getD, List.getElem?_eq_getElem hi]
  simp [splice, bv, List.map_take, List.map_drop]
theorem flat_lay (s : List (List UInt8)) (p : Nat × List UInt8) (n : Nat) (hn : n ≤ 256) (hi : p.1 < s.length) (h : ∀ x ∈ s, x.length = 256) (hp : p.2.length = 256) :
    splice (flat s) (p.1 * 256) ((bv p.2).take n) = flat (Dev.lay s p n) := by
  have e : (bv p.2).take n = bv (p.2.take n) := by simp [bv, List.map_take]
  have := flat_set s p.1 (p.2.take n) 0 0 hi h (by simp; omega)
  rw [Nat.add_zero] at this
  rw [e, this]
  simp [Dev.lay, splice, hp, Nat.min_eq_left hn]
theorem zero5 : (Try.prog.info? 5).map (·.size) = some 1 := by kernel_rfl
theorem splice111 (p : Nat × List UInt8) (h : p.2.length = 256) : splice Try.zeroCells111.toList 0 (lzc p) = lzc p := by
  refine splice_all _ _ ?_
  have e : Try.zeroCells111.toList.length = 257 := zsize111
  rw [e]
  simp only [lzc, List.length_cons, bv_length, h]

set_option maxRecDepth 20000 in
set_option maxHeartbeats 1000000 in
theorem dCut_on (w : World) (b bs : Nat) (D : Dev) (lv kv : Value) (h : DevAt w b bs D lv kv) (hw : D.Wf) (ho : D.off = false) (kv' : Value) (kept : List Int) (torn half : Int)
    (T : TypeId) (hk : RowIs w kv' T 1 kept.length (iv kept)) (hoff : OffB kv' kept.length [bs]) (hkb : kept.length ≤ 1000000000000) :
    Calls Try.prog 19 #[.pointer (some ⟨b, 0, none⟩), .agg #[kv', .int .i64 torn, .int .i64 half]] w fun e w' =>
      e = .returned (.tuple #[]) ∧ DevAt w' b bs (D.cut kept torn half) (.slice none 0 0) kv ∧ Fr w w' [b, bs] := by
  have hloose := h.loose
  have hll : D.loose.length ≤ 1000000001 := by have := hw.many; have := hw.changes; omega
  obtain ⟨A, c, rfl⟩ := hloose.shape
  go_enter Try.func19, Try.ntmps19
  go_wp2_with fail
  have hbox : (w.alloc (.cells #[kv', .int .i64 torn, .int .i64 half] 25 (0, 0))).heap[w.heap.size]? = some (.cells #[kv', .int .i64 torn, .int .i64 half] 25 (0, 0)) := heap_alloc_new w _
  have hg := World.grownBy_alloc w (.cells #[kv', .int .i64 torn, .int .i64 half] 25 (0, 0)) none
  generalize hW : w.alloc (.cells #[kv', .int .i64 torn, .int .i64 half] 25 (0, 0)) = w1 at *
  clear hW
  have h1 := h.grown hg
  have hk1 := hk.grown hg
  have hl1 := hloose.grown hg
  have F1 := Lib.hid ((Fr.refl w [b, bs]).grown hg (by simp))
  have B0 : w1.cell? ⟨w.heap.size, 0, none⟩ = some kv' := cell_of_row _ _ _ _ _ _ hbox
  have B1 : w1.cell? ⟨w.heap.size, 1, none⟩ = some (.int .i64 torn) := cell_of_row _ _ _ _ _ _ hbox
  have B2 : w1.cell? ⟨w.heap.size, 2, none⟩ = some (.int .i64 half) := cell_of_row _ _ _ _ _ _ hbox
  refine (dOff_any _ b bs D _ kv h1).mono ?_
  rintro e w' ⟨rfl, rfl⟩
  rw [ho]
  have c1 : w'.cell? ⟨b, 1, none⟩ = some (.slice A D.loose.length c) := h1.cell 1
  go_wp2_with fail
  go_loopw [14] (fun i wr => ∃ k : Nat, ∃ s : List (List UInt8), k ≤ D.loose.length ∧ i = .int .i64 k ∧ wr.heap[bs]? = some (.cells (flat s).toArray 109 (0, 0)) ∧ Fr w' wr [bs] ∧
      Hid (Dev.cutFrom kept torn half k (D.loose.drop k) s = Dev.cutFrom kept torn half 0 D.loose D.sure ∧ s.length = D.sure.length ∧ ∀ x ∈ s, x.length = 256)) (fun i _ => D.loose.length - (intOf i).toNat)
  case atStart => exact ⟨0, D.sure, Nat.zero_le _, rfl, h1.sure, Fr.refl _ _, by show _ ∧ _ ∧ _; exact ⟨by simp, rfl, hw.full⟩⟩
  case round =>
    obtain ⟨k, s, hkl, rfl, hbs, hfr, hs⟩ := hrel
    by_cases hlt : k < D.loose.length
    · obtain ⟨g, o, rfl, cur, fr, hcur, hx, hcell⟩ := lz_at hl1 rfl (fun p hp => (hw.loose p hp).2) k hlt
      have hp := hw.loose D.loose[k] (List.getElem_mem _)
      obtain ⟨p, hp0⟩ : ∃ p, p = D.loose[k] := ⟨_, rfl⟩
      rw [← hp0] at hcell hp
      have HP := Lib.hid hp0
      clear hp0
      have hgb : g ≠ bs := typ_ne hcur h1.sure (by decide)
      have hrow := hfr.keep hcur (by simpa using hgb)
      have hz : (Try.prog.info? 111).map (·.size) = some (lzc p).length := by rw [zero111]; simp [lzc, bv_length, hp.2]
      have HC := Lib.hid hcell
      clear hcell
      have hfit := zsize111 ▸ (show 0 + (lzc p).length ≤ 257 by simp [lzc, bv_length, hp.2])
      have hone := lzc_one p
      go_upto_region 5 with (first
        | (with_reducible show wpList _ _ _ (Oper.mk _ (.load 111 _) _ _ _ _ :: _) _ _; refine wpList_load_mid rfl 111 (.tmp 17) rfl g (o + k * 257) rfl 111 cur fr _ (lzc p) hrow Try.underlying111 rfl hz HC.out ?_)
        | (with_reducible show wpList _ _ _ (Oper.mk _ (.alloc 111) _ _ _ _ :: _) _ _; refine wpList_alloc_row rfl 111 rfl _ zrow111 ?_; intro w2 hn2 hg2 hs2)
        | (with_reducible show wpList _ _ _ (Oper.mk _ (.store 111 _ _) _ _ _ _ :: _) _ _; refine wpList_store_mid rfl rfl 111 (.tmp 5) (.tmp 18) rfl wr.heap.size 0 rfl (lzc p) rfl 111 Try.zeroCells111 hn2 hz hfit hone ?_; intro w3 hn3 hg3 hs3; rw [splice111 p hp.2] at hn3; clear hn2 hfit))
      have HN3 := Lib.hid hn3
      clear hn3
      have F3 : Fr wr w3 [] := ((Fr.refl wr []).grown hg2 (by simp)).grown hg3 (by simp)
      have hne : wr.heap.size ≠ bs := by have := lt_of_heap hbs; omega
      have hb3 : w3.heap[bs]? = some (.cells (flat s).toArray 109 (0, 0)) := F3.keep hbs (by simp)
      have hfr3 : Fr w' w3 [bs] := hfr.then F3 (by simp)
      have hbx : w3.heap[w.heap.size]? = some (.cells #[kv', .int .i64 torn, .int .i64 half] 25 (0, 0)) := hfr3.keep hbox (by simpa using (typ_ne hbox h1.sure (by decide)))
      have B0 : w3.cell? ⟨w.heap.size, 0, none⟩ = some kv' := cell_of_row _ _ _ _ _ _ hbx
      have B1 : w3.cell? ⟨w.heap.size, 1, none⟩ = some (.int .i64 torn) := cell_of_row _ _ _ _ _ _ hbx
      have B2 : w3.cell? ⟨w.heap.size, 2, none⟩ = some (.int .i64 half) := cell_of_row _ _ _ _ _ _ hbx
      have hk3 : RowIs w3 kv' T 1 kept.length (iv kept) := hk1.apart hfr3 hoff
      have e0 : w3.cell? ⟨b, 0, none⟩ = some (.slice (some ⟨bs, 0, none⟩) D.sure.length D.sure.length) := by
        rw [cell_of_row _ _ _ _ _ _ (hfr3.keep h1.blk (by simpa using h1.ne))]; rfl
      have p0 : w3.cell? ⟨wr.heap.size, 0, none⟩ = some (.int .i64 p.1) := by rw [cell_of_row _ _ _ _ _ _ HN3.out]; rfl
      clear hg2 hg3 hs2 hs3 hrow hcur
      have hp1 : (p.1 : Int) < (D.sure.length : Int) := by omega
      have hp1' : p.1 < D.sure.length := hp.1
      obtain ⟨n, hn⟩ : ∃ n, n = Dev.tear kept torn half k := ⟨_, rfl⟩
      have hn256 : n ≤ 256 := by rw [hn]; exact Dev.tear_le _ _ _ _
      have HT := Lib.hid hn
      have hni : (n : Int) ≤ 256 := by omega
      have hni0 : (0 : Int) ≤ n := by omega
      have HI : (k : Int) ∈ kept → Hid ((256 : Int) = n) := fun h => by show _ = _; rw [hn]; simp [Dev.tear, h]
      have HJ : (k : Int) ∉ kept → torn = k → Hid ((if 0 < if 256 < half then 256 else half then if 256 < half then 256 else half else 0) = (n : Int)) := fun h h2 => by
        show _ = _
        rw [hn]
        simp only [Dev.tear, h, h2, if_true, if_false]
        omega
      have HK : (k : Int) ∉ kept → torn ≠ k → Hid ((0 : Int) = n) := fun h h2 => by show _ = _; rw [hn]; simp [Dev.tear, h, h2]
      clear hn
      by_cases hin : (k : Int) ∈ kept
      · have hdec : decide ((k : Int) ∈ kept) = true := by simpa using hin
        replace HI := HI hin
        clear hin HJ HK
        go_upto_region 10 with (go_at_call 54; refine (sContains_any _ kv' kept k T hk3 hkb).mono ?_; rintro e w4 ⟨rfl, rfl⟩)
        rw [HI.out]
        go_still_tail 11, (by kernel_rfl)
        change wpList _ _ _ _ _ w4.drew
        have hb4 : w4.drew.heap[bs]? = some (.cells (flat s).toArray 109 (0, 0)) := hb3
        have hn4 : w4.drew.heap[wr.heap.size]? = some (.cells (lzc p).toArray 111 (0, 0)) := HN3.out
        have F4 : Fr w' w4.drew [bs] := hfr3.drew
        generalize w4.drew = w5 at *
        refine wpList_copy_mid rfl (.tmp 39) (.tmp 41) 33 33 rfl 5 Try.underlying33 zero5 bs (p.1 * 256) n 256 rfl ⟨wr.heap.size, 1, none⟩ 256 256 rfl _ _ hb4 ((bv p.2).take n) ?_ ?_ ?_ ?_ ?_
        · rw [List.length_take, bv_length, hp.2]; exact Nat.min_comm _ _
        · intro j v hv
          rw [addr_add, cell_of_row _ _ _ _ _ _ hn4, Nat.add_comm]
          have h2 : (bv p.2)[j]? = some v := by rw [List.getElem?_take] at hv; split at hv; exact hv; exact absurd hv (by simp)
          simpa [lzc] using h2
        · rw [List.size_toArray, flat_length _ hs.out.2.2, hs.out.2.1, List.length_take, bv_length]
          have : p.1 * 256 + 256 ≤ D.sure.length * 256 := by omega
          omega
        · exact fun v hv => bv_one _ v (List.mem_of_mem_take hv)
        intro w6 hn6 hg6 hs6
        rw [List.toList_toArray, flat_lay s p n hn256 (by rw [hs.out.2.1]; exact hp1') hs.out.2.2 hp.2] at hn6
        have F6 : Fr w' w6 [bs] := F4.grown hg6 (by simp)
        have HS := Lib.hid hs.out
        have hw := Dev.lay_wf (p := p) hn256 hs.out.2.2 ⟨by rw [hs.out.2.1]; exact hp1', hp.2⟩
        clear hs hs6 hg6 hb4 hn4
        go_wp2
        go_roundw
        case rel =>
          refine ⟨k + 1, Dev.lay s p n, by omega, by go_num, hn6, F6, ?_⟩
          show _ ∧ _ ∧ _
          refine ⟨?_, hw.1.trans HS.out.2.1, hw.2⟩
          have h2 := HS.out.1
          rw [List.drop_eq_getElem_cons hx, ← HP.out] at h2
          rw [HT.out]
          exact h2
        case measure => simp [intOf]; omega
      · have hdec : decide ((k : Int) ∈ kept) = false := by simpa using hin
        replace HJ := HJ hin
        replace HK := HK hin
        clear hin HI
        by_cases ht : torn = k
        · have htb : (torn == (k : Int)) = true := by simpa using ht
          replace HJ := HJ ht
          clear ht HK
          go_upto_region 10 with (go_at_call 54; refine (sContains_any _ kv' kept k T hk3 hkb).mono ?_; rintro e w4 ⟨rfl, rfl⟩)
          rw [HJ.out]
          go_still_tail 11, (by kernel_rfl)
          change wpList _ _ _ _ _ w4.drew
          have hb4 : w4.drew.heap[bs]? = some (.cells (flat s).toArray 109 (0, 0)) := hb3
          have hn4 : w4.drew.heap[wr.heap.size]? = some (.cells (lzc p).toArray 111 (0, 0)) := HN3.out
          have F4 : Fr w' w4.drew [bs] := hfr3.drew
          generalize w4.drew = w5 at *
          refine wpList_copy_mid rfl (.tmp 39) (.tmp 41) 33 33 rfl 5 Try.underlying33 zero5 bs (p.1 * 256) n 256 rfl ⟨wr.heap.size, 1, none⟩ 256 256 rfl _ _ hb4 ((bv p.2).take n) ?_ ?_ ?_ ?_ ?_
          · rw [List.length_take, bv_length, hp.2]; exact Nat.min_comm _ _
          · intro j v hv
            rw [addr_add, cell_of_row _ _ _ _ _ _ hn4, Nat.add_comm]
            have h2 : (bv p.2)[j]? = some v := by rw [List.getElem?_take] at hv; split at hv; exact hv; exact absurd hv (by simp)
            simpa [lzc] using h2
          · rw [List.size_toArray, flat_length _ hs.out.2.2, hs.out.2.1, List.length_take, bv_length]
            have : p.1 * 256 + 256 ≤ D.sure.length * 256 := by omega
            omega
          · exact fun v hv => bv_one _ v (List.mem_of_mem_take hv)
          intro w6 hn6 hg6 hs6
          rw [List.toList_toArray, flat_lay s p n hn256 (by rw [hs.out.2.1]; exact hp1') hs.out.2.2 hp.2] at hn6
          have F6 : Fr w' w6 [bs] := F4.grown hg6 (by simp)
          have HS := Lib.hid hs.out
          have hw := Dev.lay_wf (p := p) hn256 hs.out.2.2 ⟨by rw [hs.out.2.1]; exact hp1', hp.2⟩
          clear hs hs6 hg6 hb4 hn4
          go_wp2
          go_roundw
          case rel =>
            refine ⟨k + 1, Dev.lay s p n, by omega, by go_num, hn6, F6, ?_⟩
            show _ ∧ _ ∧ _
            refine ⟨?_, hw.1.trans HS.out.2.1, hw.2⟩
            have h2 := HS.out.1
            rw [List.drop_eq_getElem_cons hx, ← HP.out] at h2
            rw [HT.out]
            exact h2
          case measure => simp [intOf]; omega
        · have htb : (torn == (k : Int)) = false := by simpa using ht
          replace HK := HK ht
          clear ht HJ
          go_upto_region 10 with (go_at_call 54; refine (sContains_any _ kv' kept k T hk3 hkb).mono ?_; rintro e w4 ⟨rfl, rfl⟩)
          rw [HK.out]
          go_still_tail 11, (by kernel_rfl)
          change wpList _ _ _ _ _ w4.drew
          have hb4 : w4.drew.heap[bs]? = some (.cells (flat s).toArray 109 (0, 0)) := hb3
          have hn4 : w4.drew.heap[wr.heap.size]? = some (.cells (lzc p).toArray 111 (0, 0)) := HN3.out
          have F4 : Fr w' w4.drew [bs] := hfr3.drew
          generalize w4.drew = w5 at *
          refine wpList_copy_mid rfl (.tmp 39) (.tmp 41) 33 33 rfl 5 Try.underlying33 zero5 bs (p.1 * 256) n 256 rfl ⟨wr.heap.size, 1, none⟩ 256 256 rfl _ _ hb4 ((bv p.2).take n) ?_ ?_ ?_ ?_ ?_
          · rw [List.length_take, bv_length, hp.2]; exact Nat.min_comm _ _
          · intro j v hv
            rw [addr_add, cell_of_row _ _ _ _ _ _ hn4, Nat.add_comm]
            have h2 : (bv p.2)[j]? = some v := by rw [List.getElem?_take] at hv; split at hv; exact hv; exact absurd hv (by simp)
            simpa [lzc] using h2
          · rw [List.size_toArray, flat_length _ hs.out.2.2, hs.out.2.1, List.length_take, bv_length]
            have : p.1 * 256 + 256 ≤ D.sure.length * 256 := by omega
            omega
          · exact fun v hv => bv_one _ v (List.mem_of_mem_take hv)
          intro w6 hn6 hg6 hs6
          rw [List.toList_toArray, flat_lay s p n hn256 (by rw [hs.out.2.1]; exact hp1') hs.out.2.2 hp.2] at hn6
          have F6 : Fr w' w6 [bs] := F4.grown hg6 (by simp)
          have HS := Lib.hid hs.out
          have hw := Dev.lay_wf (p := p) hn256 hs.out.2.2 ⟨by rw [hs.out.2.1]; exact hp1', hp.2⟩
          clear hs hs6 hg6 hb4 hn4
          go_wp2
          go_roundw
          case rel =>
            refine ⟨k + 1, Dev.lay s p n, by omega, by go_num, hn6, F6, ?_⟩
            show _ ∧ _ ∧ _
            refine ⟨?_, hw.1.trans HS.out.2.1, hw.2⟩
            have h2 := HS.out.1
            rw [List.drop_eq_getElem_cons hx, ← HP.out] at h2
            rw [HT.out]
            exact h2
          case measure => simp [intOf]; omega
    · obtain rfl : k = D.loose.length := by omega
      have hs2 : s = Dev.cutFrom kept torn half 0 D.loose D.sure := by have := hs.out.1; rwa [List.drop_length, Dev.cutFrom] at this
      have hd : DevAt wr b bs { D with sure := s } _ kv := ⟨by
        rw [hfr.keep h1.blk (by simpa using h1.ne)]; simp only [devCells, hs.out.2.1], hbs, h1.loose.other hfr (fun x hx => by simp at hx; subst hx; exact .inr ⟨_, _, _, h1.sure, by decide⟩), h1.kept.other hfr (fun x hx => by simp at hx; subst hx; exact .inr ⟨_, _, _, h1.sure, by decide⟩)⟩
      have f1 := hd.free 1
      have f2 := hd.free 2
      have f7 := hd.free 7
      have d1 : wr.cell? ⟨b, 1, none⟩ = some _ := hd.cell 1
      have d2 : wr.cell? ⟨b, 2, none⟩ = some (.int .i64 D.left) := hd.cell 2
      have d7 : wr.cell? ⟨b, 7, none⟩ = some (.bool D.off) := hd.cell 7
      have g1 := hd.store 1 (.slice none 0 0) { D with sure := s, loose := [] } (.slice none 0 0) kv rfl rfl (RowIs.nil _ _ _ _ _) hd.kept
      have g2 := g1.store 7 (.bool true) { D with sure := s, loose := [], off := true } (.slice none 0 0) kv rfl rfl (RowIs.nil _ _ _ _ _) g1.kept
      have g3 := g2.store 2 (.int .i64 (-1)) { D with sure := s, loose := [], off := true, left := -1 } (.slice none 0 0) kv rfl rfl (RowIs.nil _ _ _ _ _) g2.kept
      have e : D.cut kept torn half = { D with sure := s, loose := [], off := true, left := -1 } := by simp [Dev.cut, ho, hs2]
      rw [← e] at g3
      have HG := Lib.hid g3
      have HF := Lib.hid ((((F1.out.then hfr (by simp)).grown (setCell_grown wr b 1 (.slice none 0 0)) (by simp)).grown (setCell_grown _ b 7 (.bool true)) (by simp)).grown (setCell_grown _ b 2 (.int .i64 (-1))) (by simp))
      clear hs2 hs g1 g2 g3 e hd
      go_wp2
      go_end0
      exact ⟨rfl, HG.out, HF.out⟩
end Go.Proofs.Yteggldplmbegfaa
