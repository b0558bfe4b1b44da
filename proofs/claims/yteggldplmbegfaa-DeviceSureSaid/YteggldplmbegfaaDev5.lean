/- THE DEVICE's Barrier and Read, walked. -/
import Derived.Test.YteggldplmbegfaaDev4
set_option linter.unusedVariables false
set_option linter.unusedSimpArgs false
namespace Go.Proofs.Yteggldplmbegfaa
open Go.RowKit

theorem lzc_tail (p : Nat × List UInt8) : ∀ (j : Nat) (v : Value), (bv p.2)[j]? = some v → (lzc p).toArray[1 + j]? = some v := by
  intro j v hv
  rw [Nat.add_comm]
  simpa [lzc] using hv
theorem flat_put (s : List (List UInt8)) (i : Nat) (b : List UInt8) (hi : i < s.length) (h : ∀ x ∈ s, x.length = 256) (hb : b.length = 256) : splice (flat s) (i * 256) (bv b) = flat (s.set i b) := by
  have := flat_set s i b 0 0 hi h (by omega)
  rw [Nat.add_zero] at this
  rw [this]
  congr 2
  have hx : (s.getD i []).length = 256 := h _ (by rw [List.getD_eq_getElem?_getD, List.getElem?_eq_getElem hi]; simp)
  simp only [splice, List.take_zero, List.nil_append, Nat.zero_add, hb]
  rw [List.drop_eq_nil_of_le (by omega), List.append_nil]
theorem hw_of_change {D : Dev} (h : D.Ok) (hc : D.changes < 1000000000) : D.change.1.Wf := (Dev.change_ok h.wf hc h.keptb).wf

set_option maxRecDepth 20000 in
set_option maxHeartbeats 1000000 in
/-- What stands behind the change in a Barrier: every loose write is laid. -/
theorem dBarrier_any (w : World) (b bs : Nat) (D : Dev) (lv kv : Value) (h : DevAt w b bs D lv kv) (hok : D.Ok) (hcl : D.changes < 1000000000) :
    Calls Try.prog 18 #[.pointer (some ⟨b, 0, none⟩)] w fun e w' =>
      e = .returned (.int .i64 D.barrier.2) ∧ (∃ lv', DevAt w' b bs D.barrier.1 lv' kv) ∧ Fr w w' [b, bs] := by
  by_cases ho : D.off = true
  · have HB := Lib.hid (show D.barrier = (D, 6) by simp [Dev.barrier, ho])
    go_enter Try.func18, Try.ntmps18
    go_wp2_with fail
    refine (dOff_any _ b bs D _ kv h).mono ?_
    rintro e w' ⟨rfl, rfl⟩
    rw [ho]
    go_wp2
    go_ret
    rw [HB.out]
    exact ⟨rfl, ⟨lv, h⟩, Fr.refl _ _⟩
  · have ho' : D.off = false := by simpa using ho
    clear ho
    have hw1 := hw_of_change hok hcl
    obtain ⟨D1, hD1⟩ : ∃ D1, D1 = D.change.1 := ⟨_, rfl⟩
    obtain ⟨c1, hc1⟩ : ∃ c1, c1 = D.change.2 := ⟨_, rfl⟩
    have hch := dchange_any w b bs D lv kv h hok.wf hcl hok.keptb
    rw [← hD1, ← hc1] at hch
    rw [← hD1] at hw1
    have hbar : D.barrier = if c1 = 0 then ({ D1 with sure := Dev.settle D1.loose D1.sure, loose := [] }, 0) else (D1, c1) := by
      unfold Dev.barrier
      rw [if_neg (by simp [ho']), ← hD1, ← hc1]
      split
      · rfl
      · rw [hD1, hc1]
    have HB := Lib.hid hbar
    have HCH := Lib.hid hch
    clear hbar hD1 hc1 hch
    have hll : D1.loose.length ≤ 1000000001 := by have := hw1.many; have := hw1.changes; omega
    by_cases hc0 : c1 = 0
    · subst hc0
      go_enter Try.func18, Try.ntmps18
      go_wp2_with fail
      refine (dOff_any _ b bs D _ kv h).mono ?_
      rintro e w' ⟨rfl, rfl⟩
      rw [ho']
      go_wp2_with fail
      refine HCH.out.mono ?_
      rintro e w' ⟨rfl, ⟨lv', h1⟩, hf1⟩
      have F1 := Lib.hid hf1
      clear hf1 HCH
      have hl1 := h1.loose
      obtain ⟨A, c, rfl⟩ := hl1.shape
      have c1 : w'.cell? ⟨b, 1, none⟩ = some (.slice A D1.loose.length c) := h1.cell 1
      go_wp2_with fail
      go_loopw [18] (fun i wr => ∃ k : Nat, ∃ s : List (List UInt8), k ≤ D1.loose.length ∧ i = .int .i64 k ∧ wr.heap[bs]? = some (.cells (flat s).toArray 109 (0, 0)) ∧ Fr w' wr [bs] ∧
          Hid (Dev.settle (D1.loose.drop k) s = Dev.settle D1.loose D1.sure ∧ s.length = D1.sure.length ∧ ∀ x ∈ s, x.length = 256)) (fun i _ => D1.loose.length - (intOf i).toNat)
      case atStart => exact ⟨0, D1.sure, Nat.zero_le _, rfl, h1.sure, Fr.refl _ _, by show _ ∧ _ ∧ _; exact ⟨by simp, rfl, hw1.full⟩⟩
      case round =>
        obtain ⟨k, s, hkl, rfl, hbs, hfr, hs⟩ := hrel
        by_cases hlt : k < D1.loose.length
        · obtain ⟨g, o, rfl, cur, fr, hcur, hx, hcell⟩ := lz_at hl1 rfl (fun p hp => (hw1.loose p hp).2) k hlt
          have hp := hw1.loose D1.loose[k] (List.getElem_mem _)
          have hgb : g ≠ bs := typ_ne hcur h1.sure (by decide)
          have hrow := hfr.keep hcur (by simpa using hgb)
          obtain ⟨p, hp0⟩ : ∃ p, p = D1.loose[k] := ⟨_, rfl⟩
          rw [← hp0] at hcell hp
          have HP := Lib.hid hp0
          clear hp0
          have hz : (Try.prog.info? 111).map (·.size) = some (lzc p).length := by rw [zero111]; simp [lzc, bv_length, hp.2]
          have HC := Lib.hid hcell
          clear hcell
          have hfit := zsize111 ▸ (show 0 + (lzc p).length ≤ 257 by simp [lzc, bv_length, hp.2])
          have hone := lzc_one p
          go_upto_region 9 with (first
            | (with_reducible show wpList _ _ _ (Oper.mk _ (.load 111 _) _ _ _ _ :: _) _ _; refine wpList_load_mid rfl 111 (.tmp 20) rfl g (o + k * 257) rfl 111 cur fr _ (lzc p) hrow Try.underlying111 rfl hz HC.out ?_)
            | (with_reducible show wpList _ _ _ (Oper.mk _ (.alloc 111) _ _ _ _ :: _) _ _; refine wpList_alloc_row rfl 111 rfl _ zrow111 ?_; intro w2 hn2 hg2 hs2)
            | (with_reducible show wpList _ _ _ (Oper.mk _ (.store 111 _ _) _ _ _ _ :: _) _ _; refine wpList_store_mid rfl rfl 111 (.tmp 5) (.tmp 21) rfl wr.heap.size 0 rfl (lzc p) rfl 111 Try.zeroCells111 hn2 hz hfit hone ?_; intro w3 hn3 hg3 hs3; rw [splice111 p hp.2] at hn3; clear hn2 hfit)
            )
          have HN3 := Lib.hid hn3
          clear hn3
          have F3 : Fr wr w3 [] := ((Fr.refl wr []).grown hg2 (by simp)).grown hg3 (by simp)
          have hne : wr.heap.size ≠ bs := by have := lt_of_heap hbs; omega
          have hb3 : w3.heap[bs]? = some (.cells (flat s).toArray 109 (0, 0)) := F3.keep hbs (by simp)
          have hfr3 : Fr w' w3 [bs] := hfr.then F3 (by simp)
          have e0 : w3.cell? ⟨b, 0, none⟩ = some (.slice (some ⟨bs, 0, none⟩) D1.sure.length D1.sure.length) := by
            rw [cell_of_row _ _ _ _ _ _ (hfr3.keep h1.blk (by simpa using h1.ne))]; rfl
          have p0 : w3.cell? ⟨wr.heap.size, 0, none⟩ = some (.int .i64 p.1) := by rw [cell_of_row _ _ _ _ _ _ HN3.out]; rfl
          clear hg2 hg3 hs2 hs3 hrow hcur
          have hp1 : (p.1 : Int) < (D1.sure.length : Int) := by omega
          have hp1' : p.1 < D1.sure.length := hp.1
          refine wp_region_still_tail 9 (by kernel_rfl) (by kernel_rfl) ?_
          simp only [List.take_succ_cons, List.take_zero, List.drop_succ_cons, List.drop_zero]
          iterate 7 still_step
          refine wpStill_load_mid rfl 109 (.tmp 28) rfl wr.heap.size 1 rfl 111 _ _ _ (bv p.2) HN3.out Try.underlying109 rfl (by rw [zero109, bv_length, hp.2]) (lzc_tail p) ?_
          still_step
          refine wpStill_nil ?_
          change wpList _ _ _ _ _ w3.drew
          have hb4 : w3.drew.heap[bs]? = some (.cells (flat s).toArray 109 (0, 0)) := hb3
          have F4 : Fr w' w3.drew [bs] := hfr3.drew
          generalize w3.drew = w5 at *
          refine wpList_store_mid rfl rfl 109 (.tmp 30) (.tmp 29) rfl bs (p.1 * 256) rfl (bv p.2) rfl 109 _ hb4 (by rw [zero109, bv_length, hp.2]) ?_ (bv_one _) ?_
          · rw [List.size_toArray, flat_length _ hs.out.2.2, hs.out.2.1, bv_length]
            have : p.1 * 256 + 256 ≤ D1.sure.length * 256 := by omega
            omega
          intro w6 hn6 hg6 hs6
          rw [List.toList_toArray, flat_put s p.1 p.2 (by rw [hs.out.2.1]; exact hp1') hs.out.2.2 hp.2] at hn6
          have F6 : Fr w' w6 [bs] := F4.grown hg6 (by simp)
          have HS := Lib.hid hs.out
          clear hs hs6 hg6 hb4
          go_wp2
          go_roundw
          case rel =>
            refine ⟨k + 1, s.set p.1 p.2, by omega, by go_num, hn6, F6, ?_⟩
            show _ ∧ _ ∧ _
            refine ⟨?_, by rw [List.length_set]; exact HS.out.2.1, fun x hx => ?_⟩
            · have h2 := HS.out.1
              rw [List.drop_eq_getElem_cons hx, ← HP.out] at h2
              exact h2
            · rcases List.mem_or_eq_of_mem_set hx with h2 | rfl
              · exact HS.out.2.2 x h2
              · exact hp.2
          case measure => simp [intOf]; omega
        · obtain rfl : k = D1.loose.length := by omega
          have hs2 : s = Dev.settle D1.loose D1.sure := by have := hs.out.1; rwa [List.drop_length, Dev.settle] at this
          have hd : DevAt wr b bs { D1 with sure := s } _ kv := ⟨by
            rw [hfr.keep h1.blk (by simpa using h1.ne)]; simp only [devCells, hs.out.2.1], hbs, h1.loose.other hfr (fun x hx => by simp at hx; subst hx; exact .inr ⟨_, _, _, h1.sure, by decide⟩), h1.kept.other hfr (fun x hx => by simp at hx; subst hx; exact .inr ⟨_, _, _, h1.sure, by decide⟩)⟩
          have f1 := hd.free 1
          have d1 : wr.cell? ⟨b, 1, none⟩ = some _ := hd.cell 1
          have g1 := hd.store 1 (.slice none 0 0) { D1 with sure := s, loose := [] } (.slice none 0 0) kv rfl rfl (RowIs.nil _ _ _ _ _) hd.kept
          rw [hs2] at g1
          have HG := Lib.hid g1
          have HF := Lib.hid ((F1.out.then hfr (by simp)).grown (setCell_grown wr b 1 (.slice none 0 0)) (by simp))
          clear hs2 hs g1 hd
          go_wp2
          go_ret
          rw [HB.out]
          exact ⟨rfl, ⟨_, HG.out⟩, HF.out⟩
    · have hne : (c1 == 0) = false := by simpa using hc0
      have hne' : (c1 != 0) = true := by simpa using hc0
      rw [if_neg hc0] at HB
      clear hc0
      go_enter Try.func18, Try.ntmps18
      go_wp2_with fail
      refine (dOff_any _ b bs D _ kv h).mono ?_
      rintro e w' ⟨rfl, rfl⟩
      rw [ho']
      go_wp2_with fail
      refine HCH.out.mono ?_
      rintro e w' ⟨rfl, ⟨lv', h1⟩, hf1⟩
      have F1 := Lib.hid hf1
      clear hf1 HCH
      go_wp2
      go_ret
      rw [HB.out]
      exact ⟨rfl, ⟨_, h1⟩, F1.out⟩
end Go.Proofs.Yteggldplmbegfaa
