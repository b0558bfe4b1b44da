/- THE DEVICE: New, Plan, Write where it may not be; slices.Clone at []int. -/
import Derived.Test.YteggldplmbegfaaDev7
set_option linter.unusedVariables false
set_option linter.unusedSimpArgs false
namespace Go.Proofs.Yteggldplmbegfaa
open Go.RowKit

theorem dWrite_no (w : World) (b bs : Nat) (D : Dev) (lv kv : Value) (h : DevAt w b bs D lv kv) (i : Int) (bval : Value) (hm : D.may i ≠ 0) :
    Calls Try.prog 17 #[.pointer (some ⟨b, 0, none⟩), .int .i64 i, bval] w fun e w' => e = .returned (.int .i64 (D.may i)) ∧ w' = w := by
  have hb : (D.may i != 0) = true := by simpa using hm
  obtain ⟨m, hm'⟩ : ∃ m, m = D.may i := ⟨_, rfl⟩
  have hc := dmay_any w b bs D lv kv h i
  rw [← hm'] at hc hb ⊢
  have HC := Lib.hid hc
  clear hc hm hm'
  go_enter Try.func17, Try.ntmps17
  go_wp2_with fail
  refine HC.out.mono ?_
  rintro e w' ⟨rfl, rfl⟩
  go_wp2
  go_ret
  exact ⟨rfl, rfl⟩

theorem info109 : (Try.prog.info? 109).map (fun i => (i.zero, i.size, i.bytes)) = some (some (.agg Try.zeroCells109), 256, 256) := by kernel_rfl
theorem zeros109 : Try.zeroCells109 = (List.replicate 256 (Value.int .u8 0)).toArray := by kernel_rfl
theorem made109 (n : Nat) : (madeCells Try.zeroCells109 (n * 256)).toList = flat (List.replicate n zsec) := by
  have hall : ∀ s ∈ (List.replicate n zsec), s.length = 256 := fun s hs => by rw [List.eq_of_mem_replicate hs]; exact zsec_length
  refine List.ext_getElem ?_ fun i h1 h2 => ?_
  · rw [Array.length_toList, size_madeCells, flat_length _ hall, List.length_replicate]
  · have hs : Try.zeroCells109.size = 256 := zsize109
    have hi : i < n * 256 := by rw [Array.length_toList, size_madeCells] at h1; exact h1
    have e1 : (madeCells Try.zeroCells109 (n * 256)).toList[i] = .int .u8 0 := by
      rw [Array.getElem_toList]
      simp only [madeCells, Array.getElem_map, Array.getElem_range, hs]
      rw [getElem!_pos _ _ (by rw [hs]; exact Nat.mod_lt _ (by omega))]
      have : ∀ j (hj : j < Try.zeroCells109.size), Try.zeroCells109[j] = .int .u8 0 := by
        rw [zeros109]
        intro j hj
        simp only [List.getElem_toArray, List.getElem_replicate]
      exact this _ _
    rw [e1]
    have hj : i / 256 < n := by omega
    have e2 : (flat (List.replicate n zsec))[i / 256 * 256 + i % 256]? = some (.int .u8 0) := by
      unfold flat
      rw [flatten_get 256 _ (by simp only [List.mem_map]; rintro l ⟨x, hx, rfl⟩; rw [bv_length]; exact hall x hx) _ _ (Nat.mod_lt _ (by omega))]
      rw [List.getElem?_map, List.getElem?_replicate, if_pos hj]
      simp only [Option.map_some, Option.bind_some, bv_get, zsec]
      rw [List.getElem?_replicate, if_pos (Nat.mod_lt _ (by omega))]
      rfl
    rw [show i / 256 * 256 + i % 256 = i by omega] at e2
    rw [List.getElem?_eq_getElem h2] at e2
    exact (Option.some.inj e2).symm
theorem owns_row {w : World} {base : Nat} {e : TypeId} {size n g c : Nat} {xs : List Value} (h : w.ownsRow base e size (.slice (some ⟨g, 0, none⟩) n c) n xs) (hc : c = n) : w.heap[g]? = some (.cells xs.toArray e (0, 0)) := by
  rcases h.2 with ⟨h0, _⟩ | ⟨g', cap, cur, hv, _, hh, _, _, hs, ht⟩
  · cases h0
  · simp only [Value.slice.injEq, Option.some.injEq, Addr.mk.injEq] at hv
    obtain ⟨⟨rfl, _⟩, _, rfl⟩ := hv
    rw [hh, ← ht, List.take_of_length_le (by rw [Array.length_toList, hs, hc]; exact Nat.le_refl _)]

set_option maxRecDepth 20000 in
set_option maxHeartbeats 400000 in
theorem dNew_any (w : World) (n : Nat) (h1 : 1 ≤ n) (h2 : n ≤ 4096) :
    Calls Try.prog 15 #[.int .i64 n] w fun e w' => ∃ b bs, e = .returned (.tuple #[.pointer (some ⟨b, 0, none⟩), .int .i64 0]) ∧ DevAt w' b bs (Dev.fresh n) (.slice none 0 0) (.slice none 0 0) ∧ w.heap.size ≤ b ∧ w.heap.size ≤ bs ∧ Below w.heap.size w w' := by
  obtain ⟨i0, hi, hz0, hz1, hz2⟩ := info_parts info109
  go_enter Try.func15, Try.ntmps15
  go_wp2_with (at_make; refine wpList_make_full _ rfl _ _ 103 rfl w.heap.size 109 i0 _ 256 Try.underlying103 hi hz0 hz1 .i64 .i64 n n n rfl rfl rfl rfl ?c1 ?c2 ?c3 ?_; rotate_right; intro w1 hown hgr)
  case c1 => rw [hz2]; omega
  case c2 => unfold maxLen; omega
  case c3 => exact Nat.le_refl _
  have hro := owns_row hown rfl
  simp only [Value.cells] at hro
  rw [made109] at hro
  have hb1 : Below w.heap.size w w1 := Fr.below_iff.1 ((Fr.refl w []).grown hgr (by simp))
  go_ret2
  refine ⟨w1.heap.size, w.heap.size, rfl, ⟨?_, ?_, RowIs.nil _ _ _ _ _, RowIs.nil _ _ _ _ _⟩, hb1.size, Nat.le_refl _, hb1.alloc hb1.size _⟩
  · rw [heap_alloc_new]
    simp [devCells, Dev.fresh]
  · rw [heap_alloc_old _ _ (lt_of_heap hro)]
    exact hro

theorem info3 : (Try.prog.info? 3).map (fun i => (i.zero, i.size, i.bytes)) = some (some (.int .i64 0), 1, 8) := by kernel_rfl
theorem iv_one (l : List Int) : ∀ v ∈ iv l, v.oneCell' = true := by
  intro v hv
  simp only [iv, List.mem_map] at hv
  obtain ⟨c, _, rfl⟩ := hv
  rfl
theorem owns_empty (w : World) (e : TypeId) (size : Nat) (o : Obj) (ho : o = .cells #[] e (0, 0)) (base : Nat) (hb : base ≤ w.heap.size) : (w.alloc o).ownsRow base e size (.slice (some ⟨w.heap.size, 0, none⟩) 0 0) 0 [] := by
  subst ho
  exact ⟨by simp, .inr ⟨w.heap.size, 0, #[], rfl, hb, heap_alloc_new w _, by omega, by unfold maxLen; omega, by simp, by simp⟩⟩

set_option maxHeartbeats 400000 in
theorem sCloneI_any (w : World) (kv : Value) (ks : List Int) (T : TypeId) (h : RowIs w kv T 1 ks.length (iv ks)) (hb : ks.length ≤ 1000000000000) :
    Calls Try.prog 66 #[kv] w fun e w' => ∃ v, e = .returned v ∧ RowIs w' v 3 1 ks.length (iv ks) ∧ Below w.heap.size w w' := by
  obtain ⟨A, c, rfl⟩ := h.shape
  cases A with
  | none =>
    have h0 : ks.length = 0 := by
      by_cases h0 : ks.length = 0
      · exact h0
      · obtain ⟨b, hb⟩ := h.nonempty h0
        cases hb
    have hk : ks = [] := List.eq_nil_of_length_eq_zero h0
    subst hk
    have hnil := fun (l c : Nat) (w : World) => Lib.run_eql_slice_nil (P := Try.prog) w 23 3 none l c 0 0 Try.underlying23
    go_enter Try.func66, Try.ntmps66
    go_wp2
    go_ret
    exact ⟨_, rfl, RowIs.nil _ _ _ _ _, Below.refl _ _⟩
  | some ad =>
    obtain ⟨i0, hi, hz0, hz1, hz2⟩ := info_parts info3
    have hcell := h.cells ad rfl
    have HC := Lib.hid hcell
    have hl : (iv ks).length = ks.length * 1 := by simp [iv]
    have hnil := fun (l c : Nat) (w : World) => Lib.run_eql_slice_nil (P := Try.prog) w 23 3 (some ad) l c 0 0 Try.underlying23
    clear hcell
    have hbs : ∀ w : World, (Instr.buildSlice 23 0 #[]).run Try.prog w = .ok (.slice (some ⟨w.heap.size, 0, none⟩) 0 0) (w.alloc (.cells #[] 3 (0, 0))) := fun w => by kernel_rfl
    have hown := owns_empty w 3 1 _ rfl w.heap.size (Nat.le_refl _)
    have hg1 := World.grownBy_alloc w (.cells #[] 3 (0, 0)) none
    have hcell1 : ∀ j u, (iv ks)[j]? = some u → (w.alloc (.cells #[] 3 (0, 0))).cell? (ad.add j) = some u := (h.grown hg1).cells ad rfl
    have HC1 := Lib.hid hcell1
    have hb1 : Below w.heap.size w (w.alloc (.cells #[] 3 (0, 0))) := Fr.below_iff.1 ((Fr.refl w []).grown hg1 (by simp))
    have HB1 := Lib.hid hb1
    have hone := iv_one ks
    clear hcell1 hg1 hb1
    go_enter Try.func66, Try.ntmps66
    go_wp2_with (at_builtin; refine wpList_append_own _ rfl (.tmp 5) (.tmp 6) 23 rfl w.heap.size 3 i0 _ 1 8 Try.underlying23 hi hz0 hz1 hz2 rfl (by decide) (.slice (some ⟨w.heap.size, 0, none⟩) 0 0) 0 [] rfl hown ad ks.length c (iv ks) rfl hl HC1.out hone ?c1 ?c2 ?c3 ?_; rotate_right; intro v' w1 hown' hgr _)
    case c1 => unfold maxLen; omega
    case c2 => omega
    case c3 => simp
    have hr := RowIs.of_owns hown'
    rw [Nat.zero_add, List.nil_append] at hr
    have HR := Lib.hid hr
    have hown2 : ∀ k, (Value.slice (some ⟨w.heap.size, 0, none⟩) 0 0).ownBlock = some k → k ∈ ([] : List Nat) ∨ w.heap.size ≤ k := fun k hk => by
      have : w.heap.size = k := by simpa [Value.ownBlock] using hk
      exact .inr (by omega)
    have HG := Lib.hid (Fr.below_iff.1 ((Fr.below_iff.2 HB1.out).grown hgr hown2))
    clear hown' hgr hr hown
    go_wp2
    go_ret
    exact ⟨v', rfl, HR.out, HG.out⟩
end Go.Proofs.Yteggldplmbegfaa
