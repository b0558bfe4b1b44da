/- THE DEVICE: Plan. -/
import Derived.Test.YteggldplmbegfaaDev8
set_option linter.unusedVariables false
set_option linter.unusedSimpArgs false
namespace Go.Proofs.Yteggldplmbegfaa
open Go.RowKit

set_option maxRecDepth 20000 in
set_option maxHeartbeats 1000000 in
theorem dPlan_any (w : World) (b bs : Nat) (D : Dev) (lv kv : Value) (h : DevAt w b bs D lv kv) (after : Int) (kv' : Value) (kept : List Int) (torn half : Int)
    (T : TypeId) (hk : RowIs w kv' T 1 kept.length (iv kept)) (hoff : OffB kv' kept.length [b]) (hkb : kept.length ≤ 1000000000000) :
    Calls Try.prog 35 #[.pointer (some ⟨b, 0, none⟩), .int .i64 after, .agg #[kv', .int .i64 torn, .int .i64 half]] w fun e w' =>
      e = .returned (.tuple #[]) ∧ (∃ kv2, DevAt w' b bs (D.plan after kept torn half) lv kv2) ∧ Fr w w' [b] := by
  have hbox := heap_alloc_new w (.cells #[kv', .int .i64 torn, .int .i64 half] 25 (0, 0))
  have hg := World.grownBy_alloc w (.cells #[kv', .int .i64 torn, .int .i64 half] 25 (0, 0)) none
  obtain ⟨w1, hw1⟩ : ∃ w1, w1 = w.alloc (.cells #[kv', .int .i64 torn, .int .i64 half] 25 (0, 0)) := ⟨_, rfl⟩
  rw [← hw1] at hbox hg
  go_enter Try.func35, Try.ntmps35
  go_wp2_with fail
  rw [← hw1]
  clear hw1
  have h1 := h.grown hg
  have hk1 := hk.grown hg
  have B0 : w1.cell? ⟨w.heap.size, 0, none⟩ = some kv' := cell_of_row _ _ _ _ _ _ hbox
  have hF1 := (Fr.refl w [b]).grown hg (by simp)
  clear hg hk h
  refine wp_region_turns 15 (by kernel_rfl) (by kernel_rfl)
    (fun w' => (DevAt w' b bs D lv kv ∨ DevAt w' b bs { D with left := max after (-1) } lv kv) ∧ Fr w1 w' [b])
    (fun w' w'' => (∀ (k : Nat) (c : Array Value) (T : TypeId) (f : Nat × Nat), w'.heap[k]? = some (Obj.cells c T f) → T ≠ 106 → w''.heap[k]? = w'.heap[k]?) ∧
      (DevAt w' b bs { D with left := max after (-1) } lv kv → DevAt w'' b bs { D with left := max after (-1) } lv kv))
    (fun q v w' => match q with
    | 0 => v = .pointer (some ⟨b, 0, none⟩) | 1 => v = .pointer (some ⟨b, 0, none⟩) | 2 => v = .int .i64 after | 3 => v = .int .i64 (max after (-1))
    | 4 => v = .pointer (some ⟨w.heap.size, 0, none⟩) | 5 => v = kv' | 6 => RowIs w' v 3 1 kept.length (iv kept)
    | 7 => v = .pointer (some ⟨w.heap.size, 1, none⟩) | 8 => v = .int .i64 torn | 9 => v = .pointer (some ⟨w.heap.size, 2, none⟩) | 10 => v = .int .i64 half
    | 11 => ∃ u, v = .agg #[u, .int .i64 torn, .int .i64 half] ∧ RowIs w' u 3 1 kept.length (iv kept)
    | 12 => v = .pointer (some ⟨b, 0, none⟩) | 13 => v = .pointer (some ⟨b, 2, none⟩) | 14 => DevAt w' b bs { D with left := max after (-1) } lv kv | _ => True) ?hC ?hV ?hstep ?hfin
  case hC => exact ⟨.inl (h1.below ⟨rfl, rfl, rfl, Nat.le_refl _, fun _ _ => rfl⟩), (Fr.refl _ _).drew⟩
  case hV =>
    intro q v w w' hv hb
    match q, hv with
    | 0, hv => exact hv
    | 1, hv => exact hv
    | 2, hv => exact hv
    | 3, hv => exact hv
    | 4, hv => exact hv
    | 5, hv => exact hv
    | 6, hv => exact hv.move fun g cur fr hh => hb.1 g cur _ fr hh (by decide)
    | 7, hv => exact hv
    | 8, hv => exact hv
    | 9, hv => exact hv
    | 10, hv => exact hv
    | 11, ⟨u, h1, h2⟩ => exact ⟨u, h1, h2.move fun g cur fr hh => hb.1 g cur _ fr hh (by decide)⟩
    | 12, hv => exact hv
    | 13, hv => exact hv
    | 14, hv => exact hb.2 hv
    | q + 15, hv => trivial
  case hstep =>
    have GR : ∀ w' : World, (∀ (k : Nat) (c : Array Value) (T : TypeId) (f : Nat × Nat), w'.heap[k]? = some (Obj.cells c T f) → T ≠ 106 → w'.heap[k]? = w'.heap[k]?) ∧
      (DevAt w' b bs { D with left := max after (-1) } lv kv → DevAt w' b bs { D with left := max after (-1) } lv kv) := fun w' => ⟨fun _ _ _ _ _ _ => rfl, fun h => h⟩
    simp only [List.take_succ_cons, List.take_zero, stepsAll, and_true, TurnStep, Oper.wpG, fillFrom, if_true, Act.put, List.setIfInBounds_toArray, List.set_cons_succ, List.set_cons_zero]
    refine ⟨?_, ?_, ?_, ?_, ?_, ?_, ?_, ?_, ?_, ?_, ?_, ?_, ?_, ?_, ?_⟩
    all_goals
      intro vs w5 hC hp K hK
    · go_step
      exact hK _ _ hC (GR _) rfl
    · go_step
      exact hK _ _ hC (GR _) rfl
    · go_step
      exact hK _ _ hC (GR _) rfl
    · have v1 : vs 2 = _ := hp 2 (by decide +kernel)
      go_step
      refine hK _ _ hC (GR _) ?_
      show _ = _
      congr 1
      omega
    · go_step
      exact hK _ _ hC (GR _) rfl
    · have v1 : vs 4 = _ := hp 4 (by decide +kernel)
      have hb5 := hC.2.keep hbox (by simpa using typ_ne hbox h1.blk (by decide))
      have c5 : w5.cell? ⟨w.heap.size, 0, none⟩ = some kv' := cell_of_row _ _ _ _ _ _ hb5
      go_step
      exact hK _ _ hC (GR _) rfl
    · have v1 : vs 5 = _ := hp 5 (by decide +kernel)
      have hk5 : RowIs w5 kv' T 1 kept.length (iv kept) := hk1.apart hC.2 hoff
      go_step
      refine (sCloneI_any _ kv' kept T hk5 hkb).mono ?_
      rintro e w6 ⟨v, rfl, hr, hb⟩
      refine hK _ _ ⟨hC.1.imp (fun h => h.below hb) (fun h => h.below hb), hC.2.below hb⟩ ⟨fun k c T f hk _ => hb.block k (lt_of_heap hk), fun h => h.below hb⟩ hr
    · go_step
      exact hK _ _ hC (GR _) rfl
    · have v1 : vs 7 = _ := hp 7 (by decide +kernel)
      have hb5 := hC.2.keep hbox (by simpa using typ_ne hbox h1.blk (by decide))
      have c5 : w5.cell? ⟨w.heap.size, 1, none⟩ = some (.int .i64 torn) := cell_of_row _ _ _ _ _ _ hb5
      go_step
      exact hK _ _ hC (GR _) rfl
    · go_step
      exact hK _ _ hC (GR _) rfl
    · have v1 : vs 9 = _ := hp 9 (by decide +kernel)
      have hb5 := hC.2.keep hbox (by simpa using typ_ne hbox h1.blk (by decide))
      have c5 : w5.cell? ⟨w.heap.size, 2, none⟩ = some (.int .i64 half) := cell_of_row _ _ _ _ _ _ hb5
      go_step
      exact hK _ _ hC (GR _) rfl
    · have v6 : RowIs w5 (vs 6) 3 1 kept.length (iv kept) := hp 6 (by decide +kernel)
      have v8 : vs 8 = _ := hp 8 (by decide +kernel)
      have v10 : vs 10 = _ := hp 10 (by decide +kernel)
      obtain ⟨A6, c6, e6⟩ := v6.shape
      rw [e6] at v6
      go_step
      exact hK _ _ hC (GR _) ⟨_, rfl, v6⟩
    · have v1 : vs 0 = _ := hp 0 (by decide +kernel)
      go_step
      exact hK _ _ hC (GR _) rfl
    · have v1 : vs 12 = _ := hp 12 (by decide +kernel)
      go_step
      exact hK _ _ hC (GR _) rfl
    · have v1 : vs 13 = _ := hp 13 (by decide +kernel)
      have v3 : vs 3 = _ := hp 3 (by decide +kernel)
      obtain ⟨l5, h5, hl5⟩ : ∃ l5, DevAt w5 b bs { D with left := l5 } lv kv ∧ True := by
        rcases hC.1 with h | h
        · exact ⟨D.left, h, trivial⟩
        · exact ⟨_, h, trivial⟩
      have d2 : w5.cell? ⟨b, 2, none⟩ = some (.int .i64 l5) := h5.cell 2
      have f2 := h5.free 2
      have hst := h5.store 2 (.int .i64 (max after (-1))) { D with left := max after (-1) } lv kv rfl rfl h5.loose h5.kept
      have HST := Lib.hid hst
      have hgc := setCell_grown w5 b 2 (.int .i64 (max after (-1)))
      have HF := Lib.hid (hC.2.grown hgc (by simp))
      have HG := Lib.hid (show ∀ (k : Nat) (c : Array Value) (T : TypeId) (f : Nat × Nat), w5.heap[k]? = some (Obj.cells c T f) → T ≠ 106 → (w5.setCell ⟨b, 2, none⟩ (.int .i64 (max after (-1)))).heap[k]? = w5.heap[k]? from
        fun k c T f hk hT => hgc.block k (lt_of_heap hk) (fun e => by
          have : k = b := by simpa using e
          exact typ_ne hk h5.blk hT this))
      clear hst hgc
      go_step
      exact hK undef _ ⟨.inr HST.out, HF.out⟩ ⟨HG.out, fun _ => HST.out⟩ HST.out
  case hfin =>
    intro vs w5 hC hv
    have h5 : DevAt w5 b bs { D with left := max after (-1) } lv kv := hv 14 (by omega)
    obtain ⟨u, e11, hu⟩ : ∃ u, vs 11 = .agg #[u, .int .i64 torn, .int .i64 half] ∧ RowIs w5 u 3 1 kept.length (iv kept) := hv 11 (by omega)
    have v1 : vs 1 = .pointer (some ⟨b, 0, none⟩) := hv 1 (by omega)
    obtain ⟨A6, c6, rfl⟩ := hu.shape
    have hF5 := hF1.trans hC.2
    have g1 := h5.store 3 (.slice A6 kept.length c6) { D with left := max after (-1), kept := kept } lv (.slice A6 kept.length c6) rfl rfl h5.loose hu
    have g2 := g1.store 4 (.int .i64 torn) { D with left := max after (-1), kept := kept, torn := torn } lv _ rfl rfl g1.loose g1.kept
    have g3 := g2.store 5 (.int .i64 half) (D.plan after kept torn half) lv _ rfl rfl g2.loose g2.kept
    have HG := Lib.hid g3
    have HF := Lib.hid (((hF5.grown (setCell_grown _ b 3 (.slice A6 kept.length c6)) (by simp)).grown (setCell_grown _ b 4 (.int .i64 torn)) (by simp)).grown (setCell_grown _ b 5 (.int .i64 half)) (by simp))
    have f3 := h5.free 3
    have f4 := h5.free 4
    have f5 := h5.free 5
    have d3 : w5.cell? ⟨b, 3, none⟩ = some kv := h5.cell 3
    have d4 : w5.cell? ⟨b, 4, none⟩ = some (.int .i64 D.torn) := h5.cell 4
    have d5 : w5.cell? ⟨b, 5, none⟩ = some (.int .i64 D.half) := h5.cell 5
    clear g1 g2 g3 hF5 hv h5 hC hu
    simp only [List.take_succ_cons, List.take_zero, List.drop_succ_cons, List.drop_zero, fillFrom, if_true, Act.put, List.setIfInBounds_toArray, List.set_cons_succ, List.set_cons_zero]
    go_wp2
    go_end0
    exact ⟨rfl, ⟨_, HG.out⟩, HF.out⟩
end Go.Proofs.Yteggldplmbegfaa
