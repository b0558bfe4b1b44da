/- THE DEVICE's METHODS that write its own cells: On, Plan, Cut, change. -/
import Derived.Test.YteggldplmbegfaaDev1
import Derived.StillTailTactics
import Derived.Deep.RegionHeld3
set_option linter.unusedVariables false
set_option linter.unusedSimpArgs false
namespace Go.Proofs.Yteggldplmbegfaa
open Go.RowKit

theorem setCell_grown (w : World) (g j : Nat) (v : Value) : w.grownBy (w.setCell ⟨g, j, none⟩ v) (some g) :=
  ⟨rfl, rfl, rfl, by simp [World.setCell], fun k _ hne => by simp only [World.setCell, Array.getElem?_modify]; rw [if_neg (fun e => hne (by rw [← e]))]⟩
/-- One of the device's own cells is written. -/
theorem DevAt.store {w : World} {b bs : Nat} {D : Dev} {lv kv : Value} (h : DevAt w b bs D lv kv) (j : Nat) (v : Value) (D' : Dev) (lv' kv' : Value)
    (hc : (devCells bs D lv kv).setIfInBounds j v = devCells bs D' lv' kv') (hs : D'.sure = D.sure)
    (hl : RowIs w lv' 111 257 D'.loose.length (lz D'.loose)) (hk : RowIs w kv' 3 1 D'.kept.length (iv D'.kept)) : DevAt (w.setCell ⟨b, j, none⟩ v) b bs D' lv' kv' := by
  have hg := setCell_grown w b j v
  have hf : Fr w (w.setCell ⟨b, j, none⟩ v) [b] := (Fr.refl w [b]).grown hg (by simp)
  have hb : ∀ x ∈ [b], w.heap.size ≤ x ∨ ∃ c2 T2 f2, w.heap[x]? = some (.cells c2 T2 f2) ∧ 111 ≠ T2 := fun x hx => by
    simp at hx; subst hx; exact .inr ⟨_, _, _, h.blk, by decide⟩
  have hb2 : ∀ x ∈ [b], w.heap.size ≤ x ∨ ∃ c2 T2 f2, w.heap[x]? = some (.cells c2 T2 f2) ∧ 3 ≠ T2 := fun x hx => by
    simp at hx; subst hx; exact .inr ⟨_, _, _, h.blk, by decide⟩
  exact ⟨by rw [← hc]; exact heap_setCell_same w b j _ _ v h.blk, by rw [hs]; exact grown_keep hg h.sure (by simp; exact h.ne.symm), hl.other hf hb, hk.other hf hb2⟩
/-- Other blocks turned. -/
theorem DevAt.move {w w' : World} {b bs : Nat} {D : Dev} {lv kv : Value} (h : DevAt w b bs D lv kv) {S : List Nat} (hf : Fr w w' S)
    (hS : ∀ x ∈ S, w.heap.size ≤ x ∨ ∃ c2 T2 f2, w.heap[x]? = some (.cells c2 T2 f2) ∧ 106 ≠ T2 ∧ 109 ≠ T2 ∧ 111 ≠ T2 ∧ 3 ≠ T2) : DevAt w' b bs D lv kv := by
  have hn : ∀ {k : Nat} {c : Array Value} {T : TypeId} {f : Nat × Nat}, w.heap[k]? = some (.cells c T f) → (T = 106 ∨ T = 109) → k ∉ S := fun {k c T f} hk hT hm => by
    rcases hS k hm with h1 | ⟨c2, T2, f2, h2, h3, h4, _⟩
    · have := lt_of_heap hk; omega
    · exact typ_ne hk h2 (by rcases hT with rfl | rfl; exact h3; exact h4) rfl
  exact ⟨hf.keep h.blk (hn h.blk (.inl rfl)), hf.keep h.sure (hn h.sure (.inr rfl)),
    h.loose.other hf (fun x hx => (hS x hx).imp_right fun ⟨c, T, f, h1, _, _, h2, _⟩ => ⟨c, T, f, h1, h2⟩),
    h.kept.other hf (fun x hx => (hS x hx).imp_right fun ⟨c, T, f, h1, _, _, _, h2⟩ => ⟨c, T, f, h1, h2⟩)⟩
theorem DevAt.below {w w' : World} {b bs : Nat} {D : Dev} {lv kv : Value} (h : DevAt w b bs D lv kv) (hb : Below w.heap.size w w') : DevAt w' b bs D lv kv :=
  h.move (Fr.below_iff.2 hb) (by simp)
theorem DevAt.grown {w w' : World} {b bs : Nat} {D : Dev} {lv kv : Value} (h : DevAt w b bs D lv kv) (hb : w.grownBy w' none) : DevAt w' b bs D lv kv :=
  h.move ((Fr.refl w []).grown hb (by simp)) (by simp)

set_option maxHeartbeats 400000 in
theorem dOn_any (w : World) (b bs : Nat) (D : Dev) (lv kv : Value) (h : DevAt w b bs D lv kv) :
    Calls Try.prog 20 #[.pointer (some ⟨b, 0, none⟩)] w fun e w' => e = .returned (.bool D.off) ∧ DevAt w' b bs { D with off := false } lv kv ∧ Fr w w' [b] := by
  have h7 : w.cell? ⟨b, 7, none⟩ = some (.bool D.off) := h.cell 7
  have f7 := h.free 7
  by_cases ho : D.off = true
  · have HD := Lib.hid (h.store 7 (.bool false) { D with off := false } lv kv rfl rfl h.loose h.kept)
    have HF := Lib.hid ((Fr.refl w [b]).grown (setCell_grown w b 7 (.bool false)) (by simp))
    go_enter Try.func20, Try.ntmps20
    go_wp2
    go_ret
    exact ⟨by rw [ho]; rfl, HD.out, HF.out⟩
  · have ho' : D.off = false := by simpa using ho
    clear ho
    have e : ({ D with off := false } : Dev) = D := by cases D; simp_all
    have HE := Lib.hid e
    clear e
    go_enter Try.func20, Try.ntmps20
    go_wp2
    go_ret
    exact ⟨by rw [ho']; rfl, by rw [HE.out]; exact h, Fr.refl _ _⟩
end Go.Proofs.Yteggldplmbegfaa
