/- THE DEVICE's CONTRACTS, in one form each: DevIs w b bs D. -/
import Derived.Test.YteggldplmbegfaaDev9
import Derived.Test.YteggldplmbegfaaConv
set_option linter.unusedVariables false
set_option linter.unusedSimpArgs false
namespace Go.Proofs.Yteggldplmbegfaa
open Go.RowKit

theorem DevIs.move {w w' : World} {b bs : Nat} {D : Dev} (h : DevIs w b bs D) {S : List Nat} (hf : Fr w w' S)
    (hS : ∀ x ∈ S, w.heap.size ≤ x ∨ ∃ c2 T2 f2, w.heap[x]? = some (.cells c2 T2 f2) ∧ 106 ≠ T2 ∧ 109 ≠ T2 ∧ 111 ≠ T2 ∧ 3 ≠ T2) : DevIs w' b bs D := by
  obtain ⟨lv, kv, h⟩ := h
  exact ⟨lv, kv, h.move hf hS⟩
theorem DevIs.below {w w' : World} {b bs : Nat} {D : Dev} (h : DevIs w b bs D) (hb : Below w.heap.size w w') : DevIs w' b bs D := by
  obtain ⟨lv, kv, h⟩ := h
  exact ⟨lv, kv, h.below hb⟩
theorem DevIs.grown {w w' : World} {b bs : Nat} {D : Dev} (h : DevIs w b bs D) (hb : w.grownBy w' none) : DevIs w' b bs D := by
  obtain ⟨lv, kv, h⟩ := h
  exact ⟨lv, kv, h.grown hb⟩
theorem DevIs.drew {w : World} {b bs : Nat} {D : Dev} (h : DevIs w b bs D) : DevIs w.drew b bs D := h.below (Fr.below_iff.1 (Fr.refl w []).drew)
theorem DevIs.lt {w : World} {b bs : Nat} {D : Dev} (h : DevIs w b bs D) : b < w.heap.size ∧ bs < w.heap.size := by
  obtain ⟨lv, kv, h⟩ := h
  exact ⟨lt_of_heap h.blk, lt_of_heap h.sure⟩
theorem DevIs.blk {w : World} {b bs : Nat} {D : Dev} (h : DevIs w b bs D) : ∃ c, w.heap[b]? = some (.cells c 106 (0, 0)) := by
  obtain ⟨lv, kv, h⟩ := h
  exact ⟨_, h.blk⟩
theorem DevIs.sure {w : World} {b bs : Nat} {D : Dev} (h : DevIs w b bs D) : ∃ c, w.heap[bs]? = some (.cells c 109 (0, 0)) := by
  obtain ⟨lv, kv, h⟩ := h
  exact ⟨_, h.sure⟩

theorem wNew (w : World) (n : Nat) (N : Int) (hN : N = n) (h1 : 1 ≤ n) (h2 : n ≤ 4096) :
    Calls Try.prog 15 #[.int .i64 N] w fun e w' => ∃ b bs, e = .returned (.tuple #[.pointer (some ⟨b, 0, none⟩), .int .i64 0]) ∧ DevIs w' b bs (Dev.fresh n) ∧ w.heap.size ≤ b ∧ w.heap.size ≤ bs ∧ Below w.heap.size w w' := by
  subst hN
  refine (dNew_any w n h1 h2).mono ?_
  rintro e w' ⟨b, bs, rfl, hd, h3, h4, h5⟩
  exact ⟨b, bs, rfl, ⟨_, _, hd⟩, h3, h4, h5⟩
theorem wWrite (w : World) (b bs : Nat) (D : Dev) (h : DevIs w b bs D) (hok : D.Ok) (hcl : D.changes < 1000000000) (i : Int) (T : TypeId) (bval : Value) (bb : List UInt8)
    (hb : RowIs w bval T 1 256 (bv bb)) (hbl : bb.length = 256) :
    Calls Try.prog 17 #[.pointer (some ⟨b, 0, none⟩), .int .i64 i, bval] w fun e w' =>
      e = .returned (.int .i64 (D.write i bb).2) ∧ DevIs w' b bs (D.write i bb).1 ∧ Fr w w' [b, bs] := by
  obtain ⟨lv, kv, h⟩ := h
  by_cases hm : D.may i = 0
  · refine (dWrite_yes w b bs D lv kv h hok hcl i T bval bb (by rw [hbl]; exact hb) hm hbl).mono ?_
    rintro e w' ⟨rfl, ⟨lv', h1⟩, h2⟩
    exact ⟨rfl, ⟨_, _, h1⟩, h2⟩
  · have e : D.write i bb = (D, D.may i) := by unfold Dev.write; rw [if_pos hm]
    refine (dWrite_no w b bs D lv kv h i bval hm).mono ?_
    rintro e w' ⟨rfl, rfl⟩
    rw [e]
    exact ⟨rfl, ⟨lv, kv, h⟩, Fr.refl _ _⟩
theorem wBarrier (w : World) (b bs : Nat) (D : Dev) (h : DevIs w b bs D) (hok : D.Ok) (hcl : D.changes < 1000000000) :
    Calls Try.prog 18 #[.pointer (some ⟨b, 0, none⟩)] w fun e w' => e = .returned (.int .i64 D.barrier.2) ∧ DevIs w' b bs D.barrier.1 ∧ Fr w w' [b, bs] := by
  obtain ⟨lv, kv, h⟩ := h
  refine (dBarrier_any w b bs D lv kv h hok hcl).mono ?_
  rintro e w' ⟨rfl, ⟨lv', h1⟩, h2⟩
  exact ⟨rfl, ⟨_, _, h1⟩, h2⟩
theorem wCut (w : World) (b bs : Nat) (D : Dev) (h : DevIs w b bs D) (hok : D.Ok) (kv' : Value) (kept : List Int) (torn half : Int)
    (T : TypeId) (hk : RowIs w kv' T 1 kept.length (iv kept)) (hoff : OffB kv' kept.length [bs]) (hkb : kept.length ≤ 1000000000000) :
    Calls Try.prog 19 #[.pointer (some ⟨b, 0, none⟩), .agg #[kv', .int .i64 torn, .int .i64 half]] w fun e w' =>
      e = .returned (.tuple #[]) ∧ DevIs w' b bs (D.cut kept torn half) ∧ Fr w w' [b, bs] := by
  obtain ⟨lv, kv, h⟩ := h
  refine (dCut_any w b bs D lv kv h hok.wf kv' kept torn half T hk hoff hkb).mono ?_
  rintro e w' ⟨rfl, ⟨lv', h1⟩, h2⟩
  exact ⟨rfl, ⟨_, _, h1⟩, h2⟩
theorem wOn (w : World) (b bs : Nat) (D : Dev) (h : DevIs w b bs D) :
    Calls Try.prog 20 #[.pointer (some ⟨b, 0, none⟩)] w fun e w' => e = .returned (.bool D.off) ∧ DevIs w' b bs { D with off := false } ∧ Fr w w' [b] := by
  obtain ⟨lv, kv, h⟩ := h
  refine (dOn_any w b bs D lv kv h).mono ?_
  rintro e w' ⟨rfl, h1, h2⟩
  exact ⟨rfl, ⟨_, _, h1⟩, h2⟩
theorem wOff (w : World) (b bs : Nat) (D : Dev) (h : DevIs w b bs D) :
    Calls Try.prog 50 #[.pointer (some ⟨b, 0, none⟩)] w fun e w' => e = .returned (.bool D.off) ∧ w' = w := by
  obtain ⟨lv, kv, h⟩ := h
  exact dOff_any w b bs D lv kv h
theorem wSize (w : World) (b bs : Nat) (D : Dev) (h : DevIs w b bs D) :
    Calls Try.prog 55 #[.pointer (some ⟨b, 0, none⟩)] w fun e w' => e = .returned (.int .i64 D.sure.length) ∧ w' = w := by
  obtain ⟨lv, kv, h⟩ := h
  exact dSize_any w b bs D lv kv h
theorem wLoose (w : World) (b bs : Nat) (D : Dev) (h : DevIs w b bs D) :
    Calls Try.prog 22 #[.pointer (some ⟨b, 0, none⟩)] w fun e w' => e = .returned (.int .i64 D.loose.length) ∧ w' = w := by
  obtain ⟨lv, kv, h⟩ := h
  exact dLoose_any w b bs D lv kv h
theorem wChanges (w : World) (b bs : Nat) (D : Dev) (h : DevIs w b bs D) :
    Calls Try.prog 30 #[.pointer (some ⟨b, 0, none⟩)] w fun e w' => e = .returned (.int .i64 D.changes) ∧ w' = w := by
  obtain ⟨lv, kv, h⟩ := h
  exact dChanges_any w b bs D lv kv h
theorem wPlan (w : World) (b bs : Nat) (D : Dev) (h : DevIs w b bs D) (after : Int) (kv' : Value) (kept : List Int) (torn half : Int)
    (T : TypeId) (hk : RowIs w kv' T 1 kept.length (iv kept)) (hoff : OffB kv' kept.length [b]) (hkb : kept.length ≤ 1000000000000) :
    Calls Try.prog 35 #[.pointer (some ⟨b, 0, none⟩), .int .i64 after, .agg #[kv', .int .i64 torn, .int .i64 half]] w fun e w' =>
      e = .returned (.tuple #[]) ∧ DevIs w' b bs (D.plan after kept torn half) ∧ Fr w w' [b] := by
  obtain ⟨lv, kv, h⟩ := h
  refine (dPlan_any w b bs D lv kv h after kv' kept torn half T hk hoff hkb).mono ?_
  rintro e w' ⟨rfl, ⟨kv2, h1⟩, h2⟩
  exact ⟨rfl, ⟨_, _, h1⟩, h2⟩
theorem wRead_yes (w : World) (b bs : Nat) (D : Dev) (h : DevIs w b bs D) (hok : D.Ok) (i : Int) (hm : D.may i = 0) :
    Calls Try.prog 21 #[.pointer (some ⟨b, 0, none⟩), .int .i64 i] w fun e w' => ∃ g, e = .returned (.tuple #[.slice (some ⟨g, 0, none⟩) 256 256, .int .i64 0]) ∧
      w'.heap[g]? = some (.cells (bv (D.at_ i)).toArray 109 (0, 0)) ∧ w.heap.size ≤ g ∧ Below w.heap.size w w' := by
  obtain ⟨lv, kv, h⟩ := h
  exact dRead_yes w b bs D lv kv h hok.wf i hm
theorem wRead_no (w : World) (b bs : Nat) (D : Dev) (h : DevIs w b bs D) (i : Int) (hm : D.may i ≠ 0) :
    Calls Try.prog 21 #[.pointer (some ⟨b, 0, none⟩), .int .i64 i] w fun e w' => e = .returned (.tuple #[.slice none 0 0, .int .i64 (D.may i)]) ∧ w' = w := by
  obtain ⟨lv, kv, h⟩ := h
  exact dRead_no w b bs D lv kv h i hm
theorem Dev.at_len {D : Dev} (h : D.Wf) {i : Int} (hm : D.may i = 0) : (D.at_ i).length = 256 := by
  obtain ⟨_, h0, h1⟩ := Dev.may_zero hm
  refine now_len _ _ _ (h.full _ ?_) (fun p hp => (h.loose p hp).2)
  rw [List.getD_eq_getElem?_getD, List.getElem?_eq_getElem (by omega)]
  simp
end Go.Proofs.Yteggldplmbegfaa
