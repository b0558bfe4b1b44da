/- THE DEVICE's Cut when it is off, change; slices.Clip at []loose. -/
import Derived.Test.YteggldplmbegfaaDev3
set_option linter.unusedVariables false
set_option linter.unusedSimpArgs false
namespace Go.Proofs.Yteggldplmbegfaa
open Go.RowKit

set_option maxHeartbeats 400000 in
theorem dCut_off (w : World) (b bs : Nat) (D : Dev) (lv kv : Value) (h : DevAt w b bs D lv kv) (ho : D.off = true) (x y z : Value) :
    Calls Try.prog 19 #[.pointer (some ⟨b, 0, none⟩), .agg #[x, y, z]] w fun e w' => e = .returned (.tuple #[]) ∧ DevAt w' b bs D lv kv ∧ Fr w w' [] := by
  have hg := World.grownBy_alloc w (.cells #[x, y, z] 25 (0, 0)) none
  have h1 := h.grown hg
  have HF := Lib.hid ((Fr.refl w []).grown hg (by simp))
  go_enter Try.func19, Try.ntmps19
  go_wp2_with fail
  refine (dOff_any _ b bs D _ kv h1).mono ?_
  rintro e w' ⟨rfl, rfl⟩
  rw [ho]
  go_wp2
  refine bodyPost_ret (results_none rfl _ _ _) rfl ?_
  exact ⟨rfl, h1, HF.out⟩

theorem dCut_any (w : World) (b bs : Nat) (D : Dev) (lv kv : Value) (h : DevAt w b bs D lv kv) (hw : D.Wf) (kv' : Value) (kept : List Int) (torn half : Int)
    (T : TypeId) (hk : RowIs w kv' T 1 kept.length (iv kept)) (hoff : OffB kv' kept.length [bs]) (hkb : kept.length ≤ 1000000000000) :
    Calls Try.prog 19 #[.pointer (some ⟨b, 0, none⟩), .agg #[kv', .int .i64 torn, .int .i64 half]] w fun e w' =>
      e = .returned (.tuple #[]) ∧ (∃ lv', DevAt w' b bs (D.cut kept torn half) lv' kv) ∧ Fr w w' [b, bs] := by
  by_cases ho : D.off = true
  · refine (dCut_off w b bs D lv kv h ho _ _ _).mono ?_
    rintro e w' ⟨rfl, h1, h2⟩
    exact ⟨rfl, ⟨lv, by simpa [Dev.cut, ho] using h1⟩, h2.mono (by simp)⟩
  · refine (dCut_on w b bs D lv kv h hw (by simpa using ho) kv' kept torn half T hk hoff hkb).mono ?_
    rintro e w' ⟨rfl, h1, h2⟩
    exact ⟨rfl, ⟨_, h1⟩, h2⟩

set_option maxHeartbeats 400000 in
theorem sClip_any (w : World) (A : Option Addr) (n c : Nat) (hn : n ≤ c) (hb : n ≤ 9223372036854775807) :
    Calls Try.prog 52 #[.slice A n c] w fun e w' => e = .returned (.slice A n n) ∧ w' = w := by
  go_enter Try.func52, Try.ntmps52
  go_wp2
  go_ret
  exact ⟨rfl, rfl⟩

set_option maxHeartbeats 800000 in
theorem dchange_any (w : World) (b bs : Nat) (D : Dev) (lv kv : Value) (h : DevAt w b bs D lv kv) (hw : D.Wf) (hcl : D.changes < 1000000000) (hkb : D.kept.length ≤ 1000000000000) :
    Calls Try.prog 53 #[.pointer (some ⟨b, 0, none⟩)] w fun e w' =>
      e = .returned (.int .i64 D.change.2) ∧ (∃ lv', DevAt w' b bs D.change.1 lv' kv) ∧ Fr w w' [b, bs] := by
  have c2 : w.cell? ⟨b, 2, none⟩ = some (.int .i64 D.left) := h.cell 2
  have c6 : w.cell? ⟨b, 6, none⟩ = some (.int .i64 D.changes) := h.cell 6
  have f2 := h.free 2
  have f6 := h.free 6
  have hl := hw.left
  have hc := hw.changes
  have g1 := h.store 6 (.int .i64 (D.changes + 1)) { D with changes := D.changes + 1 } lv kv rfl rfl h.loose h.kept
  have F1 := (Fr.refl w [b, bs]).grown (setCell_grown w b 6 (.int .i64 (D.changes + 1))) (by simp)
  by_cases h0 : D.left < 0
  · have HD := Lib.hid (show D.change = ({ D with changes := D.changes + 1 }, 0) by simp [Dev.change, h0])
    have HG := Lib.hid g1
    have HF := Lib.hid F1
    clear g1 F1
    go_enter Try.func53, Try.ntmps53
    go_wp2
    go_ret
    rw [HD.out]
    exact ⟨rfl, ⟨lv, HG.out⟩, HF.out⟩
  · have g2 := g1.store 2 (.int .i64 (D.left - 1)) { D with changes := D.changes + 1, left := D.left - 1 } lv kv rfl rfl g1.loose g1.kept
    have F2 := F1.grown (setCell_grown _ b 2 (.int .i64 (D.left - 1))) (by simp)
    by_cases h1 : D.left = 0
    · have HD := Lib.hid (show D.change = (({ D with changes := D.changes + 1, left := -1 } : Dev).cut D.kept D.torn D.half, 6) by simp [Dev.change, h1])
      have c3 : w.cell? ⟨b, 3, none⟩ = some kv := h.cell 3
      have c4 : w.cell? ⟨b, 4, none⟩ = some (.int .i64 D.torn) := h.cell 4
      have c5 : w.cell? ⟨b, 5, none⟩ = some (.int .i64 D.half) := h.cell 5
      have e : ({ D with changes := D.changes + 1, left := D.left - 1 } : Dev) = { D with changes := D.changes + 1, left := -1 } := by simp [h1]
      rw [e] at g2
      have HG := Lib.hid g2
      have HF := Lib.hid F2
      have H1 := Lib.hid h1
      have hlt : D.left - 1 < 0 := by omega
      have hnl : ¬ D.left < 0 := by omega
      clear g1 F1 g2 F2 h1 e
      go_enter Try.func53, Try.ntmps53
      go_wp2_with fail
      refine (dCut_any _ b bs _ lv kv HG.out ⟨hw.lo, hw.hi, hw.full, hw.loose, by simp, hw.torn, hw.half, by have := hw.many; simp only; omega, by simp only; omega⟩ kv D.kept D.torn D.half 3 HG.out.kept (HG.out.kept.offB (fun x hx => by simp at hx; subst hx; exact .inr ⟨_, _, _, HG.out.sure, by decide⟩)) hkb).mono ?_
      rintro e w' ⟨rfl, ⟨lv', hd⟩, hf⟩
      have HD2 := Lib.hid hd
      have HF2 := Lib.hid (HF.out.trans hf)
      clear hd hf
      go_wp2
      go_ret
      rw [HD.out]
      exact ⟨rfl, ⟨lv', HD2.out⟩, HF2.out⟩
    · have HD := Lib.hid (show D.change = ({ D with changes := D.changes + 1, left := D.left - 1 }, 0) by simp [Dev.change, h0, h1])
      have HG := Lib.hid g2
      have HF := Lib.hid F2
      have hlt : ¬ D.left - 1 < 0 := by omega
      clear g1 F1 g2 F2
      go_enter Try.func53, Try.ntmps53
      go_wp2
      go_ret
      rw [HD.out]
      exact ⟨rfl, ⟨lv, HG.out⟩, HF.out⟩
end Go.Proofs.Yteggldplmbegfaa
