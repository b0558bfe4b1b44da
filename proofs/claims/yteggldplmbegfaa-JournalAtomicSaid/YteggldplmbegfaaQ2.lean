/- codec.Pack and journal.pack: what each computes; as print.sh wrote it for this claim, its text of sum.Open left out. -/
import Derived.Test.YteggldplmbegfaaPJournalPlaysx0
import Derived.Test.YteggldplmbegfaaPJournalPlaysx1
namespace Go.Proofs.Yteggldplmbegfaa.PJournalPlays
open Go.RowKit Go.Proofs.YteggldplmbegfaaW.PrintWords Go.Proofs.YteggldplmbegfaaW.PrintLast Go.Proofs.YteggldplmbegfaaW.PrintMore
attribute [local go_sem] max2_int min2_int max_two min_two max_three min_three max_four min_four   -- for this text's walks alone
set_option linter.unusedVariables false
set_option linter.unusedSimpArgs false

def codec_Pack.l0 : Nat → List Int → List (List Int) → Int → Int → Option (List Int × Int)
  | 0, _, _, _, _ => none
  | k + 1, x4, x9, x10, x11 => if x11 < x10 then (if 0 ≤ x11 then (if x11 < (x9.length : Int) then (if ((rd_L2 x9 x11).length : Int) > 65535 then (some (([] : List Int), 4)) else (if ((rd_L2 x9 x11).length : Int) < 255 then (if x4.length < 140737488355328 then ((some (x4 ++ [(((rd_L2 x9 x11).length : Int)) % 256] : List Int)).bind fun y187 => (if y187.length + (rd_L2 x9 x11).length < 140737488355328 then (codec_Pack.l0 k (y187 ++ (rd_L2 x9 x11)) x9 x10 (wrap64 (x11 + 1))) else (none))) else (none)) else ((some (([255, (((rd_L2 x9 x11).length : Int) / 256) % 256, (((rd_L2 x9 x11).length : Int)) % 256] : List Int) : List Int)).bind fun y193 => (if x4.length + y193.length < 140737488355328 then ((some (x4 ++ y193 : List Int)).bind fun y196 => (if y196.length + (rd_L2 x9 x11).length < 140737488355328 then (codec_Pack.l0 k (y196 ++ (rd_L2 x9 x11)) x9 x10 (wrap64 (x11 + 1))) else (none))) else (none))))) else (none)) else (none)) else (some (x4, 0))
def codec_Pack.f (k : Nat) (l0 : List (List Int)) : Option (List Int × Int) := codec_Pack.l0 k (([] : List Int)) l0 (l0.length : Int) 0
theorem codec_Pack.mono_l : ∀ k, (∀ y0 y1 y2 y3, LeO (codec_Pack.l0 k y0 y1 y2 y3) (codec_Pack.l0 (k + 1) y0 y1 y2 y3))
  | 0 => fun _ _ _ _ r h => by simp [codec_Pack.l0] at h
  | k + 1 => by
    have ih0 := codec_Pack.mono_l k
    · intro y0 y1 y2 y3
      unfold codec_Pack.l0
      repeat' first
      | (with_reducible exact ih0 _ _ _ _)
      | (with_reducible exact LeO.refl _)
      | (with_reducible exact LeO.none _)
      | (with_reducible refine LeO.ite ?_ ?_)
      | (with_reducible refine LeO.bind ?_ (fun _ => ?_))
      | exact ih0 _ _ _ _
      | exact LeO.none _
      | refine LeO.ite ?_ ?_
      | refine LeO.bind ?_ (fun _ => ?_)
theorem codec_Pack.mono : ∀ a0 k, LeO (codec_Pack.f k a0) (codec_Pack.f (k + 1) a0) := by
  intro a0 k
  have ih0 := codec_Pack.mono_l k
  unfold codec_Pack.f
  repeat' first
      | (with_reducible exact ih0 _ _ _ _)
      | (with_reducible exact LeO.refl _)
      | (with_reducible exact LeO.none _)
      | (with_reducible refine LeO.ite ?_ ?_)
      | (with_reducible refine LeO.bind ?_ (fun _ => ?_))
      | exact ih0 _ _ _ _
      | exact LeO.none _
      | refine LeO.ite ?_ ?_
      | refine LeO.bind ?_ (fun _ => ?_)
set_option maxHeartbeats 8000000 in
set_option maxRecDepth 100000 in
theorem codec_Pack.calls (k : Nat) (A0 : Option Addr) (c0 : Nat) (l0 : List (List Int)) (r1 : List Int) (r2 : Int) (w : World) (hr0 : Kd.C (Kd.slice 5 (Kd.int .u8)) w A0 l0.length l0) (hc0 : l0.length ≤ c0) (h : codec_Pack.f k l0 = some (r1, r2)) :
    Calls Try.prog 91 #[.slice A0 l0.length c0] w fun e w' => ∃ v0_ : Value, e = .returned (.tuple #[v0_, .int .i64 r2]) ∧ Kd.R (Kd.int .u8) 5 w' w.heap.size (fun _ => True) v0_ r1 ∧ Below w.heap.size w w' := by
  have HR0 := Aside0.mk hr0
  have HC0 := Aside0.mk hc0
  clear hr0 hc0
  have HB := Aside0.mk (Below.refl w.heap.size w)
  have H : (codec_Pack.l0 k (([] : List Int)) l0 (l0.length : Int) 0) = some (r1, r2) := h
  clear h
  obtain ⟨y183, hy183⟩ : ∃ y_ : List Int, y_ = (([] : List Int)) := ⟨_, rfl⟩
  replace H : (codec_Pack.l0 k y183 l0 (l0.length : Int) 0) = some (r1, r2) := by first | (rw [hy183]; with_reducible exact H) | (have H2_ := (Option.bind_some _ _).symm.trans H; rw [hy183]; with_reducible exact H2_) | (have H2_ := (Option.bind_some _ _).symm.trans H; with_reducible exact H2_) | with_reducible exact H | (rw [hy183]; exact H) | exact H
  have Ny183 := Aside0.mk hy183
  clear hy183
  have H' := Aside0.mk H
  clear H
  go_enter Try.func91, Try.ntmps91
  go_wp2_with (first | ((with_reducible refine gate_dst (N := 8) rfl ?_); refine Kd.R_lit (Kd.int .u8) _ 5 ?hg (N := 8) ?hd (xs := ([] : List Int)) (inner := []) (ok := fun _ => True) (okp := fun _ => True) ?hr ?hp (fun _ hk => hk) trivial (Below.refl _ _) (Nat.le_refl _) (by simp) ?_; (case hd => rfl); (case hg => rfl); (case hr => first | (go_simp; done) | (go_simp; rfl)); (case hp => exact (Reps.none _ _)); intro v184 w2 ho3 hb hg_ hnew_; clear hg_ hnew_; (first | rw [← Ny183.out] at ho3 | (simp only [Int.reduceToNat] at ho3; rw [← Ny183.out] at ho3)); have n0_ := Aside0.mk (Kd.R_lower ho3 (below_size (by repeat (first | (with_reducible first | exact HB.out | apply below_alloc | apply pw_below_drewN | apply below_drew1) | exact HB.out)))); have n1_ := Aside0.mk (below_step (by repeat (first | (with_reducible first | exact HB.out | apply below_alloc | apply pw_below_drewN | apply below_drew1) | exact HB.out)) hb); clear HB; have HO185 := n0_; have HB := n1_; clear n0_ n1_; clear hb ho3))
  go_loopg [4, 11] k (fun kq v4 v11 w' => ∃ (x4_1 : List Int) (x11_1 : Int), v11 = .int .i64 x11_1 ∧ Aside0 (codec_Pack.l0 kq x4_1 l0 (l0.length : Int) x11_1 = some (r1, r2)) ∧ Aside0 (kq ≤ k) ∧ Aside0 (Kd.R (Kd.int .u8) 5 w' w.heap.size (fun _ => True) v4 x4_1) ∧ Aside0 (Below w.heap.size w w'))
  case atStart => exact ⟨(y183), (0), (by first | rfl | (simp; done) | (simp [*]; done)), H', ⟨Nat.le_refl _⟩, ⟨by (with_reducible repeat (first | apply Kd.R_alloc | apply Kd.R_drewN | apply Kd.R_drew)); exact HO185.out⟩, ⟨by repeat (first | (with_reducible first | exact HB.out | apply below_alloc | apply pw_below_drewN | apply below_drew1) | exact HB.out)⟩⟩
  case round =>
    clear H'
    try clear p2
    obtain ⟨x4_1, x11_1, rfl, HA, HK1, HO_4, HB⟩ := hrel
    cases gk with
    | zero => exact absurd HA.out (by simp [codec_Pack.l0])
    | succ k1 =>
      have H := HA.out
      clear HA
      simp only [codec_Pack.l0] at H
      by_cases c4 : x11_1 < (l0.length : Int)
      · rw [if_pos c4] at H
        have c4b0 : decide (x11_1 < (l0.length : Int)) = true := decide_eq_true c4
        clear c4
        by_cases c5 : 0 ≤ x11_1
        · rw [if_pos c5] at H
          have c5b0 : decide (0 ≤ x11_1) = true := decide_eq_true c5
          clear c5
          by_cases c6 : x11_1 < (l0.length : Int)
          · rw [if_pos c6] at H
            have c6b0 : decide (x11_1 < (l0.length : Int)) = true := decide_eq_true c6
            clear c6
            by_cases c7 : ((rd_L2 l0 x11_1).length : Int) > 65535
            · rw [if_pos c7] at H
              have c7b0 : decide (65535 < ((rd_L2 l0 x11_1).length : Int)) = true := decide_eq_true c7
              have c7b1 : decide (65535 < (rd_L2 l0 x11_1).length) = true := decide_eq_true (by omega)
              clear c7
              simp only [Option.some.injEq, Prod.mk.injEq] at H
              obtain ⟨rfl, rfl⟩ := H
              have p186 : 0 ≤ (x11_1 : Int) := of_decide_eq_true (by first | (with_reducible assumption) | assumption)
              have q186 : x11_1 < (l0.length : Int) := of_decide_eq_true (by first | (with_reducible assumption) | assumption)
              obtain ⟨ad186, A186_0, c186_0, e186, hx186_0, hl186_0, hi186_0⟩ := at_L2 HR0.out x11_1 p186 q186
              cases e186
              replace hx186_0 := (HB.out.cell (World.block_lt_of_cell? w _ hx186_0)).trans hx186_0
              have HR186_0 := Aside0.mk hi186_0
              have HC186_0 := Aside0.mk hl186_0
              clear hi186_0 hl186_0
              replace p186 := eq_true p186
              replace q186 := eq_true q186
              go_wp2
              go_ret2
              exact ⟨_, by first | rfl | (simp [errW_none, errW_some] <;> rfl) | (simp [*, errW_none, errW_some] <;> rfl), by first | exact Kd.R_nil _ _ _ _ _ | exact Kd.N_nil _ _ _ _ _ | exact Kd.V_nil _ _ _ _ _ | exact Kd.Q_nil _ _ _ _ _ | exact Kd.S_nil _ _ _ _ _, by repeat (first | (with_reducible first | exact HB.out | apply below_alloc | apply pw_below_drewN | apply below_drew1) | exact HB.out)⟩
            · rw [if_neg c7] at H
              have c7b0 : decide (65535 < ((rd_L2 l0 x11_1).length : Int)) = false := decide_eq_false c7
              have c7b1 : decide (65535 < (rd_L2 l0 x11_1).length) = false := decide_eq_false (by omega)
              clear c7
              by_cases c8 : ((rd_L2 l0 x11_1).length : Int) < 255
              · rw [if_pos c8] at H
                have c8b0 : decide (((rd_L2 l0 x11_1).length : Int) < 255) = true := decide_eq_true c8
                have c8b1 : decide ((rd_L2 l0 x11_1).length < 255) = true := decide_eq_true (by omega)
                clear c8
                by_cases c9 : x4_1.length < 140737488355328
                · rw [if_pos c9] at H
                  have LMc9 := Aside0.mk c9
                  clear c9
                  obtain ⟨y187, hy187⟩ : ∃ y_ : List Int, y_ = (x4_1 ++ [(((rd_L2 l0 x11_1).length : Int)) % 256]) := ⟨_, rfl⟩
                  replace H : (if y187.length + (rd_L2 l0 x11_1).length < 140737488355328 then (codec_Pack.l0 k1 (y187 ++ (rd_L2 l0 x11_1)) l0 (l0.length : Int) (wrap64 (x11_1 + 1))) else (none)) = some (r1, r2) := by first | (rw [hy187]; with_reducible exact H) | (have H2_ := (Option.bind_some _ _).symm.trans H; rw [hy187]; with_reducible exact H2_) | (have H2_ := (Option.bind_some _ _).symm.trans H; with_reducible exact H2_) | with_reducible exact H | (rw [hy187]; exact H) | exact H
                  have Ny187 := Aside0.mk hy187
                  clear hy187
                  by_cases c10 : y187.length + (rd_L2 l0 x11_1).length < 140737488355328
                  · rw [if_pos c10] at H
                    have LMc10 := Aside0.mk c10
                    clear c10
                    obtain ⟨y190, hy190⟩ : ∃ y_ : List Int, y_ = (y187 ++ (rd_L2 l0 x11_1)) := ⟨_, rfl⟩
                    replace H : (codec_Pack.l0 k1 y190 l0 (l0.length : Int) (wrap64 (x11_1 + 1))) = some (r1, r2) := by first | (rw [hy190]; with_reducible exact H) | (have H2_ := (Option.bind_some _ _).symm.trans H; rw [hy190]; with_reducible exact H2_) | (have H2_ := (Option.bind_some _ _).symm.trans H; with_reducible exact H2_) | with_reducible exact H | (rw [hy190]; exact H) | exact H
                    have Ny190 := Aside0.mk hy190
                    clear hy190
                    have H' := Aside0.mk H
                    clear H
                    have p186 : 0 ≤ (x11_1 : Int) := of_decide_eq_true (by first | (with_reducible assumption) | assumption)
                    have q186 : x11_1 < (l0.length : Int) := of_decide_eq_true (by first | (with_reducible assumption) | assumption)
                    obtain ⟨ad186, A186_0, c186_0, e186, hx186_0, hl186_0, hi186_0⟩ := at_L2 HR0.out x11_1 p186 q186
                    cases e186
                    replace hx186_0 := (HB.out.cell (World.block_lt_of_cell? w _ hx186_0)).trans hx186_0
                    have HR186_0 := Aside0.mk hi186_0
                    have HC186_0 := Aside0.mk hl186_0
                    clear hi186_0 hl186_0
                    replace p186 := eq_true p186
                    replace q186 := eq_true q186
                    go_wp2_with (first | ((with_reducible refine gate_builtin (b := .append) (xs := #[.tmp 31, .tmp 34]) rfl ?_); at_builtin; refine Kd.R_append (Kd.int .u8) (w0 := w) w.heap.size rfl (.tmp 31) (.tmp 34) 33 5 (.int .u8 0) 1 rfl Try.underlying33 info5 rfl (by decide) (by omega) u4 x4_1 ((((rd_L2 l0 x11_1).length : Int)) % 256) [.int .u8 ((((rd_L2 l0 x11_1).length : Int)) % 256)] (fun _ => True) (fun _ => False) rfl rfl ?aP (fun _ hk => hk.elim) ?aF ?aO ?aB ?aS ?aL ?_; (case aP => exact rfl); (case aB => exact (by repeat (first | (with_reducible first | exact HB.out | apply below_alloc | apply pw_below_drewN | apply below_drew1) | exact HB.out))); (case aF => exact (fun _ _ => trivial)); (case aO => exact (by (with_reducible repeat (first | apply Kd.R_alloc | apply Kd.R_drewN | apply Kd.R_drew)); exact HO_4.out)); (case aS => exact (below_size (by repeat (first | (with_reducible first | exact HB.out | apply below_alloc | apply pw_below_drewN | apply below_drew1) | exact HB.out)))); (case aL => have := LMc9.out; omega); intro v188 w11 ho hb hg hat; rw [← Ny187.out] at ho; have n0_ := Aside0.mk (hb); have n1_ := Aside0.mk (ho); clear HB; clear HO_4; have HB := n0_; have HO189 := n1_; clear n0_ n1_; clear ho hb hg hat) | ((with_reducible refine gate_builtin (b := .append) (xs := #[.tmp 36, .tmp 37]) rfl ?_); at_builtin; refine Kd.R_append_rows (Kd.int .u8) (w0 := w) w.heap.size rfl (.tmp 36) (.tmp 37) 33 5 (.int .u8 0) 1 rfl Try.underlying33 info5 rfl (by decide) (by omega) v188 y187 (rd_L2 l0 x11_1) _ _ _ (fun _ => True) (fun _ => False) rfl rfl ?aO ?aR (fun _ _ h => h) (fun _ h => h.elim) ?aF ?aB ?aS ?aL ?_; (case aR => repeat (first | exact (Kd.C_below HR186_0.out HB.out) | (with_reducible refine Kd.C_alloc ?_ _) | (with_reducible refine Kd.C_drewN ?_ _) | (with_reducible refine Kd.C_drew ?_))); (case aB => exact (by repeat (first | (with_reducible first | exact HB.out | apply below_alloc | apply pw_below_drewN | apply below_drew1) | exact HB.out))); (case aF => exact (fun _ _ => trivial)); (case aO => exact (by (with_reducible repeat (first | apply Kd.R_alloc | apply Kd.R_drewN | apply Kd.R_drew)); exact HO189.out)); (case aS => exact (below_size (by repeat (first | (with_reducible first | exact HB.out | apply below_alloc | apply pw_below_drewN | apply below_drew1) | exact HB.out)))); (case aL => have := LMc10.out; omega); intro v191 w12 ho hb hg hat; rw [← Ny190.out] at ho; have n0_ := Aside0.mk (hb); have n1_ := Aside0.mk (ho); clear HB; clear HO189; have HB := n0_; have HO192 := n1_; clear n0_ n1_; clear ho hb hg hat))
                    go_roundg k1
                    case measure => have := HK1.out; omega
                    case rel => exact ⟨(y190), (wrap64 (x11_1 + 1)), (by first | rfl | (simp; done) | (simp [*]; done)), H', ⟨by have := HK1.out; omega⟩, ⟨by (with_reducible repeat (first | apply Kd.R_alloc | apply Kd.R_drewN | apply Kd.R_drew)); exact HO192.out⟩, ⟨by repeat (first | (with_reducible first | exact HB.out | apply below_alloc | apply pw_below_drewN | apply below_drew1) | exact HB.out)⟩⟩
                  · rw [if_neg c10] at H
                    exact absurd H (by simp)
                · rw [if_neg c9] at H
                  exact absurd H (by simp)
              · rw [if_neg c8] at H
                have c8b0 : decide (((rd_L2 l0 x11_1).length : Int) < 255) = false := decide_eq_false c8
                have c8b1 : decide ((rd_L2 l0 x11_1).length < 255) = false := decide_eq_false (by omega)
                clear c8
                obtain ⟨y193, hy193⟩ : ∃ y_ : List Int, y_ = (([255, (((rd_L2 l0 x11_1).length : Int) / 256) % 256, (((rd_L2 l0 x11_1).length : Int)) % 256] : List Int)) := ⟨_, rfl⟩
                replace H : (if x4_1.length + y193.length < 140737488355328 then ((some (x4_1 ++ y193 : List Int)).bind fun y196 => (if y196.length + (rd_L2 l0 x11_1).length < 140737488355328 then (codec_Pack.l0 k1 (y196 ++ (rd_L2 l0 x11_1)) l0 (l0.length : Int) (wrap64 (x11_1 + 1))) else (none))) else (none)) = some (r1, r2) := by first | (rw [hy193]; with_reducible exact H) | (have H2_ := (Option.bind_some _ _).symm.trans H; rw [hy193]; with_reducible exact H2_) | (have H2_ := (Option.bind_some _ _).symm.trans H; with_reducible exact H2_) | with_reducible exact H | (rw [hy193]; exact H) | exact H
                have Ny193 := Aside0.mk hy193
                clear hy193
                by_cases c13 : x4_1.length + y193.length < 140737488355328
                · rw [if_pos c13] at H
                  have LMc13 := Aside0.mk c13
                  clear c13
                  obtain ⟨y196, hy196⟩ : ∃ y_ : List Int, y_ = (x4_1 ++ y193) := ⟨_, rfl⟩
                  replace H : (if y196.length + (rd_L2 l0 x11_1).length < 140737488355328 then (codec_Pack.l0 k1 (y196 ++ (rd_L2 l0 x11_1)) l0 (l0.length : Int) (wrap64 (x11_1 + 1))) else (none)) = some (r1, r2) := by first | (rw [hy196]; with_reducible exact H) | (have H2_ := (Option.bind_some _ _).symm.trans H; rw [hy196]; with_reducible exact H2_) | (have H2_ := (Option.bind_some _ _).symm.trans H; with_reducible exact H2_) | with_reducible exact H | (rw [hy196]; exact H) | exact H
                  have Ny196 := Aside0.mk hy196
                  clear hy196
                  by_cases c14 : y196.length + (rd_L2 l0 x11_1).length < 140737488355328
                  · rw [if_pos c14] at H
                    have LMc14 := Aside0.mk c14
                    clear c14
                    obtain ⟨y199, hy199⟩ : ∃ y_ : List Int, y_ = (y196 ++ (rd_L2 l0 x11_1)) := ⟨_, rfl⟩
                    replace H : (codec_Pack.l0 k1 y199 l0 (l0.length : Int) (wrap64 (x11_1 + 1))) = some (r1, r2) := by first | (rw [hy199]; with_reducible exact H) | (have H2_ := (Option.bind_some _ _).symm.trans H; rw [hy199]; with_reducible exact H2_) | (have H2_ := (Option.bind_some _ _).symm.trans H; with_reducible exact H2_) | with_reducible exact H | (rw [hy199]; exact H) | exact H
                    have Ny199 := Aside0.mk hy199
                    clear hy199
                    have H' := Aside0.mk H
                    clear H
                    have p186 : 0 ≤ (x11_1 : Int) := of_decide_eq_true (by first | (with_reducible assumption) | assumption)
                    have q186 : x11_1 < (l0.length : Int) := of_decide_eq_true (by first | (with_reducible assumption) | assumption)
                    obtain ⟨ad186, A186_0, c186_0, e186, hx186_0, hl186_0, hi186_0⟩ := at_L2 HR0.out x11_1 p186 q186
                    cases e186
                    replace hx186_0 := (HB.out.cell (World.block_lt_of_cell? w _ hx186_0)).trans hx186_0
                    have HR186_0 := Aside0.mk hi186_0
                    have HC186_0 := Aside0.mk hl186_0
                    clear hi186_0 hl186_0
                    replace p186 := eq_true p186
                    replace q186 := eq_true q186
                    go_wp2_with (first | ((with_reducible refine gate_dst (N := 23) rfl ?_); refine Kd.R_lit (Kd.int .u8) _ 5 ?hg (N := 23) ?hd (xs := ([255, (((rd_L2 l0 x11_1).length : Int) / 256) % 256, (((rd_L2 l0 x11_1).length : Int)) % 256] : List Int)) (inner := [.int .u8 255, .int .u8 ((((rd_L2 l0 x11_1).length : Int) / 256) % 256), .int .u8 ((((rd_L2 l0 x11_1).length : Int)) % 256)]) (ok := fun _ => True) (okp := fun _ => True) ?hr ?hp (fun _ hk => hk) trivial (Below.refl _ _) (Nat.le_refl _) (by simp) ?_; (case hd => rfl); (case hg => rfl); (case hr => first | (go_simp; done) | (go_simp; rfl)); (case hp => exact (Reps.one (show Kd.M (Kd.int .u8) _ _ _ 255 [.int .u8 255] from rfl) (Reps.one (show Kd.M (Kd.int .u8) _ _ _ ((((rd_L2 l0 x11_1).length : Int) / 256) % 256) [.int .u8 ((((rd_L2 l0 x11_1).length : Int) / 256) % 256)] from rfl) (Reps.one (show Kd.M (Kd.int .u8) _ _ _ ((((rd_L2 l0 x11_1).length : Int)) % 256) [.int .u8 ((((rd_L2 l0 x11_1).length : Int)) % 256)] from rfl) (Reps.none _ _))))); intro v194 w15 ho16 hb hg_ hnew_; clear hg_ hnew_; (first | rw [← Ny193.out] at ho16 | (simp only [Int.reduceToNat] at ho16; rw [← Ny193.out] at ho16)); have n0_ := Aside0.mk (Kd.R_elder' (by (with_reducible repeat (first | apply Kd.R_alloc | apply Kd.R_drewN | apply Kd.R_drew)); exact HO_4.out) (Kd.R_base ho16) hb); have n1_ := Aside0.mk (Kd.R_lower (Kd.R_new' ho16 (Kd.R_lt (by (with_reducible repeat (first | apply Kd.R_alloc | apply Kd.R_drewN | apply Kd.R_drew)); exact HO_4.out))) (below_size (by repeat (first | (with_reducible first | exact HB.out | apply below_alloc | apply pw_below_drewN | apply below_drew1) | exact HB.out)))); have n2_ := Aside0.mk (below_step (by repeat (first | (with_reducible first | exact HB.out | apply below_alloc | apply pw_below_drewN | apply below_drew1) | exact HB.out)) hb); clear HO_4; clear HB; have HO_4 := n0_; have HO195 := n1_; have HB := n2_; clear n0_ n1_ n2_; clear hb ho16; obtain ⟨Ao18, co18, eo18⟩ := Kd.R_slice HO195.out; subst eo18) | ((with_reducible refine gate_builtin (b := .append) (xs := #[.tmp 17, .tmp 23]) rfl ?_); at_builtin; refine Kd.R_append_rows (Kd.int .u8) (w0 := w) w.heap.size rfl (.tmp 17) (.tmp 23) 33 5 (.int .u8 0) 1 rfl Try.underlying33 info5 rfl (by decide) (by omega) u4 x4_1 y193 _ _ _ (fun k_ => some k_ ≠ (.slice Ao18 y193.length co18 : Value).ownBlock) (fun _ => False) rfl rfl ?aO ?aR (fun _ _ h => h) (fun _ h => h.elim) ?aF ?aB ?aS ?aL ?_; (case aR => repeat (first | exact (Kd.R_reads' HO195.out).2.2 | (with_reducible refine Kd.C_alloc ?_ _) | (with_reducible refine Kd.C_drewN ?_ _) | (with_reducible refine Kd.C_drew ?_))); (case aB => exact (by repeat (first | (with_reducible first | exact HB.out | apply below_alloc | apply pw_below_drewN | apply below_drew1) | exact HB.out))); (case aF => exact (fun k_ hk => Kd.fresh' (Kd.R_lt (by (with_reducible repeat (first | apply Kd.R_alloc | apply Kd.R_drewN | apply Kd.R_drew)); exact HO195.out)) k_ hk)); (case aO => exact (by (with_reducible repeat (first | apply Kd.R_alloc | apply Kd.R_drewN | apply Kd.R_drew)); exact Kd.R_mono HO_4.out (fun _ hk => hk.2))); (case aS => exact (below_size (by repeat (first | (with_reducible first | exact HB.out | apply below_alloc | apply pw_below_drewN | apply below_drew1) | exact HB.out)))); (case aL => have := LMc13.out; omega); intro v197 w17 ho hb hg hat; rw [← Ny196.out] at ho; have n0_ := Aside0.mk (Kd.R_after (ok := (fun _ => True)) (by (with_reducible repeat (first | apply Kd.R_alloc | apply Kd.R_drewN | apply Kd.R_drew)); exact HO195.out) hg hat); have n1_ := Aside0.mk (hb); have n2_ := Aside0.mk (ho); clear HO195; clear HB; clear HO_4; have HO195 := n0_; have HB := n1_; have HO198 := n2_; clear n0_ n1_ n2_; clear ho hb hg hat) | ((with_reducible refine gate_builtin (b := .append) (xs := #[.tmp 36, .tmp 37]) rfl ?_); at_builtin; refine Kd.R_append_rows (Kd.int .u8) (w0 := w) w.heap.size rfl (.tmp 36) (.tmp 37) 33 5 (.int .u8 0) 1 rfl Try.underlying33 info5 rfl (by decide) (by omega) v197 y196 (rd_L2 l0 x11_1) _ _ _ (fun k_ => some k_ ≠ (.slice Ao18 y193.length co18 : Value).ownBlock) (fun _ => False) rfl rfl ?aO ?aR (fun _ _ h => h) (fun _ h => h.elim) ?aF ?aB ?aS ?aL ?_; (case aR => repeat (first | exact (Kd.C_below HR186_0.out HB.out) | (with_reducible refine Kd.C_alloc ?_ _) | (with_reducible refine Kd.C_drewN ?_ _) | (with_reducible refine Kd.C_drew ?_))); (case aB => exact (by repeat (first | (with_reducible first | exact HB.out | apply below_alloc | apply pw_below_drewN | apply below_drew1) | exact HB.out))); (case aF => exact (fun k_ hk => Kd.fresh' (Kd.R_lt (by (with_reducible repeat (first | apply Kd.R_alloc | apply Kd.R_drewN | apply Kd.R_drew)); exact HO195.out)) k_ hk)); (case aO => exact (by (with_reducible repeat (first | apply Kd.R_alloc | apply Kd.R_drewN | apply Kd.R_drew)); exact HO198.out)); (case aS => exact (below_size (by repeat (first | (with_reducible first | exact HB.out | apply below_alloc | apply pw_below_drewN | apply below_drew1) | exact HB.out)))); (case aL => have := LMc14.out; omega); intro v200 w19 ho hb hg hat; rw [← Ny199.out] at ho; have n0_ := Aside0.mk (Kd.R_after (ok := (fun _ => True)) (by (with_reducible repeat (first | apply Kd.R_alloc | apply Kd.R_drewN | apply Kd.R_drew)); exact HO195.out) hg hat); have n1_ := Aside0.mk (hb); have n2_ := Aside0.mk (ho); clear HO195; clear HB; clear HO198; have HO195 := n0_; have HB := n1_; have HO201 := n2_; clear n0_ n1_ n2_; clear ho hb hg hat))
                    go_roundg k1
                    case measure => have := HK1.out; omega
                    case rel => exact ⟨(y199), (wrap64 (x11_1 + 1)), (by first | rfl | (simp; done) | (simp [*]; done)), H', ⟨by have := HK1.out; omega⟩, ⟨by (with_reducible repeat (first | apply Kd.R_alloc | apply Kd.R_drewN | apply Kd.R_drew)); exact Kd.R_mono HO201.out (fun _ hk => trivial)⟩, ⟨by repeat (first | (with_reducible first | exact HB.out | apply below_alloc | apply pw_below_drewN | apply below_drew1) | exact HB.out)⟩⟩
                  · rw [if_neg c14] at H
                    exact absurd H (by simp)
                · rw [if_neg c13] at H
                  exact absurd H (by simp)
          · rw [if_neg c6] at H
            exact absurd H (by simp)
        · rw [if_neg c5] at H
          exact absurd H (by simp)
      · rw [if_neg c4] at H
        have c4b0 : decide (x11_1 < (l0.length : Int)) = false := decide_eq_false c4
        clear c4
        simp only [Option.some.injEq, Prod.mk.injEq] at H
        obtain ⟨rfl, rfl⟩ := H
        go_wp2
        go_ret2
        exact ⟨_, by first | rfl | (simp [errW_none, errW_some] <;> rfl) | (simp [*, errW_none, errW_some] <;> rfl), by (with_reducible repeat (first | apply Kd.R_alloc | apply Kd.R_drewN | apply Kd.R_drew)); exact HO_4.out, by repeat (first | (with_reducible first | exact HB.out | apply below_alloc | apply pw_below_drewN | apply below_drew1) | exact HB.out)⟩

/-! ### journal_pack: function 61 -/
mutual
def journal_pack.l0 : Nat → List (List Int) → Int → List (List Int) → Int → Int → Option (List Int × Int)
  | 0, _, _, _, _, _ => none
  | k + 1, x0, x1, x13, x14, x15 => if x15 < x14 then (if 0 ≤ x15 then (if x15 < (x13.length : Int) then (if ((rd_L2 x13 x15).length : Int) > 65531 then (some (([] : List Int), 4)) else (journal_pack.l0 k x0 x1 x13 x14 (wrap64 (x15 + 1)))) else (none)) else (none)) else (journal_pack.l1 k x1 ([] : List Int) x0 (x0.length : Int) 0)
def journal_pack.l1 : Nat → Int → List Int → List (List Int) → Int → Int → Option (List Int × Int)
  | 0, _, _, _, _, _ => none
  | k + 1, x1, x6, x23, x24, x25 => if x25 < x24 then (if 0 ≤ x25 then (if x25 < (x23.length : Int) then (if (x6.length : Int) > x1 then (some (([] : List Int), 5)) else ((sum_Seal.f k (rd_L2 x23 x25)).bind fun t204 => ((codec_Pack.f k (([t204] : List (List Int)))).bind fun bt210 => (if bt210.2 = 0 then (if x6.length + bt210.1.length < 140737488355328 then (journal_pack.l1 k x1 (x6 ++ bt210.1) x23 x24 (wrap64 (x25 + 1))) else (none)) else (some (([] : List Int), bt210.2)))))) else (none)) else (none)) else (some (x6, 0))
end
def journal_pack.f (k : Nat) (l0 : List (List Int)) (a1 : Int) : Option (List Int × Int) := journal_pack.l0 k l0 a1 l0 (l0.length : Int) 0
theorem journal_pack.mono_l : ∀ k, (∀ y0 y1 y2 y3 y4, LeO (journal_pack.l0 k y0 y1 y2 y3 y4) (journal_pack.l0 (k + 1) y0 y1 y2 y3 y4)) ∧ (∀ y0 y1 y2 y3 y4, LeO (journal_pack.l1 k y0 y1 y2 y3 y4) (journal_pack.l1 (k + 1) y0 y1 y2 y3 y4))
  | 0 => ⟨fun _ _ _ _ _ r h => by simp [journal_pack.l0] at h, fun _ _ _ _ _ r h => by simp [journal_pack.l1] at h⟩
  | k + 1 => by
    obtain ⟨ih0, ih1⟩ := journal_pack.mono_l k
    refine ⟨?_, ?_⟩
    · intro y0 y1 y2 y3 y4
      unfold journal_pack.l0
      repeat' first
      | (with_reducible exact ih0 _ _ _ _ _)
      | (with_reducible exact ih1 _ _ _ _ _)
      | (with_reducible exact codec_Pack.mono _ _)
      | (with_reducible exact sum_Seal.mono _ _)
      | (with_reducible exact LeO.refl _)
      | (with_reducible exact LeO.none _)
      | (with_reducible refine LeO.ite ?_ ?_)
      | (with_reducible refine LeO.bind ?_ (fun _ => ?_))
      | exact ih0 _ _ _ _ _
      | exact ih1 _ _ _ _ _
      | exact codec_Pack.mono _ _
      | exact sum_Seal.mono _ _
      | exact LeO.none _
      | refine LeO.ite ?_ ?_
      | refine LeO.bind ?_ (fun _ => ?_)
    · intro y0 y1 y2 y3 y4
      unfold journal_pack.l1
      repeat' first
      | (with_reducible exact ih0 _ _ _ _ _)
      | (with_reducible exact ih1 _ _ _ _ _)
      | (with_reducible exact codec_Pack.mono _ _)
      | (with_reducible exact sum_Seal.mono _ _)
      | (with_reducible exact LeO.refl _)
      | (with_reducible exact LeO.none _)
      | (with_reducible refine LeO.ite ?_ ?_)
      | (with_reducible refine LeO.bind ?_ (fun _ => ?_))
      | exact ih0 _ _ _ _ _
      | exact ih1 _ _ _ _ _
      | exact codec_Pack.mono _ _
      | exact sum_Seal.mono _ _
      | exact LeO.none _
      | refine LeO.ite ?_ ?_
      | refine LeO.bind ?_ (fun _ => ?_)
theorem journal_pack.mono : ∀ a0 a1 k, LeO (journal_pack.f k a0 a1) (journal_pack.f (k + 1) a0 a1) := by
  intro a0 a1 k
  obtain ⟨ih0, ih1⟩ := journal_pack.mono_l k
  unfold journal_pack.f
  repeat' first
      | (with_reducible exact ih0 _ _ _ _ _)
      | (with_reducible exact ih1 _ _ _ _ _)
      | (with_reducible exact codec_Pack.mono _ _)
      | (with_reducible exact sum_Seal.mono _ _)
      | (with_reducible exact LeO.refl _)
      | (with_reducible exact LeO.none _)
      | (with_reducible refine LeO.ite ?_ ?_)
      | (with_reducible refine LeO.bind ?_ (fun _ => ?_))
      | exact ih0 _ _ _ _ _
      | exact ih1 _ _ _ _ _
      | exact codec_Pack.mono _ _
      | exact sum_Seal.mono _ _
      | exact LeO.none _
      | refine LeO.ite ?_ ?_
      | refine LeO.bind ?_ (fun _ => ?_)
set_option maxHeartbeats 8000000 in
set_option maxRecDepth 100000 in
theorem journal_pack.calls (k : Nat) (A0 : Option Addr) (c0 : Nat) (l0 : List (List Int)) (a1 : Int) (r1 : List Int) (r2 : Int) (w : World) (hr0 : Kd.C (Kd.slice 5 (Kd.int .u8)) w A0 l0.length l0) (hc0 : l0.length ≤ c0) (h : journal_pack.f k l0 a1 = some (r1, r2)) :
    Calls Try.prog 61 #[.slice A0 l0.length c0, .int .i64 a1] w fun e w' => ∃ v0_ : Value, e = .returned (.tuple #[v0_, .int .i64 r2]) ∧ Kd.R (Kd.int .u8) 5 w' w.heap.size (fun _ => True) v0_ r1 ∧ Below w.heap.size w w' := by
  have HR0 := Aside0.mk hr0
  have HC0 := Aside0.mk hc0
  clear hr0 hc0
  have HB := Aside0.mk (Below.refl w.heap.size w)
  have H : (journal_pack.l0 k l0 a1 l0 (l0.length : Int) 0) = some (r1, r2) := h
  clear h
  have H' := Aside0.mk H
  clear H
  go_enter Try.func61, Try.ntmps61
  go_wp2
  go_loopg [15] k (fun kq v15 w' => ∃ (x15_1 : Int), v15 = .int .i64 x15_1 ∧ Aside0 (journal_pack.l0 kq l0 a1 l0 (l0.length : Int) x15_1 = some (r1, r2)) ∧ Aside0 (kq ≤ k) ∧ Aside0 (Below w.heap.size w w'))
  case atStart => exact ⟨(0), (by first | rfl | (simp; done) | (simp [*]; done)), H', ⟨Nat.le_refl _⟩, ⟨by repeat (first | (with_reducible first | exact HB.out | apply below_alloc | apply pw_below_drewN | apply below_drew1) | exact HB.out)⟩⟩
  case round =>
    clear H'
    try clear p2
    obtain ⟨x15_1, rfl, HA, HK1, HB⟩ := hrel
    cases gk with
    | zero => exact absurd HA.out (by simp [journal_pack.l0])
    | succ k1 =>
      have H := HA.out
      clear HA
      simp only [journal_pack.l0] at H
      by_cases c3 : x15_1 < (l0.length : Int)
      · rw [if_pos c3] at H
        have c3b0 : decide (x15_1 < (l0.length : Int)) = true := decide_eq_true c3
        clear c3
        by_cases c4 : 0 ≤ x15_1
        · rw [if_pos c4] at H
          have c4b0 : decide (0 ≤ x15_1) = true := decide_eq_true c4
          clear c4
          by_cases c5 : x15_1 < (l0.length : Int)
          · rw [if_pos c5] at H
            have c5b0 : decide (x15_1 < (l0.length : Int)) = true := decide_eq_true c5
            clear c5
            by_cases c6 : ((rd_L2 l0 x15_1).length : Int) > 65531
            · rw [if_pos c6] at H
              have c6b0 : decide (65531 < ((rd_L2 l0 x15_1).length : Int)) = true := decide_eq_true c6
              have c6b1 : decide (65531 < (rd_L2 l0 x15_1).length) = true := decide_eq_true (by omega)
              clear c6
              simp only [Option.some.injEq, Prod.mk.injEq] at H
              obtain ⟨rfl, rfl⟩ := H
              have p202 : 0 ≤ (x15_1 : Int) := of_decide_eq_true (by first | (with_reducible assumption) | assumption)
              have q202 : x15_1 < (l0.length : Int) := of_decide_eq_true (by first | (with_reducible assumption) | assumption)
              obtain ⟨ad202, A202_0, c202_0, e202, hx202_0, hl202_0, hi202_0⟩ := at_L2 HR0.out x15_1 p202 q202
              cases e202
              replace hx202_0 := (HB.out.cell (World.block_lt_of_cell? w _ hx202_0)).trans hx202_0
              have HR202_0 := Aside0.mk hi202_0
              have HC202_0 := Aside0.mk hl202_0
              clear hi202_0 hl202_0
              replace p202 := eq_true p202
              replace q202 := eq_true q202
              go_wp2
              go_ret2
              exact ⟨_, by first | rfl | (simp [errW_none, errW_some] <;> rfl) | (simp [*, errW_none, errW_some] <;> rfl), by first | exact Kd.R_nil _ _ _ _ _ | exact Kd.N_nil _ _ _ _ _ | exact Kd.V_nil _ _ _ _ _ | exact Kd.Q_nil _ _ _ _ _ | exact Kd.S_nil _ _ _ _ _, by repeat (first | (with_reducible first | exact HB.out | apply below_alloc | apply pw_below_drewN | apply below_drew1) | exact HB.out)⟩
            · rw [if_neg c6] at H
              have c6b0 : decide (65531 < ((rd_L2 l0 x15_1).length : Int)) = false := decide_eq_false c6
              have c6b1 : decide (65531 < (rd_L2 l0 x15_1).length) = false := decide_eq_false (by omega)
              clear c6
              have H' := Aside0.mk H
              clear H
              have p202 : 0 ≤ (x15_1 : Int) := of_decide_eq_true (by first | (with_reducible assumption) | assumption)
              have q202 : x15_1 < (l0.length : Int) := of_decide_eq_true (by first | (with_reducible assumption) | assumption)
              obtain ⟨ad202, A202_0, c202_0, e202, hx202_0, hl202_0, hi202_0⟩ := at_L2 HR0.out x15_1 p202 q202
              cases e202
              replace hx202_0 := (HB.out.cell (World.block_lt_of_cell? w _ hx202_0)).trans hx202_0
              have HR202_0 := Aside0.mk hi202_0
              have HC202_0 := Aside0.mk hl202_0
              clear hi202_0 hl202_0
              replace p202 := eq_true p202
              replace q202 := eq_true q202
              go_wp2
              go_roundg k1
              case measure => have := HK1.out; omega
              case rel => exact ⟨(wrap64 (x15_1 + 1)), (by first | rfl | (simp; done) | (simp [*]; done)), H', ⟨by have := HK1.out; omega⟩, ⟨by repeat (first | (with_reducible first | exact HB.out | apply below_alloc | apply pw_below_drewN | apply below_drew1) | exact HB.out)⟩⟩
          · rw [if_neg c5] at H
            exact absurd H (by simp)
        · rw [if_neg c4] at H
          exact absurd H (by simp)
      · rw [if_neg c3] at H
        have c3b0 : decide (x15_1 < (l0.length : Int)) = false := decide_eq_false c3
        clear c3
        have H' := Aside0.mk H
        clear H
        go_wp2
        go_loopg [6, 25] k1 (fun kq v6 v25 w' => ∃ (x6_2 : List Int) (x25_2 : Int), v25 = .int .i64 x25_2 ∧ Aside0 (journal_pack.l1 kq a1 x6_2 l0 (l0.length : Int) x25_2 = some (r1, r2)) ∧ Aside0 (kq ≤ k1) ∧ Aside0 (Kd.R (Kd.int .u8) 5 w' w.heap.size (fun _ => True) v6 x6_2) ∧ Aside0 (Below w.heap.size w w'))
        case atStart => exact ⟨(([] : List Int)), (0), (by first | rfl | (simp; done) | (simp [*]; done)), H', ⟨Nat.le_refl _⟩, ⟨by first | exact Kd.R_nil _ _ _ _ _ | exact Kd.N_nil _ _ _ _ _ | exact Kd.V_nil _ _ _ _ _ | exact Kd.Q_nil _ _ _ _ _ | exact Kd.S_nil _ _ _ _ _⟩, ⟨by repeat (first | (with_reducible first | exact HB.out | apply below_alloc | apply pw_below_drewN | apply below_drew1) | exact HB.out)⟩⟩
        case round =>
          clear H'
          try clear c2
          try clear p2
          try clear q2
          try clear hx2
          try clear c3
          try clear c3b0
          try clear c4
          try clear c4b0
          try clear c5
          try clear c5b0
          try clear c6
          try clear c6b0
          try clear c6b1
          try clear p6
          try clear hx202_0
          try clear p2
          try clear p202
          try clear q202
          obtain ⟨x6_2, x25_2, rfl, HA, HK2, HO_6, HB⟩ := hrel
          cases gk with
          | zero => exact absurd HA.out (by simp [journal_pack.l1])
          | succ k2 =>
            have H := HA.out
            clear HA
            simp only [journal_pack.l1] at H
            by_cases c7 : x25_2 < (l0.length : Int)
            · rw [if_pos c7] at H
              have c7b0 : decide (x25_2 < (l0.length : Int)) = true := decide_eq_true c7
              clear c7
              by_cases c8 : 0 ≤ x25_2
              · rw [if_pos c8] at H
                have c8b0 : decide (0 ≤ x25_2) = true := decide_eq_true c8
                clear c8
                by_cases c9 : x25_2 < (l0.length : Int)
                · rw [if_pos c9] at H
                  have c9b0 : decide (x25_2 < (l0.length : Int)) = true := decide_eq_true c9
                  clear c9
                  by_cases c10 : (x6_2.length : Int) > a1
                  · rw [if_pos c10] at H
                    have c10b0 : decide (a1 < (x6_2.length : Int)) = true := decide_eq_true c10
                    clear c10
                    simp only [Option.some.injEq, Prod.mk.injEq] at H
                    obtain ⟨rfl, rfl⟩ := H
                    have p203 : 0 ≤ (x25_2 : Int) := of_decide_eq_true (by first | (with_reducible assumption) | assumption)
                    have q203 : x25_2 < (l0.length : Int) := of_decide_eq_true (by first | (with_reducible assumption) | assumption)
                    obtain ⟨ad203, A203_0, c203_0, e203, hx203_0, hl203_0, hi203_0⟩ := at_L2 HR0.out x25_2 p203 q203
                    cases e203
                    replace hx203_0 := (HB.out.cell (World.block_lt_of_cell? w _ hx203_0)).trans hx203_0
                    have HR203_0 := Aside0.mk hi203_0
                    have HC203_0 := Aside0.mk hl203_0
                    clear hi203_0 hl203_0
                    replace p203 := eq_true p203
                    replace q203 := eq_true q203
                    obtain ⟨Ao11, co11, eo11⟩ := Kd.R_slice HO_6.out
                    subst eo11
                    go_wp2
                    go_ret2
                    exact ⟨_, by first | rfl | (simp [errW_none, errW_some] <;> rfl) | (simp [*, errW_none, errW_some] <;> rfl), by first | exact Kd.R_nil _ _ _ _ _ | exact Kd.N_nil _ _ _ _ _ | exact Kd.V_nil _ _ _ _ _ | exact Kd.Q_nil _ _ _ _ _ | exact Kd.S_nil _ _ _ _ _, by repeat (first | (with_reducible first | exact HB.out | apply below_alloc | apply pw_below_drewN | apply below_drew1) | exact HB.out)⟩
                  · rw [if_neg c10] at H
                    have c10b0 : decide (a1 < (x6_2.length : Int)) = false := decide_eq_false c10
                    clear c10
                    replace H := Option.bind_eq_some_iff.mp H
                    obtain ⟨t204, A120, H⟩ := H
                    replace H : ((codec_Pack.f k2 (([t204] : List (List Int)))).bind fun bt210 => (if bt210.2 = 0 then (if x6_2.length + bt210.1.length < 140737488355328 then (journal_pack.l1 k2 a1 (x6_2 ++ bt210.1) l0 (l0.length : Int) (wrap64 (x25_2 + 1))) else (none)) else (some (([] : List Int), bt210.2)))) = some (r1, r2) := H
                    have A12 := Aside0.mk A120
                    clear A120
                    obtain ⟨y207, hy207⟩ : ∃ y_ : List (List Int), y_ = (([t204] : List (List Int))) := ⟨_, rfl⟩
                    replace H : ((codec_Pack.f k2 y207).bind fun bt210 => (if bt210.2 = 0 then (if x6_2.length + bt210.1.length < 140737488355328 then (journal_pack.l1 k2 a1 (x6_2 ++ bt210.1) l0 (l0.length : Int) (wrap64 (x25_2 + 1))) else (none)) else (some (([] : List Int), bt210.2)))) = some (r1, r2) := by first | (rw [hy207]; with_reducible exact H) | (have H2_ := (Option.bind_some _ _).symm.trans H; rw [hy207]; with_reducible exact H2_) | (have H2_ := (Option.bind_some _ _).symm.trans H; with_reducible exact H2_) | with_reducible exact H | (rw [hy207]; exact H) | exact H
                    have Ny207 := Aside0.mk hy207
                    clear hy207
                    replace H := Option.bind_eq_some_iff.mp H
                    obtain ⟨⟨t210, t211⟩, A130, H⟩ := H
                    replace H : (if t211 = 0 then (if x6_2.length + t210.length < 140737488355328 then (journal_pack.l1 k2 a1 (x6_2 ++ t210) l0 (l0.length : Int) (wrap64 (x25_2 + 1))) else (none)) else (some (([] : List Int), t211))) = some (r1, r2) := H
                    have A13 := Aside0.mk A130
                    clear A130
                    by_cases c14 : t211 = 0
                    · rw [if_pos c14] at H
                      have c14b0 : (t211 == 0) = true := beq_iff_eq.mpr c14
                      have c14b1 : (t211 != 0) = false := bne_eq_false_iff_eq.mpr c14
                      clear c14
                      by_cases c15 : x6_2.length + t210.length < 140737488355328
                      · rw [if_pos c15] at H
                        have LMc15 := Aside0.mk c15
                        clear c15
                        obtain ⟨y214, hy214⟩ : ∃ y_ : List Int, y_ = (x6_2 ++ t210) := ⟨_, rfl⟩
                        replace H : (journal_pack.l1 k2 a1 y214 l0 (l0.length : Int) (wrap64 (x25_2 + 1))) = some (r1, r2) := by first | (rw [hy214]; with_reducible exact H) | (have H2_ := (Option.bind_some _ _).symm.trans H; rw [hy214]; with_reducible exact H2_) | (have H2_ := (Option.bind_some _ _).symm.trans H; with_reducible exact H2_) | with_reducible exact H | (rw [hy214]; exact H) | exact H
                        have Ny214 := Aside0.mk hy214
                        clear hy214
                        have H' := Aside0.mk H
                        clear H
                        have p203 : 0 ≤ (x25_2 : Int) := of_decide_eq_true (by first | (with_reducible assumption) | assumption)
                        have q203 : x25_2 < (l0.length : Int) := of_decide_eq_true (by first | (with_reducible assumption) | assumption)
                        obtain ⟨ad203, A203_0, c203_0, e203, hx203_0, hl203_0, hi203_0⟩ := at_L2 HR0.out x25_2 p203 q203
                        cases e203
                        replace hx203_0 := (HB.out.cell (World.block_lt_of_cell? w _ hx203_0)).trans hx203_0
                        have HR203_0 := Aside0.mk hi203_0
                        have HC203_0 := Aside0.mk hl203_0
                        clear hi203_0 hl203_0
                        replace p203 := eq_true p203
                        replace q203 := eq_true q203
                        obtain ⟨Ao16, co16, eo16⟩ := Kd.R_slice HO_6.out
                        subst eo16
                        go_wp2_with (first | ((with_reducible refine gate_callee (f := 92) rfl ?_); refine goesL_ (some 35) rfl rfl Try.func92 (by kernel_rfl) rfl #[.slice A203_0 (rd_L2 l0 x25_2).length c203_0] rfl (by (try simp only [List.map_toArray, List.map_cons, List.map_nil]); first | done | rfl | (simp only [List.length_drop, List.length_take]; rfl)) ?_; (with_reducible refine (sum_Seal.calls k2 _ _ (rd_L2 l0 x25_2) t204 _ ?side1 ?side2 A12.out).mono ?_); (case side1 => repeat (first | exact (Kd.C_below HR203_0.out HB.out) | (with_reducible refine Kd.C_alloc ?_ _) | (with_reducible refine Kd.C_drewN ?_ _) | (with_reducible refine Kd.C_drew ?_))); (case side2 => exact HC203_0.out); rintro e w17 ⟨v205, rfl, ho0, hb⟩; refine ⟨_, rfl, ?_⟩; have n0_ := Aside0.mk (Kd.R_elder' (by (with_reducible repeat (first | apply Kd.R_alloc | apply Kd.R_drewN | apply Kd.R_drew)); exact HO_6.out) (Kd.R_base ho0) hb); have n1_ := Aside0.mk (Kd.R_lower (Kd.R_new' ho0 (Kd.R_lt (by (with_reducible repeat (first | apply Kd.R_alloc | apply Kd.R_drewN | apply Kd.R_drew)); exact HO_6.out))) (below_size (by repeat (first | (with_reducible first | exact HB.out | apply below_alloc | apply pw_below_drewN | apply below_drew1) | exact HB.out)))); have n2_ := Aside0.mk (below_step (by repeat (first | (with_reducible first | exact HB.out | apply below_alloc | apply pw_below_drewN | apply below_drew1) | exact HB.out)) hb); clear HO_6; clear HB; have HO_6 := n0_; have HO206 := n1_; have HB := n2_; clear n0_ n1_ n2_; (try clear hb); (try clear hb2); (try clear hk); (try clear hi); (try clear ho0); obtain ⟨Ao18, co18, eo18⟩ := Kd.R_slice HO206.out; subst eo18) | ((with_reducible refine gate_dst (N := 36) rfl ?_); refine Kd.N_lit (Kd.slice 5 (Kd.int .u8)) _ 33 ?hg (N' := 36) ?hd (xs := ([t204] : List (List Int))) (inner := [.slice Ao18 t204.length co18]) (ok := (fun k_ => some k_ ≠ (.slice Ao16 x6_2.length co16 : Value).ownBlock)) (okp := (fun k_ => some k_ ≠ (.slice Ao16 x6_2.length co16 : Value).ownBlock)) ?hr ?hp (fun _ hk => hk) ((show ∀ k_, w17.heap.size ≤ k_ → (fun k_ => some k_ ≠ (.slice Ao16 x6_2.length co16 : Value).ownBlock) k_ from fun k_ hk => Kd.fresh' (Kd.R_lt (by (with_reducible repeat (first | apply Kd.R_alloc | apply Kd.R_drewN | apply Kd.R_drew)); exact HO_6.out)) k_ hk) _ (Nat.le_refl _)) (Below.refl _ _) (Nat.le_refl _) (by simp) ?_; (case hd => rfl); (case hg => rfl); (case hr => first | (go_simp; done) | (go_simp; rfl)); (case hp => exact (Reps.one (show Kd.FK (Kd.slice 5 (Kd.int .u8)) _ _ t204 [.slice Ao18 t204.length co18] from (Kd.FK_slice_mk (Kd.R_reads' (Kd.R_mono (ok' := (fun k_ => some k_ ≠ (.slice Ao16 x6_2.length co16 : Value).ownBlock)) (HO206.out) (fun k_ hk => hk.2))).2.1 (Kd.R_F (Kd.R_mono (ok' := (fun k_ => some k_ ≠ (.slice Ao16 x6_2.length co16 : Value).ownBlock)) (HO206.out) (fun k_ hk => hk.2))))) (Reps.none _ _))); intro v208 w19 ho20 hb hg_ hnew_; clear hg_ hnew_; (first | rw [← Ny207.out] at ho20 | (simp only [Int.reduceToNat] at ho20; rw [← Ny207.out] at ho20)); have n0_ := Aside0.mk (Kd.R_below (by (with_reducible repeat (first | apply Kd.R_alloc | apply Kd.R_drewN | apply Kd.R_drew)); exact HO_6.out) hb); have n1_ := Aside0.mk (Kd.N_lower ho20 (below_size (by repeat (first | (with_reducible first | exact HB.out | apply below_alloc | apply pw_below_drewN | apply below_drew1) | exact HB.out)))); have n2_ := Aside0.mk (below_step (by repeat (first | (with_reducible first | exact HB.out | apply below_alloc | apply pw_below_drewN | apply below_drew1) | exact HB.out)) hb); clear HO_6; clear HB; clear HO206; have HO_6 := n0_; have HO209 := n1_; have HB := n2_; clear n0_ n1_ n2_; clear hb ho20; obtain ⟨Ao21, co21, eo21⟩ := Kd.N_slice HO209.out; subst eo21) | ((with_reducible refine gate_callee (f := 91) rfl ?_); refine goesL_ (some 37) rfl rfl Try.func91 (by kernel_rfl) rfl #[.slice Ao21 y207.length co21] rfl (by (try simp only [List.map_toArray, List.map_cons, List.map_nil]); first | done | rfl | (simp only [List.length_drop, List.length_take]; rfl)) ?_; (with_reducible refine (codec_Pack.calls k2 _ _ y207 t210 t211 _ ?side1 ?side2 A13.out).mono ?_); (case side1 => repeat (first | exact (Kd.N_reads' HO209.out).2.2 | (with_reducible refine Kd.C_alloc ?_ _) | (with_reducible refine Kd.C_drewN ?_ _) | (with_reducible refine Kd.C_drew ?_))); (case side2 => exact (Kd.N_reads' HO209.out).2.1); rintro e w22 ⟨v212, rfl, ho0, hb⟩; refine ⟨_, rfl, ?_⟩; have n0_ := Aside0.mk (Kd.R_elder' (by (with_reducible repeat (first | apply Kd.R_alloc | apply Kd.R_drewN | apply Kd.R_drew)); exact HO_6.out) (Kd.R_base ho0) hb); have n1_ := Aside0.mk (Kd.N_elder' (by (with_reducible repeat (first | apply Kd.N_alloc | apply Kd.N_drewN | apply Kd.N_drew)); exact HO209.out) (Kd.R_base ho0) hb); have n2_ := Aside0.mk (Kd.R_lower (Kd.R_new' ho0 (Kd.R_lt (by (with_reducible repeat (first | apply Kd.R_alloc | apply Kd.R_drewN | apply Kd.R_drew)); exact HO_6.out))) (below_size (by repeat (first | (with_reducible first | exact HB.out | apply below_alloc | apply pw_below_drewN | apply below_drew1) | exact HB.out)))); have n3_ := Aside0.mk (below_step (by repeat (first | (with_reducible first | exact HB.out | apply below_alloc | apply pw_below_drewN | apply below_drew1) | exact HB.out)) hb); clear HO_6; clear HO209; clear HB; have HO_6 := n0_; have HO209 := n1_; have HO213 := n2_; have HB := n3_; clear n0_ n1_ n2_ n3_; (try clear hb); (try clear hb2); (try clear hk); (try clear hi); (try clear ho0); obtain ⟨Ao24, co24, eo24⟩ := Kd.R_slice HO213.out; subst eo24) | ((with_reducible refine gate_builtin (b := .append) (xs := #[.tmp 43, .tmp 44]) rfl ?_); at_builtin; refine Kd.R_append_rows (Kd.int .u8) (w0 := w) w.heap.size rfl (.tmp 43) (.tmp 44) 33 5 (.int .u8 0) 1 rfl Try.underlying33 info5 rfl (by decide) (by omega) (.slice Ao16 x6_2.length co16) x6_2 t210 _ _ _ (fun k_ => some k_ ≠ (.slice Ao24 t210.length co24 : Value).ownBlock) (fun _ => False) rfl rfl ?aO ?aR (fun _ _ h => h) (fun _ h => h.elim) ?aF ?aB ?aS ?aL ?_; (case aR => repeat (first | exact (Kd.R_reads' HO213.out).2.2 | (with_reducible refine Kd.C_alloc ?_ _) | (with_reducible refine Kd.C_drewN ?_ _) | (with_reducible refine Kd.C_drew ?_))); (case aB => exact (by repeat (first | (with_reducible first | exact HB.out | apply below_alloc | apply pw_below_drewN | apply below_drew1) | exact HB.out))); (case aF => exact (fun k_ hk => Kd.fresh' (Kd.R_lt (by (with_reducible repeat (first | apply Kd.R_alloc | apply Kd.R_drewN | apply Kd.R_drew)); exact HO213.out)) k_ hk)); (case aO => exact (by (with_reducible repeat (first | apply Kd.R_alloc | apply Kd.R_drewN | apply Kd.R_drew)); exact Kd.R_mono HO_6.out (fun _ hk => hk.2))); (case aS => exact (below_size (by repeat (first | (with_reducible first | exact HB.out | apply below_alloc | apply pw_below_drewN | apply below_drew1) | exact HB.out)))); (case aL => have := LMc15.out; omega); intro v215 w23 ho hb hg hat; rw [← Ny214.out] at ho; have n0_ := Aside0.mk (Kd.N_afterv (ok := (fun k_ => some k_ ≠ (.slice Ao24 t210.length co24 : Value).ownBlock)) (by (with_reducible repeat (first | apply Kd.N_alloc | apply Kd.N_drewN | apply Kd.N_drew)); exact Kd.N_mono HO209.out (fun _ hk => ⟨hk.2, hk.1⟩)) hg hat); have n1_ := Aside0.mk (Kd.R_after (ok := (fun _ => True)) (by (with_reducible repeat (first | apply Kd.R_alloc | apply Kd.R_drewN | apply Kd.R_drew)); exact HO213.out) hg hat); have n2_ := Aside0.mk (hb); have n3_ := Aside0.mk (ho); clear HO209; clear HO213; clear HB; clear HO_6; have HO209 := n0_; have HO213 := n1_; have HB := n2_; have HO216 := n3_; clear n0_ n1_ n2_ n3_; clear ho hb hg hat))
                        go_roundg k2
                        case measure => have := HK1.out; have := HK2.out; omega
                        case rel => exact ⟨(y214), (wrap64 (x25_2 + 1)), (by first | rfl | (simp; done) | (simp [*]; done)), H', ⟨by have := HK1.out; have := HK2.out; omega⟩, ⟨by (with_reducible repeat (first | apply Kd.R_alloc | apply Kd.R_drewN | apply Kd.R_drew)); exact Kd.R_mono HO216.out (fun _ hk => trivial)⟩, ⟨by repeat (first | (with_reducible first | exact HB.out | apply below_alloc | apply pw_below_drewN | apply below_drew1) | exact HB.out)⟩⟩
                      · rw [if_neg c15] at H
                        exact absurd H (by simp)
                    · rw [if_neg c14] at H
                      have c14b0 : (t211 == 0) = false := beq_eq_false_iff_ne.mpr c14
                      have c14b1 : (t211 != 0) = true := bne_iff_ne.mpr c14
                      simp only [Option.some.injEq, Prod.mk.injEq] at H
                      obtain ⟨rfl, rfl⟩ := H
                      have p203 : 0 ≤ (x25_2 : Int) := of_decide_eq_true (by first | (with_reducible assumption) | assumption)
                      have q203 : x25_2 < (l0.length : Int) := of_decide_eq_true (by first | (with_reducible assumption) | assumption)
                      obtain ⟨ad203, A203_0, c203_0, e203, hx203_0, hl203_0, hi203_0⟩ := at_L2 HR0.out x25_2 p203 q203
                      cases e203
                      replace hx203_0 := (HB.out.cell (World.block_lt_of_cell? w _ hx203_0)).trans hx203_0
                      have HR203_0 := Aside0.mk hi203_0
                      have HC203_0 := Aside0.mk hl203_0
                      clear hi203_0 hl203_0
                      replace p203 := eq_true p203
                      replace q203 := eq_true q203
                      obtain ⟨Ao25, co25, eo25⟩ := Kd.R_slice HO_6.out
                      subst eo25
                      go_wp2_with (first | ((with_reducible refine gate_callee (f := 92) rfl ?_); refine goesL_ (some 35) rfl rfl Try.func92 (by kernel_rfl) rfl #[.slice A203_0 (rd_L2 l0 x25_2).length c203_0] rfl (by (try simp only [List.map_toArray, List.map_cons, List.map_nil]); first | done | rfl | (simp only [List.length_drop, List.length_take]; rfl)) ?_; (with_reducible refine (sum_Seal.calls k2 _ _ (rd_L2 l0 x25_2) t204 _ ?side1 ?side2 A12.out).mono ?_); (case side1 => repeat (first | exact (Kd.C_below HR203_0.out HB.out) | (with_reducible refine Kd.C_alloc ?_ _) | (with_reducible refine Kd.C_drewN ?_ _) | (with_reducible refine Kd.C_drew ?_))); (case side2 => exact HC203_0.out); rintro e w26 ⟨v205, rfl, ho0, hb⟩; refine ⟨_, rfl, ?_⟩; have n0_ := Aside0.mk (Kd.R_elder' (by (with_reducible repeat (first | apply Kd.R_alloc | apply Kd.R_drewN | apply Kd.R_drew)); exact HO_6.out) (Kd.R_base ho0) hb); have n1_ := Aside0.mk (Kd.R_lower (Kd.R_new' ho0 (Kd.R_lt (by (with_reducible repeat (first | apply Kd.R_alloc | apply Kd.R_drewN | apply Kd.R_drew)); exact HO_6.out))) (below_size (by repeat (first | (with_reducible first | exact HB.out | apply below_alloc | apply pw_below_drewN | apply below_drew1) | exact HB.out)))); have n2_ := Aside0.mk (below_step (by repeat (first | (with_reducible first | exact HB.out | apply below_alloc | apply pw_below_drewN | apply below_drew1) | exact HB.out)) hb); clear HO_6; clear HB; have HO_6 := n0_; have HO206 := n1_; have HB := n2_; clear n0_ n1_ n2_; (try clear hb); (try clear hb2); (try clear hk); (try clear hi); (try clear ho0); obtain ⟨Ao27, co27, eo27⟩ := Kd.R_slice HO206.out; subst eo27) | ((with_reducible refine gate_dst (N := 36) rfl ?_); refine Kd.N_lit (Kd.slice 5 (Kd.int .u8)) _ 33 ?hg (N' := 36) ?hd (xs := ([t204] : List (List Int))) (inner := [.slice Ao27 t204.length co27]) (ok := (fun k_ => some k_ ≠ (.slice Ao25 x6_2.length co25 : Value).ownBlock)) (okp := (fun k_ => some k_ ≠ (.slice Ao25 x6_2.length co25 : Value).ownBlock)) ?hr ?hp (fun _ hk => hk) ((show ∀ k_, w26.heap.size ≤ k_ → (fun k_ => some k_ ≠ (.slice Ao25 x6_2.length co25 : Value).ownBlock) k_ from fun k_ hk => Kd.fresh' (Kd.R_lt (by (with_reducible repeat (first | apply Kd.R_alloc | apply Kd.R_drewN | apply Kd.R_drew)); exact HO_6.out)) k_ hk) _ (Nat.le_refl _)) (Below.refl _ _) (Nat.le_refl _) (by simp) ?_; (case hd => rfl); (case hg => rfl); (case hr => first | (go_simp; done) | (go_simp; rfl)); (case hp => exact (Reps.one (show Kd.FK (Kd.slice 5 (Kd.int .u8)) _ _ t204 [.slice Ao27 t204.length co27] from (Kd.FK_slice_mk (Kd.R_reads' (Kd.R_mono (ok' := (fun k_ => some k_ ≠ (.slice Ao25 x6_2.length co25 : Value).ownBlock)) (HO206.out) (fun k_ hk => hk.2))).2.1 (Kd.R_F (Kd.R_mono (ok' := (fun k_ => some k_ ≠ (.slice Ao25 x6_2.length co25 : Value).ownBlock)) (HO206.out) (fun k_ hk => hk.2))))) (Reps.none _ _))); intro v208 w28 ho29 hb hg_ hnew_; clear hg_ hnew_; (first | rw [← Ny207.out] at ho29 | (simp only [Int.reduceToNat] at ho29; rw [← Ny207.out] at ho29)); have n0_ := Aside0.mk (Kd.R_below (by (with_reducible repeat (first | apply Kd.R_alloc | apply Kd.R_drewN | apply Kd.R_drew)); exact HO_6.out) hb); have n1_ := Aside0.mk (Kd.N_lower ho29 (below_size (by repeat (first | (with_reducible first | exact HB.out | apply below_alloc | apply pw_below_drewN | apply below_drew1) | exact HB.out)))); have n2_ := Aside0.mk (below_step (by repeat (first | (with_reducible first | exact HB.out | apply below_alloc | apply pw_below_drewN | apply below_drew1) | exact HB.out)) hb); clear HO_6; clear HB; clear HO206; have HO_6 := n0_; have HO209 := n1_; have HB := n2_; clear n0_ n1_ n2_; clear hb ho29; obtain ⟨Ao30, co30, eo30⟩ := Kd.N_slice HO209.out; subst eo30) | ((with_reducible refine gate_callee (f := 91) rfl ?_); refine goesL_ (some 37) rfl rfl Try.func91 (by kernel_rfl) rfl #[.slice Ao30 y207.length co30] rfl (by (try simp only [List.map_toArray, List.map_cons, List.map_nil]); first | done | rfl | (simp only [List.length_drop, List.length_take]; rfl)) ?_; (with_reducible refine (codec_Pack.calls k2 _ _ y207 t210 t211 _ ?side1 ?side2 A13.out).mono ?_); (case side1 => repeat (first | exact (Kd.N_reads' HO209.out).2.2 | (with_reducible refine Kd.C_alloc ?_ _) | (with_reducible refine Kd.C_drewN ?_ _) | (with_reducible refine Kd.C_drew ?_))); (case side2 => exact (Kd.N_reads' HO209.out).2.1); rintro e w31 ⟨v212, rfl, ho0, hb⟩; refine ⟨_, rfl, ?_⟩; have n0_ := Aside0.mk (Kd.R_elder' (by (with_reducible repeat (first | apply Kd.R_alloc | apply Kd.R_drewN | apply Kd.R_drew)); exact HO_6.out) (Kd.R_base ho0) hb); have n1_ := Aside0.mk (Kd.N_elder' (by (with_reducible repeat (first | apply Kd.N_alloc | apply Kd.N_drewN | apply Kd.N_drew)); exact HO209.out) (Kd.R_base ho0) hb); have n2_ := Aside0.mk (Kd.R_lower (Kd.R_new' ho0 (Kd.R_lt (by (with_reducible repeat (first | apply Kd.R_alloc | apply Kd.R_drewN | apply Kd.R_drew)); exact HO_6.out))) (below_size (by repeat (first | (with_reducible first | exact HB.out | apply below_alloc | apply pw_below_drewN | apply below_drew1) | exact HB.out)))); have n3_ := Aside0.mk (below_step (by repeat (first | (with_reducible first | exact HB.out | apply below_alloc | apply pw_below_drewN | apply below_drew1) | exact HB.out)) hb); clear HO_6; clear HO209; clear HB; have HO_6 := n0_; have HO209 := n1_; have HO213 := n2_; have HB := n3_; clear n0_ n1_ n2_ n3_; (try clear hb); (try clear hb2); (try clear hk); (try clear hi); (try clear ho0)))
                      go_ret2
                      exact ⟨_, by first | rfl | (simp [errW_none, errW_some] <;> rfl) | (simp [*, errW_none, errW_some] <;> rfl), by first | exact Kd.R_nil _ _ _ _ _ | exact Kd.N_nil _ _ _ _ _ | exact Kd.V_nil _ _ _ _ _ | exact Kd.Q_nil _ _ _ _ _ | exact Kd.S_nil _ _ _ _ _, by repeat (first | (with_reducible first | exact HB.out | apply below_alloc | apply pw_below_drewN | apply below_drew1) | exact HB.out)⟩
                · rw [if_neg c9] at H
                  exact absurd H (by simp)
              · rw [if_neg c8] at H
                exact absurd H (by simp)
            · rw [if_neg c7] at H
              have c7b0 : decide (x25_2 < (l0.length : Int)) = false := decide_eq_false c7
              clear c7
              simp only [Option.some.injEq, Prod.mk.injEq] at H
              obtain ⟨rfl, rfl⟩ := H
              go_wp2
              go_ret2
              exact ⟨_, by first | rfl | (simp [errW_none, errW_some] <;> rfl) | (simp [*, errW_none, errW_some] <;> rfl), by (with_reducible repeat (first | apply Kd.R_alloc | apply Kd.R_drewN | apply Kd.R_drew)); exact HO_6.out, by repeat (first | (with_reducible first | exact HB.out | apply below_alloc | apply pw_below_drewN | apply below_drew1) | exact HB.out)⟩

-- NOT PRINTED: function 62 (journal_Journal_lay)

-- NOT PRINTED: function 25 (journal_Journal_Add)

-- NOT PRINTED: function 27 (journal_Journal_Room)

-- NOT PRINTED: function 28 (journal_Journal_Len)

-- NOT PRINTED: function 23 (wardshiplaw04_lives)

end Go.Proofs.Yteggldplmbegfaa.PJournalPlays
