/- journal.right, walked: the tally of a sector's bytes. -/
import Derived.Test.YteggldplmbegfaaJnPack
import Derived.Test.YteggldplmbegfaaB2
import Derived.BigQuiet
import Derived.Deep.QuietTactic
set_option linter.unusedVariables false
set_option linter.unusedSimpArgs false
namespace Go.Proofs.Yteggldplmbegfaa
open Go.RowKit

theorem cut_row {w : World} {g o n c : Nat} {T : TypeId} {l : List UInt8} (h : RowIs w (.slice (some ⟨g, o, none⟩) n c) T 1 n (bv l)) (hl : l.length = n) (i j k : Nat) (hij : i < j) (hj : j ≤ n) (hk : j - i = k) :
    RowIs w (.slice (some ⟨g, o + i, none⟩) k (c - i)) T 1 (cutB l i j).length (bv (cutB l i j)) := by
  have h2 := h.sliced i j c (by omega) hj (Nat.le_trans hj h.le) (Nat.le_refl _)
  rw [bv_cut] at h2
  unfold Go.sliced at h2
  have hc := h.le
  rw [if_neg (by omega)] at h2
  simp only [Option.map_some, addr_add, hk, Nat.mul_one] at h2
  rw [cutB_len l i j (by omega), hk]
  exact h2
theorem results_cell {fn : Func} {p : Tmp} {ty : TypeId} (h : fn.results = #[.cell p ty]) (tmps : Array Value) (P : Program) (w : World) :
    (results fn tmps).run P w = ((asAddr (tmps.getD p undef)).run P w).andThen fun a w₁ => (loadVar ty a).run P w₁ := by
  simp only [results, h]
  simp [Sem.run_bind, Result.andThen]
theorem size115 : (Try.prog.info? 115).map (·.size) = some 3 := by kernel_rfl
theorem load_tally {w : World} {g : Nat} {fr : Nat × Nat} (a b c : Value) (h : w.heap[g]? = some (.cells #[a, b, c] 115 fr)) :
    (loadVar 115 ⟨g, 0, none⟩).run Try.prog w = .ok (.agg #[a, b, c]) w :=
  run_loadVar_mid (P := Try.prog) w g 0 115 115 _ fr _ [a, b, c] h Try.underlying115 rfl size115 (fun j v hj => by rw [Nat.zero_add]; simpa using hj)
theorem qnum {w : World} {v : Value} {T : TypeId} {l : List UInt8} (h : RowIs w v T 1 l.length (bv l)) (hl : l.length ≤ 8) (nq : Nat) :
    Calls Try.prog 87 #[v] (w.drewN nq) fun e w' => e = .returned (.int .u64 (num l)) ∧ ∃ n, w' = (w.drewN nq).drewN n :=
  wNumber (w.drewN nq) v T l (h.below (Fr.below_iff.1 ((Fr.refl w []).drewN nq))) hl
theorem cstr {w : World} {g o n c : Nat} {T : TypeId} {l : List UInt8} (h : RowIs w (.slice (some ⟨g, o, none⟩) n c) T 1 l.length (bv l)) (hl : l.length = n) (nq : Nat) :
    (Go.convert 33 9 (.slice (some ⟨g, o, none⟩) n c)).run Try.prog (w.drewN nq) = .ok (.string (str l)) (w.drewN nq) :=
  run_bytes_str (P := Try.prog) (w.drewN nq) 33 9 5 Try.underlying33 Try.underlying5 Try.underlying9 _ n c T l hl (by rw [← hl]; rw [← hl] at h; exact h.below (Fr.below_iff.1 ((Fr.refl w []).drewN nq)))
set_option maxRecDepth 20000 in
set_option maxHeartbeats 1000000 in
theorem jright_yes (w : World) (v : Value) (T : TypeId) (l : List UInt8) (h : RowIs w v T 1 256 (bv l)) (hl : l.length = 256) (room : Nat) (hroom : room ≤ 1000000000) (hr : rightB l room) :
    Calls Try.prog 57 #[v, .int .i64 room] w fun e w' => e = .returned (.agg #[.int .u64 (num (cutB l 8 16)), .int .i64 (num (cutB l 16 24)), .int .i64 (num (cutB l 24 32))]) ∧ Below w.heap.size w w' := by
  obtain ⟨A, c, rfl⟩ := h.shape
  obtain ⟨⟨g, o, s⟩, rfl⟩ := h.nonempty (by omega)
  obtain rfl : s = none := by
    rcases h.2 with ⟨h0, _⟩ | ⟨g', o', c', cur, fr, hv, _⟩
    · omega
    · simp only [Value.slice.injEq, Option.some.injEq, Addr.mk.injEq] at hv
      exact hv.1.2.2
  have hc := h.le
  have hc0 : ((256 : Nat) : Int) ≤ (c : Int) := by omega
  have hbox := heap_alloc_new w (.cells #[.int .u64 0, .int .i64 0, .int .i64 0] 115 (0, 0))
  have hgb := World.grownBy_alloc w (.cells #[.int .u64 0, .int .i64 0, .int .i64 0] 115 (0, 0)) none
  obtain ⟨w1, hw1⟩ : ∃ w1, w1 = w.alloc (.cells #[.int .u64 0, .int .i64 0, .int .i64 0] 115 (0, 0)) := ⟨_, rfl⟩
  rw [← hw1] at hbox hgb
  have B1 := Lib.hid ((Below.refl w.heap.size w).grown hgb (Nat.le_refl _) (by simp))
  have HBOX := Lib.hid hbox
  have h1 := h.below B1.out
  have l1 : (cutB l 8 16).length ≤ 8 := by rw [cutB_len _ _ _ (by omega)]; omega
  have l2 : (cutB l 16 24).length ≤ 8 := by rw [cutB_len _ _ _ (by omega)]; omega
  have l3 : (cutB l 24 32).length ≤ 8 := by rw [cutB_len _ _ _ (by omega)]; omega
  have q1 := qnum (cut_row h1 hl 8 16 8 (by omega) (by omega) rfl) l1
  have q2 := qnum (cut_row h1 hl 16 24 8 (by omega) (by omega) rfl) l2
  have q3 := qnum (cut_row h1 hl 24 32 8 (by omega) (by omega) rfl) l3
  clear hgb hbox
  have hA : (Try.prog.info? 115).map (·.size) = some 3 := by kernel_rfl
  go_enter Try.func57, Try.ntmps57
  go_wp2_with fail
  rw [← hw1]
  clear hw1
  have i1 : ¬ c = 8 := by omega
  have i2 : ¬ c = 16 := by omega
  have i3 : ¬ c = 24 := by omega
  go_quiet ((go_at_call 87; first | (with_reducible exact Calls.quiet_of (q1 _)) | (with_reducible exact Calls.quiet_of (q2 _)) | (with_reducible exact Calls.quiet_of (q3 _))))
  obtain ⟨w2, hw2⟩ : ∃ w2, w2 = w1.drewN nq := ⟨_, rfl⟩
  rw [← hw2]
  have B2 := Lib.hid (show Below w.heap.size w w2 by rw [hw2]; exact Fr.below_iff.1 ((Fr.below_iff.2 B1.out).drewN nq))
  have HB2 := Lib.hid (show w2.heap[w.heap.size]? = some (.cells #[.int .u64 0, .int .i64 0, .int .i64 0] 115 (0, 0)) by rw [hw2]; exact HBOX.out)
  have h2 := h.below B2.out
  clear hw2 q1 q2 q3 h1 HBOX B1
  have hc1 := cstr (cut_row h2 hl 0 8 8 (by omega) (by omega) rfl) (by rw [cutB_len _ _ _ (by omega)])
  have hc2 := cstr (cut_row h2 hl 32 40 8 (by omega) (by omega) rfl) (by rw [cutB_len _ _ _ (by omega)])
  have hc3 := cstr (cut_row h2 hl 16 32 16 (by omega) (by omega) rfl) (by rw [cutB_len _ _ _ (by omega)])
  have hc4 := cstr (cut_row h2 hl 40 56 16 (by omega) (by omega) rfl) (by rw [cutB_len _ _ _ (by omega)])
  have q4 := qnum (cut_row h2 hl 56 64 8 (by omega) (by omega) rfl) (by rw [cutB_len _ _ _ (by omega)]; omega)
  rw [Nat.add_zero, Nat.sub_zero] at hc1
  have j1 : ¬ c = 32 := by omega
  have j2 : ¬ c = 40 := by omega
  have j3 : ¬ c = 56 := by omega
  have hs8 : (str word8).toList = [119, 97, 114, 100, 115, 104, 105, 112] := by rw [ByteArray.toList_eq, str_toList]; rfl
  obtain ⟨N, hN⟩ : ∃ N, N = num (cutB l 8 16) := ⟨_, rfl⟩
  obtain ⟨S, hS⟩ : ∃ S, S = num (cutB l 16 24) := ⟨_, rfl⟩
  obtain ⟨U, hU⟩ : ∃ U, U = num (cutB l 24 32) := ⟨_, rfl⟩
  obtain ⟨t1, t2, t3, t4, t5, t6, t7, t8⟩ := hr
  rw [t1] at hc1
  rw [t2] at hc2
  rw [t3] at hc3
  rw [t4] at q4
  rw [← hN] at t5 t6 q4 ⊢
  rw [← hS] at t7 ⊢
  rw [← hU] at t8 ⊢
  have T5 : decide ((N : Int) < 1) = false := decide_eq_false (by omega)
  have T6 : decide ((4611686018427387904 : Int) < (N : Int)) = false := decide_eq_false (by omega)
  have T7 : decide ((1 : Int) < (S : Int)) = false := decide_eq_false (by omega)
  have T8 : decide (room < U) = false := decide_eq_false (by omega)
  have ew : IntKind.u64.wrap (room : Int) = (room : Int) := wraps_u64 _ (by omega) (by omega)
  have es : wrap64 (S : Int) = (S : Int) := by unfold wrap64; omega
  have eu : wrap64 (U : Int) = (U : Int) := by unfold wrap64; omega
  clear t1 t2 t3 t4 t5 t6 t7 t8
  have HN := Lib.hid hN
  have HS := Lib.hid hS
  have HU := Lib.hid hU
  clear hN hS hU l1 l2 l3
  go_wp2_with fail
  refine wp_region_quiet_lit (by kernel_rfl) (by kernel_rfl) ?_
  repeat (first | go_big_quiet_step ((go_at_call 87; exact Calls.quiet_of (q4 _))) | quiet_step ((go_at_call 87; exact Calls.quiet_of (q4 _))))
  refine wpQuiet_nil ?_
  rintro _ ⟨nq2, rfl⟩
  obtain ⟨w3, hw3⟩ : ∃ w3, w3 = w2.drewN nq2 := ⟨_, rfl⟩
  rw [← hw3]
  have B3 := Lib.hid (show Below w.heap.size w w3 by rw [hw3]; exact Fr.below_iff.1 ((Fr.below_iff.2 B2.out).drewN nq2))
  have HB3 := Lib.hid (show w3.heap[w.heap.size]? = some (.cells #[.int .u64 0, .int .i64 0, .int .i64 0] 115 (0, 0)) by rw [hw3]; exact HB2.out)
  clear hw3 HB2 B2 hc1 hc2 hc3 hc4 q4 h2 h
  go_wp2_with ((with_reducible show wpList _ _ _ (Oper.mk _ (.store 115 _ _) _ _ _ _ :: _) _ _); go_must (refine wpList_store_mid rfl rfl 115 (.tmp 4) (.tmp 67) rfl w.heap.size 0 rfl [.int .u64 N, .int .i64 S, .int .i64 U] rfl 115 _ HB3.out hA (by simp) (by simp [Value.oneCell']) ?_); intro w4 hn4 hg4 hs4)
  have HB4 := Lib.hid (show w4.heap[w.heap.size]? = some (.cells #[.int .u64 N, .int .i64 S, .int .i64 U] 115 (0, 0)) from hn4)
  have B4 := Lib.hid (B3.out.grown hg4 B3.out.size (fun k hk => by cases hk; exact Nat.le_refl _))
  clear hn4 hg4 hs4
  refine bodyPost_ret (v := .agg #[.int .u64 N, .int .i64 S, .int .i64 U]) ((results_cell rfl _ _ _).trans ?_) rfl ⟨?_, B4.out⟩
  · exact load_tally _ _ _ HB4.out
  · rw [HN.out, HS.out, HU.out]
theorem sb_w {a : List UInt8} (h : ¬ a = word8) : ((str a).toList == [119, 97, 114, 100, 115, 104, 105, 112]) = false := by rw [ByteArray.toList_eq, str_toList]; exact beq_false_of_ne h
theorem sb_l2 {a b : List UInt8} (h : ¬ a = b) : ((str a).toList == (str b).toList) = false := by rw [ByteArray.toList_eq, str_toList, ByteArray.toList_eq, str_toList]; exact beq_false_of_ne h
set_option maxRecDepth 20000 in
set_option maxHeartbeats 1000000 in
theorem jright_no1 (w : World) (v : Value) (T : TypeId) (l : List UInt8) (h : RowIs w v T 1 256 (bv l)) (hl : l.length = 256) (room : Nat) (hroom : room ≤ 1000000000)  (t1 : ¬ cutB l 0 8 = word8) :
    Calls Try.prog 57 #[v, .int .i64 room] w fun e w' => e = .returned (.agg #[.int .u64 0, .int .i64 0, .int .i64 0]) ∧ Below w.heap.size w w' := by
  obtain ⟨A, c, rfl⟩ := h.shape
  obtain ⟨⟨g, o, s⟩, rfl⟩ := h.nonempty (by omega)
  obtain rfl : s = none := by
    rcases h.2 with ⟨h0, _⟩ | ⟨g', o', c', cur, fr, hv, _⟩
    · omega
    · simp only [Value.slice.injEq, Option.some.injEq, Addr.mk.injEq] at hv
      exact hv.1.2.2
  have hc := h.le
  have hc0 : ((256 : Nat) : Int) ≤ (c : Int) := by omega
  have hbox := heap_alloc_new w (.cells #[.int .u64 0, .int .i64 0, .int .i64 0] 115 (0, 0))
  have hgb := World.grownBy_alloc w (.cells #[.int .u64 0, .int .i64 0, .int .i64 0] 115 (0, 0)) none
  obtain ⟨w1, hw1⟩ : ∃ w1, w1 = w.alloc (.cells #[.int .u64 0, .int .i64 0, .int .i64 0] 115 (0, 0)) := ⟨_, rfl⟩
  rw [← hw1] at hbox hgb
  have B1 := Lib.hid ((Below.refl w.heap.size w).grown hgb (Nat.le_refl _) (by simp))
  have HBOX := Lib.hid hbox
  have h1 := h.below B1.out
  have l1 : (cutB l 8 16).length ≤ 8 := by rw [cutB_len _ _ _ (by omega)]; omega
  have l2 : (cutB l 16 24).length ≤ 8 := by rw [cutB_len _ _ _ (by omega)]; omega
  have l3 : (cutB l 24 32).length ≤ 8 := by rw [cutB_len _ _ _ (by omega)]; omega
  have q1 := qnum (cut_row h1 hl 8 16 8 (by omega) (by omega) rfl) l1
  have q2 := qnum (cut_row h1 hl 16 24 8 (by omega) (by omega) rfl) l2
  have q3 := qnum (cut_row h1 hl 24 32 8 (by omega) (by omega) rfl) l3
  clear hgb hbox
  have hA : (Try.prog.info? 115).map (·.size) = some 3 := by kernel_rfl
  go_enter Try.func57, Try.ntmps57
  go_wp2_with fail
  rw [← hw1]
  clear hw1
  have i1 : ¬ c = 8 := by omega
  have i2 : ¬ c = 16 := by omega
  have i3 : ¬ c = 24 := by omega
  go_quiet ((go_at_call 87; first | (with_reducible exact Calls.quiet_of (q1 _)) | (with_reducible exact Calls.quiet_of (q2 _)) | (with_reducible exact Calls.quiet_of (q3 _))))
  obtain ⟨w2, hw2⟩ : ∃ w2, w2 = w1.drewN nq := ⟨_, rfl⟩
  rw [← hw2]
  have B2 := Lib.hid (show Below w.heap.size w w2 by rw [hw2]; exact Fr.below_iff.1 ((Fr.below_iff.2 B1.out).drewN nq))
  have HB2 := Lib.hid (show w2.heap[w.heap.size]? = some (.cells #[.int .u64 0, .int .i64 0, .int .i64 0] 115 (0, 0)) by rw [hw2]; exact HBOX.out)
  have h2 := h.below B2.out
  clear hw2 q1 q2 q3 h1 HBOX B1
  have hc1 := cstr (cut_row h2 hl 0 8 8 (by omega) (by omega) rfl) (by rw [cutB_len _ _ _ (by omega)])
  have hc2 := cstr (cut_row h2 hl 32 40 8 (by omega) (by omega) rfl) (by rw [cutB_len _ _ _ (by omega)])
  have hc3 := cstr (cut_row h2 hl 16 32 16 (by omega) (by omega) rfl) (by rw [cutB_len _ _ _ (by omega)])
  have hc4 := cstr (cut_row h2 hl 40 56 16 (by omega) (by omega) rfl) (by rw [cutB_len _ _ _ (by omega)])
  have q4 := qnum (cut_row h2 hl 56 64 8 (by omega) (by omega) rfl) (by rw [cutB_len _ _ _ (by omega)]; omega)
  rw [Nat.add_zero, Nat.sub_zero] at hc1
  have j1 : ¬ c = 32 := by omega
  have j2 : ¬ c = 40 := by omega
  have j3 : ¬ c = 56 := by omega
  have hs8 : (str word8).toList = [119, 97, 114, 100, 115, 104, 105, 112] := by rw [ByteArray.toList_eq, str_toList]; rfl
  obtain ⟨N, hN⟩ : ∃ N, N = num (cutB l 8 16) := ⟨_, rfl⟩
  obtain ⟨S, hS⟩ : ∃ S, S = num (cutB l 16 24) := ⟨_, rfl⟩
  obtain ⟨U, hU⟩ : ∃ U, U = num (cutB l 24 32) := ⟨_, rfl⟩
  rw [← hN, ← hS, ← hU]
  have F1 : ((str (cutB l 0 8)).toList == [119, 97, 114, 100, 115, 104, 105, 112]) = false := sb_w t1
  have ew : IntKind.u64.wrap (room : Int) = (room : Int) := wraps_u64 _ (by omega) (by omega)
  clear t1
  have HN := Lib.hid hN
  have HS := Lib.hid hS
  have HU := Lib.hid hU
  clear hN hS hU l1 l2 l3
  go_wp2_with fail
  refine wp_region_quiet_lit (by kernel_rfl) (by kernel_rfl) ?_
  repeat (first | go_big_quiet_step ((go_at_call 87; exact Calls.quiet_of (q4 _))) | quiet_step ((go_at_call 87; exact Calls.quiet_of (q4 _))))
  refine wpQuiet_nil ?_
  rintro _ ⟨nq2, rfl⟩
  obtain ⟨w3, hw3⟩ : ∃ w3, w3 = w2.drewN nq2 := ⟨_, rfl⟩
  rw [← hw3]
  have B3 := Lib.hid (show Below w.heap.size w w3 by rw [hw3]; exact Fr.below_iff.1 ((Fr.below_iff.2 B2.out).drewN nq2))
  have HB3 := Lib.hid (show w3.heap[w.heap.size]? = some (.cells #[.int .u64 0, .int .i64 0, .int .i64 0] 115 (0, 0)) by rw [hw3]; exact HB2.out)
  clear hw3 HB2 B2 hc1 hc2 hc3 hc4 q4 h2 h
  go_wp2_with ((with_reducible show wpList _ _ _ (Oper.mk _ (.store 115 _ _) _ _ _ _ :: _) _ _); go_must (refine wpList_store_mid rfl rfl 115 (.tmp 4) (.tmp 61) rfl w.heap.size 0 rfl [.int .u64 0, .int .i64 0, .int .i64 0] rfl 115 _ HB3.out hA (by simp) (by simp [Value.oneCell']) ?_); intro w4 hn4 hg4 hs4)
  have HB4 := Lib.hid (show w4.heap[w.heap.size]? = some (.cells #[.int .u64 0, .int .i64 0, .int .i64 0] 115 (0, 0)) from hn4)
  have B4 := Lib.hid (B3.out.grown hg4 B3.out.size (fun k hk => by cases hk; exact Nat.le_refl _))
  clear hn4 hg4 hs4
  refine bodyPost_ret (v := .agg #[.int .u64 0, .int .i64 0, .int .i64 0]) ((results_cell rfl _ _ _).trans ?_) rfl ⟨rfl, B4.out⟩
  exact load_tally _ _ _ HB4.out
set_option maxRecDepth 20000 in
set_option maxHeartbeats 1000000 in
theorem jright_no2 (w : World) (v : Value) (T : TypeId) (l : List UInt8) (h : RowIs w v T 1 256 (bv l)) (hl : l.length = 256) (room : Nat) (hroom : room ≤ 1000000000) (t1 : cutB l 0 8 = word8) (t2 : ¬ cutB l 32 40 = word8) :
    Calls Try.prog 57 #[v, .int .i64 room] w fun e w' => e = .returned (.agg #[.int .u64 0, .int .i64 0, .int .i64 0]) ∧ Below w.heap.size w w' := by
  obtain ⟨A, c, rfl⟩ := h.shape
  obtain ⟨⟨g, o, s⟩, rfl⟩ := h.nonempty (by omega)
  obtain rfl : s = none := by
    rcases h.2 with ⟨h0, _⟩ | ⟨g', o', c', cur, fr, hv, _⟩
    · omega
    · simp only [Value.slice.injEq, Option.some.injEq, Addr.mk.injEq] at hv
      exact hv.1.2.2
  have hc := h.le
  have hc0 : ((256 : Nat) : Int) ≤ (c : Int) := by omega
  have hbox := heap_alloc_new w (.cells #[.int .u64 0, .int .i64 0, .int .i64 0] 115 (0, 0))
  have hgb := World.grownBy_alloc w (.cells #[.int .u64 0, .int .i64 0, .int .i64 0] 115 (0, 0)) none
  obtain ⟨w1, hw1⟩ : ∃ w1, w1 = w.alloc (.cells #[.int .u64 0, .int .i64 0, .int .i64 0] 115 (0, 0)) := ⟨_, rfl⟩
  rw [← hw1] at hbox hgb
  have B1 := Lib.hid ((Below.refl w.heap.size w).grown hgb (Nat.le_refl _) (by simp))
  have HBOX := Lib.hid hbox
  have h1 := h.below B1.out
  have l1 : (cutB l 8 16).length ≤ 8 := by rw [cutB_len _ _ _ (by omega)]; omega
  have l2 : (cutB l 16 24).length ≤ 8 := by rw [cutB_len _ _ _ (by omega)]; omega
  have l3 : (cutB l 24 32).length ≤ 8 := by rw [cutB_len _ _ _ (by omega)]; omega
  have q1 := qnum (cut_row h1 hl 8 16 8 (by omega) (by omega) rfl) l1
  have q2 := qnum (cut_row h1 hl 16 24 8 (by omega) (by omega) rfl) l2
  have q3 := qnum (cut_row h1 hl 24 32 8 (by omega) (by omega) rfl) l3
  clear hgb hbox
  have hA : (Try.prog.info? 115).map (·.size) = some 3 := by kernel_rfl
  go_enter Try.func57, Try.ntmps57
  go_wp2_with fail
  rw [← hw1]
  clear hw1
  have i1 : ¬ c = 8 := by omega
  have i2 : ¬ c = 16 := by omega
  have i3 : ¬ c = 24 := by omega
  go_quiet ((go_at_call 87; first | (with_reducible exact Calls.quiet_of (q1 _)) | (with_reducible exact Calls.quiet_of (q2 _)) | (with_reducible exact Calls.quiet_of (q3 _))))
  obtain ⟨w2, hw2⟩ : ∃ w2, w2 = w1.drewN nq := ⟨_, rfl⟩
  rw [← hw2]
  have B2 := Lib.hid (show Below w.heap.size w w2 by rw [hw2]; exact Fr.below_iff.1 ((Fr.below_iff.2 B1.out).drewN nq))
  have HB2 := Lib.hid (show w2.heap[w.heap.size]? = some (.cells #[.int .u64 0, .int .i64 0, .int .i64 0] 115 (0, 0)) by rw [hw2]; exact HBOX.out)
  have h2 := h.below B2.out
  clear hw2 q1 q2 q3 h1 HBOX B1
  have hc1 := cstr (cut_row h2 hl 0 8 8 (by omega) (by omega) rfl) (by rw [cutB_len _ _ _ (by omega)])
  have hc2 := cstr (cut_row h2 hl 32 40 8 (by omega) (by omega) rfl) (by rw [cutB_len _ _ _ (by omega)])
  have hc3 := cstr (cut_row h2 hl 16 32 16 (by omega) (by omega) rfl) (by rw [cutB_len _ _ _ (by omega)])
  have hc4 := cstr (cut_row h2 hl 40 56 16 (by omega) (by omega) rfl) (by rw [cutB_len _ _ _ (by omega)])
  have q4 := qnum (cut_row h2 hl 56 64 8 (by omega) (by omega) rfl) (by rw [cutB_len _ _ _ (by omega)]; omega)
  rw [Nat.add_zero, Nat.sub_zero] at hc1
  have j1 : ¬ c = 32 := by omega
  have j2 : ¬ c = 40 := by omega
  have j3 : ¬ c = 56 := by omega
  have hs8 : (str word8).toList = [119, 97, 114, 100, 115, 104, 105, 112] := by rw [ByteArray.toList_eq, str_toList]; rfl
  obtain ⟨N, hN⟩ : ∃ N, N = num (cutB l 8 16) := ⟨_, rfl⟩
  obtain ⟨S, hS⟩ : ∃ S, S = num (cutB l 16 24) := ⟨_, rfl⟩
  obtain ⟨U, hU⟩ : ∃ U, U = num (cutB l 24 32) := ⟨_, rfl⟩
  rw [← hN, ← hS, ← hU]
  rw [t1] at hc1
  have F2 : ((str (cutB l 32 40)).toList == [119, 97, 114, 100, 115, 104, 105, 112]) = false := sb_w t2
  have ew : IntKind.u64.wrap (room : Int) = (room : Int) := wraps_u64 _ (by omega) (by omega)
  clear t1 t2
  have HN := Lib.hid hN
  have HS := Lib.hid hS
  have HU := Lib.hid hU
  clear hN hS hU l1 l2 l3
  go_wp2_with fail
  refine wp_region_quiet_lit (by kernel_rfl) (by kernel_rfl) ?_
  repeat (first | go_big_quiet_step ((go_at_call 87; exact Calls.quiet_of (q4 _))) | quiet_step ((go_at_call 87; exact Calls.quiet_of (q4 _))))
  refine wpQuiet_nil ?_
  rintro _ ⟨nq2, rfl⟩
  obtain ⟨w3, hw3⟩ : ∃ w3, w3 = w2.drewN nq2 := ⟨_, rfl⟩
  rw [← hw3]
  have B3 := Lib.hid (show Below w.heap.size w w3 by rw [hw3]; exact Fr.below_iff.1 ((Fr.below_iff.2 B2.out).drewN nq2))
  have HB3 := Lib.hid (show w3.heap[w.heap.size]? = some (.cells #[.int .u64 0, .int .i64 0, .int .i64 0] 115 (0, 0)) by rw [hw3]; exact HB2.out)
  clear hw3 HB2 B2 hc1 hc2 hc3 hc4 q4 h2 h
  go_wp2_with ((with_reducible show wpList _ _ _ (Oper.mk _ (.store 115 _ _) _ _ _ _ :: _) _ _); go_must (refine wpList_store_mid rfl rfl 115 (.tmp 4) (.tmp 61) rfl w.heap.size 0 rfl [.int .u64 0, .int .i64 0, .int .i64 0] rfl 115 _ HB3.out hA (by simp) (by simp [Value.oneCell']) ?_); intro w4 hn4 hg4 hs4)
  have HB4 := Lib.hid (show w4.heap[w.heap.size]? = some (.cells #[.int .u64 0, .int .i64 0, .int .i64 0] 115 (0, 0)) from hn4)
  have B4 := Lib.hid (B3.out.grown hg4 B3.out.size (fun k hk => by cases hk; exact Nat.le_refl _))
  clear hn4 hg4 hs4
  refine bodyPost_ret (v := .agg #[.int .u64 0, .int .i64 0, .int .i64 0]) ((results_cell rfl _ _ _).trans ?_) rfl ⟨rfl, B4.out⟩
  exact load_tally _ _ _ HB4.out
set_option maxRecDepth 20000 in
set_option maxHeartbeats 1000000 in
theorem jright_no3 (w : World) (v : Value) (T : TypeId) (l : List UInt8) (h : RowIs w v T 1 256 (bv l)) (hl : l.length = 256) (room : Nat) (hroom : room ≤ 1000000000) (t1 : cutB l 0 8 = word8) (t2 : cutB l 32 40 = word8) (t3 : ¬ cutB l 16 32 = cutB l 40 56) :
    Calls Try.prog 57 #[v, .int .i64 room] w fun e w' => e = .returned (.agg #[.int .u64 0, .int .i64 0, .int .i64 0]) ∧ Below w.heap.size w w' := by
  obtain ⟨A, c, rfl⟩ := h.shape
  obtain ⟨⟨g, o, s⟩, rfl⟩ := h.nonempty (by omega)
  obtain rfl : s = none := by
    rcases h.2 with ⟨h0, _⟩ | ⟨g', o', c', cur, fr, hv, _⟩
    · omega
    · simp only [Value.slice.injEq, Option.some.injEq, Addr.mk.injEq] at hv
      exact hv.1.2.2
  have hc := h.le
  have hc0 : ((256 : Nat) : Int) ≤ (c : Int) := by omega
  have hbox := heap_alloc_new w (.cells #[.int .u64 0, .int .i64 0, .int .i64 0] 115 (0, 0))
  have hgb := World.grownBy_alloc w (.cells #[.int .u64 0, .int .i64 0, .int .i64 0] 115 (0, 0)) none
  obtain ⟨w1, hw1⟩ : ∃ w1, w1 = w.alloc (.cells #[.int .u64 0, .int .i64 0, .int .i64 0] 115 (0, 0)) := ⟨_, rfl⟩
  rw [← hw1] at hbox hgb
  have B1 := Lib.hid ((Below.refl w.heap.size w).grown hgb (Nat.le_refl _) (by simp))
  have HBOX := Lib.hid hbox
  have h1 := h.below B1.out
  have l1 : (cutB l 8 16).length ≤ 8 := by rw [cutB_len _ _ _ (by omega)]; omega
  have l2 : (cutB l 16 24).length ≤ 8 := by rw [cutB_len _ _ _ (by omega)]; omega
  have l3 : (cutB l 24 32).length ≤ 8 := by rw [cutB_len _ _ _ (by omega)]; omega
  have q1 := qnum (cut_row h1 hl 8 16 8 (by omega) (by omega) rfl) l1
  have q2 := qnum (cut_row h1 hl 16 24 8 (by omega) (by omega) rfl) l2
  have q3 := qnum (cut_row h1 hl 24 32 8 (by omega) (by omega) rfl) l3
  clear hgb hbox
  have hA : (Try.prog.info? 115).map (·.size) = some 3 := by kernel_rfl
  go_enter Try.func57, Try.ntmps57
  go_wp2_with fail
  rw [← hw1]
  clear hw1
  have i1 : ¬ c = 8 := by omega
  have i2 : ¬ c = 16 := by omega
  have i3 : ¬ c = 24 := by omega
  go_quiet ((go_at_call 87; first | (with_reducible exact Calls.quiet_of (q1 _)) | (with_reducible exact Calls.quiet_of (q2 _)) | (with_reducible exact Calls.quiet_of (q3 _))))
  obtain ⟨w2, hw2⟩ : ∃ w2, w2 = w1.drewN nq := ⟨_, rfl⟩
  rw [← hw2]
  have B2 := Lib.hid (show Below w.heap.size w w2 by rw [hw2]; exact Fr.below_iff.1 ((Fr.below_iff.2 B1.out).drewN nq))
  have HB2 := Lib.hid (show w2.heap[w.heap.size]? = some (.cells #[.int .u64 0, .int .i64 0, .int .i64 0] 115 (0, 0)) by rw [hw2]; exact HBOX.out)
  have h2 := h.below B2.out
  clear hw2 q1 q2 q3 h1 HBOX B1
  have hc1 := cstr (cut_row h2 hl 0 8 8 (by omega) (by omega) rfl) (by rw [cutB_len _ _ _ (by omega)])
  have hc2 := cstr (cut_row h2 hl 32 40 8 (by omega) (by omega) rfl) (by rw [cutB_len _ _ _ (by omega)])
  have hc3 := cstr (cut_row h2 hl 16 32 16 (by omega) (by omega) rfl) (by rw [cutB_len _ _ _ (by omega)])
  have hc4 := cstr (cut_row h2 hl 40 56 16 (by omega) (by omega) rfl) (by rw [cutB_len _ _ _ (by omega)])
  have q4 := qnum (cut_row h2 hl 56 64 8 (by omega) (by omega) rfl) (by rw [cutB_len _ _ _ (by omega)]; omega)
  rw [Nat.add_zero, Nat.sub_zero] at hc1
  have j1 : ¬ c = 32 := by omega
  have j2 : ¬ c = 40 := by omega
  have j3 : ¬ c = 56 := by omega
  have hs8 : (str word8).toList = [119, 97, 114, 100, 115, 104, 105, 112] := by rw [ByteArray.toList_eq, str_toList]; rfl
  obtain ⟨N, hN⟩ : ∃ N, N = num (cutB l 8 16) := ⟨_, rfl⟩
  obtain ⟨S, hS⟩ : ∃ S, S = num (cutB l 16 24) := ⟨_, rfl⟩
  obtain ⟨U, hU⟩ : ∃ U, U = num (cutB l 24 32) := ⟨_, rfl⟩
  rw [← hN, ← hS, ← hU]
  rw [t1] at hc1
  rw [t2] at hc2
  have F3 : ((str (cutB l 16 32)).toList == (str (cutB l 40 56)).toList) = false := sb_l2 t3
  have ew : IntKind.u64.wrap (room : Int) = (room : Int) := wraps_u64 _ (by omega) (by omega)
  clear t1 t2 t3
  have HN := Lib.hid hN
  have HS := Lib.hid hS
  have HU := Lib.hid hU
  clear hN hS hU l1 l2 l3
  go_wp2_with fail
  refine wp_region_quiet_lit (by kernel_rfl) (by kernel_rfl) ?_
  repeat (first | go_big_quiet_step ((go_at_call 87; exact Calls.quiet_of (q4 _))) | quiet_step ((go_at_call 87; exact Calls.quiet_of (q4 _))))
  refine wpQuiet_nil ?_
  rintro _ ⟨nq2, rfl⟩
  obtain ⟨w3, hw3⟩ : ∃ w3, w3 = w2.drewN nq2 := ⟨_, rfl⟩
  rw [← hw3]
  have B3 := Lib.hid (show Below w.heap.size w w3 by rw [hw3]; exact Fr.below_iff.1 ((Fr.below_iff.2 B2.out).drewN nq2))
  have HB3 := Lib.hid (show w3.heap[w.heap.size]? = some (.cells #[.int .u64 0, .int .i64 0, .int .i64 0] 115 (0, 0)) by rw [hw3]; exact HB2.out)
  clear hw3 HB2 B2 hc1 hc2 hc3 hc4 q4 h2 h
  go_wp2_with ((with_reducible show wpList _ _ _ (Oper.mk _ (.store 115 _ _) _ _ _ _ :: _) _ _); go_must (refine wpList_store_mid rfl rfl 115 (.tmp 4) (.tmp 61) rfl w.heap.size 0 rfl [.int .u64 0, .int .i64 0, .int .i64 0] rfl 115 _ HB3.out hA (by simp) (by simp [Value.oneCell']) ?_); intro w4 hn4 hg4 hs4)
  have HB4 := Lib.hid (show w4.heap[w.heap.size]? = some (.cells #[.int .u64 0, .int .i64 0, .int .i64 0] 115 (0, 0)) from hn4)
  have B4 := Lib.hid (B3.out.grown hg4 B3.out.size (fun k hk => by cases hk; exact Nat.le_refl _))
  clear hn4 hg4 hs4
  refine bodyPost_ret (v := .agg #[.int .u64 0, .int .i64 0, .int .i64 0]) ((results_cell rfl _ _ _).trans ?_) rfl ⟨rfl, B4.out⟩
  exact load_tally _ _ _ HB4.out
set_option maxRecDepth 20000 in
set_option maxHeartbeats 1000000 in
theorem jright_no4 (w : World) (v : Value) (T : TypeId) (l : List UInt8) (h : RowIs w v T 1 256 (bv l)) (hl : l.length = 256) (room : Nat) (hroom : room ≤ 1000000000) (t1 : cutB l 0 8 = word8) (t2 : cutB l 32 40 = word8) (t3 : cutB l 16 32 = cutB l 40 56) (t4 : ¬ num (cutB l 56 64) = num (cutB l 8 16)) :
    Calls Try.prog 57 #[v, .int .i64 room] w fun e w' => e = .returned (.agg #[.int .u64 0, .int .i64 0, .int .i64 0]) ∧ Below w.heap.size w w' := by
  obtain ⟨A, c, rfl⟩ := h.shape
  obtain ⟨⟨g, o, s⟩, rfl⟩ := h.nonempty (by omega)
  obtain rfl : s = none := by
    rcases h.2 with ⟨h0, _⟩ | ⟨g', o', c', cur, fr, hv, _⟩
    · omega
    · simp only [Value.slice.injEq, Option.some.injEq, Addr.mk.injEq] at hv
      exact hv.1.2.2
  have hc := h.le
  have hc0 : ((256 : Nat) : Int) ≤ (c : Int) := by omega
  have hbox := heap_alloc_new w (.cells #[.int .u64 0, .int .i64 0, .int .i64 0] 115 (0, 0))
  have hgb := World.grownBy_alloc w (.cells #[.int .u64 0, .int .i64 0, .int .i64 0] 115 (0, 0)) none
  obtain ⟨w1, hw1⟩ : ∃ w1, w1 = w.alloc (.cells #[.int .u64 0, .int .i64 0, .int .i64 0] 115 (0, 0)) := ⟨_, rfl⟩
  rw [← hw1] at hbox hgb
  have B1 := Lib.hid ((Below.refl w.heap.size w).grown hgb (Nat.le_refl _) (by simp))
  have HBOX := Lib.hid hbox
  have h1 := h.below B1.out
  have l1 : (cutB l 8 16).length ≤ 8 := by rw [cutB_len _ _ _ (by omega)]; omega
  have l2 : (cutB l 16 24).length ≤ 8 := by rw [cutB_len _ _ _ (by omega)]; omega
  have l3 : (cutB l 24 32).length ≤ 8 := by rw [cutB_len _ _ _ (by omega)]; omega
  have q1 := qnum (cut_row h1 hl 8 16 8 (by omega) (by omega) rfl) l1
  have q2 := qnum (cut_row h1 hl 16 24 8 (by omega) (by omega) rfl) l2
  have q3 := qnum (cut_row h1 hl 24 32 8 (by omega) (by omega) rfl) l3
  clear hgb hbox
  have hA : (Try.prog.info? 115).map (·.size) = some 3 := by kernel_rfl
  go_enter Try.func57, Try.ntmps57
  go_wp2_with fail
  rw [← hw1]
  clear hw1
  have i1 : ¬ c = 8 := by omega
  have i2 : ¬ c = 16 := by omega
  have i3 : ¬ c = 24 := by omega
  go_quiet ((go_at_call 87; first | (with_reducible exact Calls.quiet_of (q1 _)) | (with_reducible exact Calls.quiet_of (q2 _)) | (with_reducible exact Calls.quiet_of (q3 _))))
  obtain ⟨w2, hw2⟩ : ∃ w2, w2 = w1.drewN nq := ⟨_, rfl⟩
  rw [← hw2]
  have B2 := Lib.hid (show Below w.heap.size w w2 by rw [hw2]; exact Fr.below_iff.1 ((Fr.below_iff.2 B1.out).drewN nq))
  have HB2 := Lib.hid (show w2.heap[w.heap.size]? = some (.cells #[.int .u64 0, .int .i64 0, .int .i64 0] 115 (0, 0)) by rw [hw2]; exact HBOX.out)
  have h2 := h.below B2.out
  clear hw2 q1 q2 q3 h1 HBOX B1
  have hc1 := cstr (cut_row h2 hl 0 8 8 (by omega) (by omega) rfl) (by rw [cutB_len _ _ _ (by omega)])
  have hc2 := cstr (cut_row h2 hl 32 40 8 (by omega) (by omega) rfl) (by rw [cutB_len _ _ _ (by omega)])
  have hc3 := cstr (cut_row h2 hl 16 32 16 (by omega) (by omega) rfl) (by rw [cutB_len _ _ _ (by omega)])
  have hc4 := cstr (cut_row h2 hl 40 56 16 (by omega) (by omega) rfl) (by rw [cutB_len _ _ _ (by omega)])
  have q4 := qnum (cut_row h2 hl 56 64 8 (by omega) (by omega) rfl) (by rw [cutB_len _ _ _ (by omega)]; omega)
  rw [Nat.add_zero, Nat.sub_zero] at hc1
  have j1 : ¬ c = 32 := by omega
  have j2 : ¬ c = 40 := by omega
  have j3 : ¬ c = 56 := by omega
  have hs8 : (str word8).toList = [119, 97, 114, 100, 115, 104, 105, 112] := by rw [ByteArray.toList_eq, str_toList]; rfl
  obtain ⟨N, hN⟩ : ∃ N, N = num (cutB l 8 16) := ⟨_, rfl⟩
  obtain ⟨S, hS⟩ : ∃ S, S = num (cutB l 16 24) := ⟨_, rfl⟩
  obtain ⟨U, hU⟩ : ∃ U, U = num (cutB l 24 32) := ⟨_, rfl⟩
  rw [← hN, ← hS, ← hU]
  rw [t1] at hc1
  rw [t2] at hc2
  rw [t3] at hc3
  rw [← hN] at t4
  obtain ⟨M, hM⟩ : ∃ M, M = num (cutB l 56 64) := ⟨_, rfl⟩
  rw [← hM] at t4 q4
  clear hM
  have F4 : (M == N) = false := beq_false_of_ne t4
  have F4b : ((M : Int) == (N : Int)) = false := beq_false_of_ne (by omega)
  have F4c : ((M : Int) != (N : Int)) = true := by simp [bne, F4b]
  have ew : IntKind.u64.wrap (room : Int) = (room : Int) := wraps_u64 _ (by omega) (by omega)
  clear t1 t2 t3 t4
  have HN := Lib.hid hN
  have HS := Lib.hid hS
  have HU := Lib.hid hU
  clear hN hS hU l1 l2 l3
  go_wp2_with fail
  refine wp_region_quiet_lit (by kernel_rfl) (by kernel_rfl) ?_
  repeat (first | go_big_quiet_step ((go_at_call 87; exact Calls.quiet_of (q4 _))) | quiet_step ((go_at_call 87; exact Calls.quiet_of (q4 _))))
  refine wpQuiet_nil ?_
  rintro _ ⟨nq2, rfl⟩
  obtain ⟨w3, hw3⟩ : ∃ w3, w3 = w2.drewN nq2 := ⟨_, rfl⟩
  rw [← hw3]
  have B3 := Lib.hid (show Below w.heap.size w w3 by rw [hw3]; exact Fr.below_iff.1 ((Fr.below_iff.2 B2.out).drewN nq2))
  have HB3 := Lib.hid (show w3.heap[w.heap.size]? = some (.cells #[.int .u64 0, .int .i64 0, .int .i64 0] 115 (0, 0)) by rw [hw3]; exact HB2.out)
  clear hw3 HB2 B2 hc1 hc2 hc3 hc4 q4 h2 h
  go_wp2_with ((with_reducible show wpList _ _ _ (Oper.mk _ (.store 115 _ _) _ _ _ _ :: _) _ _); go_must (refine wpList_store_mid rfl rfl 115 (.tmp 4) (.tmp 61) rfl w.heap.size 0 rfl [.int .u64 0, .int .i64 0, .int .i64 0] rfl 115 _ HB3.out hA (by simp) (by simp [Value.oneCell']) ?_); intro w4 hn4 hg4 hs4)
  have HB4 := Lib.hid (show w4.heap[w.heap.size]? = some (.cells #[.int .u64 0, .int .i64 0, .int .i64 0] 115 (0, 0)) from hn4)
  have B4 := Lib.hid (B3.out.grown hg4 B3.out.size (fun k hk => by cases hk; exact Nat.le_refl _))
  clear hn4 hg4 hs4
  refine bodyPost_ret (v := .agg #[.int .u64 0, .int .i64 0, .int .i64 0]) ((results_cell rfl _ _ _).trans ?_) rfl ⟨rfl, B4.out⟩
  exact load_tally _ _ _ HB4.out
set_option maxRecDepth 20000 in
set_option maxHeartbeats 1000000 in
theorem jright_no5 (w : World) (v : Value) (T : TypeId) (l : List UInt8) (h : RowIs w v T 1 256 (bv l)) (hl : l.length = 256) (room : Nat) (hroom : room ≤ 1000000000) (t1 : cutB l 0 8 = word8) (t2 : cutB l 32 40 = word8) (t3 : cutB l 16 32 = cutB l 40 56) (t4 : num (cutB l 56 64) = num (cutB l 8 16)) (t5 : ¬ 1 ≤ num (cutB l 8 16)) :
    Calls Try.prog 57 #[v, .int .i64 room] w fun e w' => e = .returned (.agg #[.int .u64 0, .int .i64 0, .int .i64 0]) ∧ Below w.heap.size w w' := by
  obtain ⟨A, c, rfl⟩ := h.shape
  obtain ⟨⟨g, o, s⟩, rfl⟩ := h.nonempty (by omega)
  obtain rfl : s = none := by
    rcases h.2 with ⟨h0, _⟩ | ⟨g', o', c', cur, fr, hv, _⟩
    · omega
    · simp only [Value.slice.injEq, Option.some.injEq, Addr.mk.injEq] at hv
      exact hv.1.2.2
  have hc := h.le
  have hc0 : ((256 : Nat) : Int) ≤ (c : Int) := by omega
  have hbox := heap_alloc_new w (.cells #[.int .u64 0, .int .i64 0, .int .i64 0] 115 (0, 0))
  have hgb := World.grownBy_alloc w (.cells #[.int .u64 0, .int .i64 0, .int .i64 0] 115 (0, 0)) none
  obtain ⟨w1, hw1⟩ : ∃ w1, w1 = w.alloc (.cells #[.int .u64 0, .int .i64 0, .int .i64 0] 115 (0, 0)) := ⟨_, rfl⟩
  rw [← hw1] at hbox hgb
  have B1 := Lib.hid ((Below.refl w.heap.size w).grown hgb (Nat.le_refl _) (by simp))
  have HBOX := Lib.hid hbox
  have h1 := h.below B1.out
  have l1 : (cutB l 8 16).length ≤ 8 := by rw [cutB_len _ _ _ (by omega)]; omega
  have l2 : (cutB l 16 24).length ≤ 8 := by rw [cutB_len _ _ _ (by omega)]; omega
  have l3 : (cutB l 24 32).length ≤ 8 := by rw [cutB_len _ _ _ (by omega)]; omega
  have q1 := qnum (cut_row h1 hl 8 16 8 (by omega) (by omega) rfl) l1
  have q2 := qnum (cut_row h1 hl 16 24 8 (by omega) (by omega) rfl) l2
  have q3 := qnum (cut_row h1 hl 24 32 8 (by omega) (by omega) rfl) l3
  clear hgb hbox
  have hA : (Try.prog.info? 115).map (·.size) = some 3 := by kernel_rfl
  go_enter Try.func57, Try.ntmps57
  go_wp2_with fail
  rw [← hw1]
  clear hw1
  have i1 : ¬ c = 8 := by omega
  have i2 : ¬ c = 16 := by omega
  have i3 : ¬ c = 24 := by omega
  go_quiet ((go_at_call 87; first | (with_reducible exact Calls.quiet_of (q1 _)) | (with_reducible exact Calls.quiet_of (q2 _)) | (with_reducible exact Calls.quiet_of (q3 _))))
  obtain ⟨w2, hw2⟩ : ∃ w2, w2 = w1.drewN nq := ⟨_, rfl⟩
  rw [← hw2]
  have B2 := Lib.hid (show Below w.heap.size w w2 by rw [hw2]; exact Fr.below_iff.1 ((Fr.below_iff.2 B1.out).drewN nq))
  have HB2 := Lib.hid (show w2.heap[w.heap.size]? = some (.cells #[.int .u64 0, .int .i64 0, .int .i64 0] 115 (0, 0)) by rw [hw2]; exact HBOX.out)
  have h2 := h.below B2.out
  clear hw2 q1 q2 q3 h1 HBOX B1
  have hc1 := cstr (cut_row h2 hl 0 8 8 (by omega) (by omega) rfl) (by rw [cutB_len _ _ _ (by omega)])
  have hc2 := cstr (cut_row h2 hl 32 40 8 (by omega) (by omega) rfl) (by rw [cutB_len _ _ _ (by omega)])
  have hc3 := cstr (cut_row h2 hl 16 32 16 (by omega) (by omega) rfl) (by rw [cutB_len _ _ _ (by omega)])
  have hc4 := cstr (cut_row h2 hl 40 56 16 (by omega) (by omega) rfl) (by rw [cutB_len _ _ _ (by omega)])
  have q4 := qnum (cut_row h2 hl 56 64 8 (by omega) (by omega) rfl) (by rw [cutB_len _ _ _ (by omega)]; omega)
  rw [Nat.add_zero, Nat.sub_zero] at hc1
  have j1 : ¬ c = 32 := by omega
  have j2 : ¬ c = 40 := by omega
  have j3 : ¬ c = 56 := by omega
  have hs8 : (str word8).toList = [119, 97, 114, 100, 115, 104, 105, 112] := by rw [ByteArray.toList_eq, str_toList]; rfl
  obtain ⟨N, hN⟩ : ∃ N, N = num (cutB l 8 16) := ⟨_, rfl⟩
  obtain ⟨S, hS⟩ : ∃ S, S = num (cutB l 16 24) := ⟨_, rfl⟩
  obtain ⟨U, hU⟩ : ∃ U, U = num (cutB l 24 32) := ⟨_, rfl⟩
  rw [← hN, ← hS, ← hU]
  rw [t1] at hc1
  rw [t2] at hc2
  rw [t3] at hc3
  rw [t4, ← hN] at q4
  rw [← hN] at t5
  have T5 : decide ((N : Int) < 1) = true := decide_eq_true (by omega)
  have ew : IntKind.u64.wrap (room : Int) = (room : Int) := wraps_u64 _ (by omega) (by omega)
  clear t1 t2 t3 t4 t5
  have HN := Lib.hid hN
  have HS := Lib.hid hS
  have HU := Lib.hid hU
  clear hN hS hU l1 l2 l3
  go_wp2_with fail
  refine wp_region_quiet_lit (by kernel_rfl) (by kernel_rfl) ?_
  repeat (first | go_big_quiet_step ((go_at_call 87; exact Calls.quiet_of (q4 _))) | quiet_step ((go_at_call 87; exact Calls.quiet_of (q4 _))))
  refine wpQuiet_nil ?_
  rintro _ ⟨nq2, rfl⟩
  obtain ⟨w3, hw3⟩ : ∃ w3, w3 = w2.drewN nq2 := ⟨_, rfl⟩
  rw [← hw3]
  have B3 := Lib.hid (show Below w.heap.size w w3 by rw [hw3]; exact Fr.below_iff.1 ((Fr.below_iff.2 B2.out).drewN nq2))
  have HB3 := Lib.hid (show w3.heap[w.heap.size]? = some (.cells #[.int .u64 0, .int .i64 0, .int .i64 0] 115 (0, 0)) by rw [hw3]; exact HB2.out)
  clear hw3 HB2 B2 hc1 hc2 hc3 hc4 q4 h2 h
  go_wp2_with ((with_reducible show wpList _ _ _ (Oper.mk _ (.store 115 _ _) _ _ _ _ :: _) _ _); go_must (refine wpList_store_mid rfl rfl 115 (.tmp 4) (.tmp 61) rfl w.heap.size 0 rfl [.int .u64 0, .int .i64 0, .int .i64 0] rfl 115 _ HB3.out hA (by simp) (by simp [Value.oneCell']) ?_); intro w4 hn4 hg4 hs4)
  have HB4 := Lib.hid (show w4.heap[w.heap.size]? = some (.cells #[.int .u64 0, .int .i64 0, .int .i64 0] 115 (0, 0)) from hn4)
  have B4 := Lib.hid (B3.out.grown hg4 B3.out.size (fun k hk => by cases hk; exact Nat.le_refl _))
  clear hn4 hg4 hs4
  refine bodyPost_ret (v := .agg #[.int .u64 0, .int .i64 0, .int .i64 0]) ((results_cell rfl _ _ _).trans ?_) rfl ⟨rfl, B4.out⟩
  exact load_tally _ _ _ HB4.out
set_option maxRecDepth 20000 in
set_option maxHeartbeats 1000000 in
theorem jright_no6 (w : World) (v : Value) (T : TypeId) (l : List UInt8) (h : RowIs w v T 1 256 (bv l)) (hl : l.length = 256) (room : Nat) (hroom : room ≤ 1000000000) (t1 : cutB l 0 8 = word8) (t2 : cutB l 32 40 = word8) (t3 : cutB l 16 32 = cutB l 40 56) (t4 : num (cutB l 56 64) = num (cutB l 8 16)) (t5 : 1 ≤ num (cutB l 8 16)) (t6 : ¬ num (cutB l 8 16) ≤ 4611686018427387904) :
    Calls Try.prog 57 #[v, .int .i64 room] w fun e w' => e = .returned (.agg #[.int .u64 0, .int .i64 0, .int .i64 0]) ∧ Below w.heap.size w w' := by
  obtain ⟨A, c, rfl⟩ := h.shape
  obtain ⟨⟨g, o, s⟩, rfl⟩ := h.nonempty (by omega)
  obtain rfl : s = none := by
    rcases h.2 with ⟨h0, _⟩ | ⟨g', o', c', cur, fr, hv, _⟩
    · omega
    · simp only [Value.slice.injEq, Option.some.injEq, Addr.mk.injEq] at hv
      exact hv.1.2.2
  have hc := h.le
  have hc0 : ((256 : Nat) : Int) ≤ (c : Int) := by omega
  have hbox := heap_alloc_new w (.cells #[.int .u64 0, .int .i64 0, .int .i64 0] 115 (0, 0))
  have hgb := World.grownBy_alloc w (.cells #[.int .u64 0, .int .i64 0, .int .i64 0] 115 (0, 0)) none
  obtain ⟨w1, hw1⟩ : ∃ w1, w1 = w.alloc (.cells #[.int .u64 0, .int .i64 0, .int .i64 0] 115 (0, 0)) := ⟨_, rfl⟩
  rw [← hw1] at hbox hgb
  have B1 := Lib.hid ((Below.refl w.heap.size w).grown hgb (Nat.le_refl _) (by simp))
  have HBOX := Lib.hid hbox
  have h1 := h.below B1.out
  have l1 : (cutB l 8 16).length ≤ 8 := by rw [cutB_len _ _ _ (by omega)]; omega
  have l2 : (cutB l 16 24).length ≤ 8 := by rw [cutB_len _ _ _ (by omega)]; omega
  have l3 : (cutB l 24 32).length ≤ 8 := by rw [cutB_len _ _ _ (by omega)]; omega
  have q1 := qnum (cut_row h1 hl 8 16 8 (by omega) (by omega) rfl) l1
  have q2 := qnum (cut_row h1 hl 16 24 8 (by omega) (by omega) rfl) l2
  have q3 := qnum (cut_row h1 hl 24 32 8 (by omega) (by omega) rfl) l3
  clear hgb hbox
  have hA : (Try.prog.info? 115).map (·.size) = some 3 := by kernel_rfl
  go_enter Try.func57, Try.ntmps57
  go_wp2_with fail
  rw [← hw1]
  clear hw1
  have i1 : ¬ c = 8 := by omega
  have i2 : ¬ c = 16 := by omega
  have i3 : ¬ c = 24 := by omega
  go_quiet ((go_at_call 87; first | (with_reducible exact Calls.quiet_of (q1 _)) | (with_reducible exact Calls.quiet_of (q2 _)) | (with_reducible exact Calls.quiet_of (q3 _))))
  obtain ⟨w2, hw2⟩ : ∃ w2, w2 = w1.drewN nq := ⟨_, rfl⟩
  rw [← hw2]
  have B2 := Lib.hid (show Below w.heap.size w w2 by rw [hw2]; exact Fr.below_iff.1 ((Fr.below_iff.2 B1.out).drewN nq))
  have HB2 := Lib.hid (show w2.heap[w.heap.size]? = some (.cells #[.int .u64 0, .int .i64 0, .int .i64 0] 115 (0, 0)) by rw [hw2]; exact HBOX.out)
  have h2 := h.below B2.out
  clear hw2 q1 q2 q3 h1 HBOX B1
  have hc1 := cstr (cut_row h2 hl 0 8 8 (by omega) (by omega) rfl) (by rw [cutB_len _ _ _ (by omega)])
  have hc2 := cstr (cut_row h2 hl 32 40 8 (by omega) (by omega) rfl) (by rw [cutB_len _ _ _ (by omega)])
  have hc3 := cstr (cut_row h2 hl 16 32 16 (by omega) (by omega) rfl) (by rw [cutB_len _ _ _ (by omega)])
  have hc4 := cstr (cut_row h2 hl 40 56 16 (by omega) (by omega) rfl) (by rw [cutB_len _ _ _ (by omega)])
  have q4 := qnum (cut_row h2 hl 56 64 8 (by omega) (by omega) rfl) (by rw [cutB_len _ _ _ (by omega)]; omega)
  rw [Nat.add_zero, Nat.sub_zero] at hc1
  have j1 : ¬ c = 32 := by omega
  have j2 : ¬ c = 40 := by omega
  have j3 : ¬ c = 56 := by omega
  have hs8 : (str word8).toList = [119, 97, 114, 100, 115, 104, 105, 112] := by rw [ByteArray.toList_eq, str_toList]; rfl
  obtain ⟨N, hN⟩ : ∃ N, N = num (cutB l 8 16) := ⟨_, rfl⟩
  obtain ⟨S, hS⟩ : ∃ S, S = num (cutB l 16 24) := ⟨_, rfl⟩
  obtain ⟨U, hU⟩ : ∃ U, U = num (cutB l 24 32) := ⟨_, rfl⟩
  rw [← hN, ← hS, ← hU]
  rw [t1] at hc1
  rw [t2] at hc2
  rw [t3] at hc3
  rw [t4, ← hN] at q4
  rw [← hN] at t5
  have T5 : decide ((N : Int) < 1) = false := decide_eq_false (by omega)
  rw [← hN] at t6
  have T6 : decide ((4611686018427387904 : Int) < (N : Int)) = true := decide_eq_true (by omega)
  have ew : IntKind.u64.wrap (room : Int) = (room : Int) := wraps_u64 _ (by omega) (by omega)
  clear t1 t2 t3 t4 t5 t6
  have HN := Lib.hid hN
  have HS := Lib.hid hS
  have HU := Lib.hid hU
  clear hN hS hU l1 l2 l3
  go_wp2_with fail
  refine wp_region_quiet_lit (by kernel_rfl) (by kernel_rfl) ?_
  repeat (first | go_big_quiet_step ((go_at_call 87; exact Calls.quiet_of (q4 _))) | quiet_step ((go_at_call 87; exact Calls.quiet_of (q4 _))))
  refine wpQuiet_nil ?_
  rintro _ ⟨nq2, rfl⟩
  obtain ⟨w3, hw3⟩ : ∃ w3, w3 = w2.drewN nq2 := ⟨_, rfl⟩
  rw [← hw3]
  have B3 := Lib.hid (show Below w.heap.size w w3 by rw [hw3]; exact Fr.below_iff.1 ((Fr.below_iff.2 B2.out).drewN nq2))
  have HB3 := Lib.hid (show w3.heap[w.heap.size]? = some (.cells #[.int .u64 0, .int .i64 0, .int .i64 0] 115 (0, 0)) by rw [hw3]; exact HB2.out)
  clear hw3 HB2 B2 hc1 hc2 hc3 hc4 q4 h2 h
  go_wp2_with ((with_reducible show wpList _ _ _ (Oper.mk _ (.store 115 _ _) _ _ _ _ :: _) _ _); go_must (refine wpList_store_mid rfl rfl 115 (.tmp 4) (.tmp 61) rfl w.heap.size 0 rfl [.int .u64 0, .int .i64 0, .int .i64 0] rfl 115 _ HB3.out hA (by simp) (by simp [Value.oneCell']) ?_); intro w4 hn4 hg4 hs4)
  have HB4 := Lib.hid (show w4.heap[w.heap.size]? = some (.cells #[.int .u64 0, .int .i64 0, .int .i64 0] 115 (0, 0)) from hn4)
  have B4 := Lib.hid (B3.out.grown hg4 B3.out.size (fun k hk => by cases hk; exact Nat.le_refl _))
  clear hn4 hg4 hs4
  refine bodyPost_ret (v := .agg #[.int .u64 0, .int .i64 0, .int .i64 0]) ((results_cell rfl _ _ _).trans ?_) rfl ⟨rfl, B4.out⟩
  exact load_tally _ _ _ HB4.out
set_option maxRecDepth 20000 in
set_option maxHeartbeats 1000000 in
theorem jright_no7 (w : World) (v : Value) (T : TypeId) (l : List UInt8) (h : RowIs w v T 1 256 (bv l)) (hl : l.length = 256) (room : Nat) (hroom : room ≤ 1000000000) (t1 : cutB l 0 8 = word8) (t2 : cutB l 32 40 = word8) (t3 : cutB l 16 32 = cutB l 40 56) (t4 : num (cutB l 56 64) = num (cutB l 8 16)) (t5 : 1 ≤ num (cutB l 8 16)) (t6 : num (cutB l 8 16) ≤ 4611686018427387904) (t7 : ¬ num (cutB l 16 24) ≤ 1) :
    Calls Try.prog 57 #[v, .int .i64 room] w fun e w' => e = .returned (.agg #[.int .u64 0, .int .i64 0, .int .i64 0]) ∧ Below w.heap.size w w' := by
  obtain ⟨A, c, rfl⟩ := h.shape
  obtain ⟨⟨g, o, s⟩, rfl⟩ := h.nonempty (by omega)
  obtain rfl : s = none := by
    rcases h.2 with ⟨h0, _⟩ | ⟨g', o', c', cur, fr, hv, _⟩
    · omega
    · simp only [Value.slice.injEq, Option.some.injEq, Addr.mk.injEq] at hv
      exact hv.1.2.2
  have hc := h.le
  have hc0 : ((256 : Nat) : Int) ≤ (c : Int) := by omega
  have hbox := heap_alloc_new w (.cells #[.int .u64 0, .int .i64 0, .int .i64 0] 115 (0, 0))
  have hgb := World.grownBy_alloc w (.cells #[.int .u64 0, .int .i64 0, .int .i64 0] 115 (0, 0)) none
  obtain ⟨w1, hw1⟩ : ∃ w1, w1 = w.alloc (.cells #[.int .u64 0, .int .i64 0, .int .i64 0] 115 (0, 0)) := ⟨_, rfl⟩
  rw [← hw1] at hbox hgb
  have B1 := Lib.hid ((Below.refl w.heap.size w).grown hgb (Nat.le_refl _) (by simp))
  have HBOX := Lib.hid hbox
  have h1 := h.below B1.out
  have l1 : (cutB l 8 16).length ≤ 8 := by rw [cutB_len _ _ _ (by omega)]; omega
  have l2 : (cutB l 16 24).length ≤ 8 := by rw [cutB_len _ _ _ (by omega)]; omega
  have l3 : (cutB l 24 32).length ≤ 8 := by rw [cutB_len _ _ _ (by omega)]; omega
  have q1 := qnum (cut_row h1 hl 8 16 8 (by omega) (by omega) rfl) l1
  have q2 := qnum (cut_row h1 hl 16 24 8 (by omega) (by omega) rfl) l2
  have q3 := qnum (cut_row h1 hl 24 32 8 (by omega) (by omega) rfl) l3
  clear hgb hbox
  have hA : (Try.prog.info? 115).map (·.size) = some 3 := by kernel_rfl
  go_enter Try.func57, Try.ntmps57
  go_wp2_with fail
  rw [← hw1]
  clear hw1
  have i1 : ¬ c = 8 := by omega
  have i2 : ¬ c = 16 := by omega
  have i3 : ¬ c = 24 := by omega
  go_quiet ((go_at_call 87; first | (with_reducible exact Calls.quiet_of (q1 _)) | (with_reducible exact Calls.quiet_of (q2 _)) | (with_reducible exact Calls.quiet_of (q3 _))))
  obtain ⟨w2, hw2⟩ : ∃ w2, w2 = w1.drewN nq := ⟨_, rfl⟩
  rw [← hw2]
  have B2 := Lib.hid (show Below w.heap.size w w2 by rw [hw2]; exact Fr.below_iff.1 ((Fr.below_iff.2 B1.out).drewN nq))
  have HB2 := Lib.hid (show w2.heap[w.heap.size]? = some (.cells #[.int .u64 0, .int .i64 0, .int .i64 0] 115 (0, 0)) by rw [hw2]; exact HBOX.out)
  have h2 := h.below B2.out
  clear hw2 q1 q2 q3 h1 HBOX B1
  have hc1 := cstr (cut_row h2 hl 0 8 8 (by omega) (by omega) rfl) (by rw [cutB_len _ _ _ (by omega)])
  have hc2 := cstr (cut_row h2 hl 32 40 8 (by omega) (by omega) rfl) (by rw [cutB_len _ _ _ (by omega)])
  have hc3 := cstr (cut_row h2 hl 16 32 16 (by omega) (by omega) rfl) (by rw [cutB_len _ _ _ (by omega)])
  have hc4 := cstr (cut_row h2 hl 40 56 16 (by omega) (by omega) rfl) (by rw [cutB_len _ _ _ (by omega)])
  have q4 := qnum (cut_row h2 hl 56 64 8 (by omega) (by omega) rfl) (by rw [cutB_len _ _ _ (by omega)]; omega)
  rw [Nat.add_zero, Nat.sub_zero] at hc1
  have j1 : ¬ c = 32 := by omega
  have j2 : ¬ c = 40 := by omega
  have j3 : ¬ c = 56 := by omega
  have hs8 : (str word8).toList = [119, 97, 114, 100, 115, 104, 105, 112] := by rw [ByteArray.toList_eq, str_toList]; rfl
  obtain ⟨N, hN⟩ : ∃ N, N = num (cutB l 8 16) := ⟨_, rfl⟩
  obtain ⟨S, hS⟩ : ∃ S, S = num (cutB l 16 24) := ⟨_, rfl⟩
  obtain ⟨U, hU⟩ : ∃ U, U = num (cutB l 24 32) := ⟨_, rfl⟩
  rw [← hN, ← hS, ← hU]
  rw [t1] at hc1
  rw [t2] at hc2
  rw [t3] at hc3
  rw [t4, ← hN] at q4
  rw [← hN] at t5
  have T5 : decide ((N : Int) < 1) = false := decide_eq_false (by omega)
  rw [← hN] at t6
  have T6 : decide ((4611686018427387904 : Int) < (N : Int)) = false := decide_eq_false (by omega)
  rw [← hS] at t7
  have T7 : decide ((1 : Int) < (S : Int)) = true := decide_eq_true (by omega)
  have ew : IntKind.u64.wrap (room : Int) = (room : Int) := wraps_u64 _ (by omega) (by omega)
  clear t1 t2 t3 t4 t5 t6 t7
  have HN := Lib.hid hN
  have HS := Lib.hid hS
  have HU := Lib.hid hU
  clear hN hS hU l1 l2 l3
  go_wp2_with fail
  refine wp_region_quiet_lit (by kernel_rfl) (by kernel_rfl) ?_
  repeat (first | go_big_quiet_step ((go_at_call 87; exact Calls.quiet_of (q4 _))) | quiet_step ((go_at_call 87; exact Calls.quiet_of (q4 _))))
  refine wpQuiet_nil ?_
  rintro _ ⟨nq2, rfl⟩
  obtain ⟨w3, hw3⟩ : ∃ w3, w3 = w2.drewN nq2 := ⟨_, rfl⟩
  rw [← hw3]
  have B3 := Lib.hid (show Below w.heap.size w w3 by rw [hw3]; exact Fr.below_iff.1 ((Fr.below_iff.2 B2.out).drewN nq2))
  have HB3 := Lib.hid (show w3.heap[w.heap.size]? = some (.cells #[.int .u64 0, .int .i64 0, .int .i64 0] 115 (0, 0)) by rw [hw3]; exact HB2.out)
  clear hw3 HB2 B2 hc1 hc2 hc3 hc4 q4 h2 h
  go_wp2_with ((with_reducible show wpList _ _ _ (Oper.mk _ (.store 115 _ _) _ _ _ _ :: _) _ _); go_must (refine wpList_store_mid rfl rfl 115 (.tmp 4) (.tmp 61) rfl w.heap.size 0 rfl [.int .u64 0, .int .i64 0, .int .i64 0] rfl 115 _ HB3.out hA (by simp) (by simp [Value.oneCell']) ?_); intro w4 hn4 hg4 hs4)
  have HB4 := Lib.hid (show w4.heap[w.heap.size]? = some (.cells #[.int .u64 0, .int .i64 0, .int .i64 0] 115 (0, 0)) from hn4)
  have B4 := Lib.hid (B3.out.grown hg4 B3.out.size (fun k hk => by cases hk; exact Nat.le_refl _))
  clear hn4 hg4 hs4
  refine bodyPost_ret (v := .agg #[.int .u64 0, .int .i64 0, .int .i64 0]) ((results_cell rfl _ _ _).trans ?_) rfl ⟨rfl, B4.out⟩
  exact load_tally _ _ _ HB4.out
set_option maxRecDepth 20000 in
set_option maxHeartbeats 1000000 in
theorem jright_no8 (w : World) (v : Value) (T : TypeId) (l : List UInt8) (h : RowIs w v T 1 256 (bv l)) (hl : l.length = 256) (room : Nat) (hroom : room ≤ 1000000000) (t1 : cutB l 0 8 = word8) (t2 : cutB l 32 40 = word8) (t3 : cutB l 16 32 = cutB l 40 56) (t4 : num (cutB l 56 64) = num (cutB l 8 16)) (t5 : 1 ≤ num (cutB l 8 16)) (t6 : num (cutB l 8 16) ≤ 4611686018427387904) (t7 : num (cutB l 16 24) ≤ 1) (t8 : ¬ num (cutB l 24 32) ≤ room) :
    Calls Try.prog 57 #[v, .int .i64 room] w fun e w' => e = .returned (.agg #[.int .u64 0, .int .i64 0, .int .i64 0]) ∧ Below w.heap.size w w' := by
  obtain ⟨A, c, rfl⟩ := h.shape
  obtain ⟨⟨g, o, s⟩, rfl⟩ := h.nonempty (by omega)
  obtain rfl : s = none := by
    rcases h.2 with ⟨h0, _⟩ | ⟨g', o', c', cur, fr, hv, _⟩
    · omega
    · simp only [Value.slice.injEq, Option.some.injEq, Addr.mk.injEq] at hv
      exact hv.1.2.2
  have hc := h.le
  have hc0 : ((256 : Nat) : Int) ≤ (c : Int) := by omega
  have hbox := heap_alloc_new w (.cells #[.int .u64 0, .int .i64 0, .int .i64 0] 115 (0, 0))
  have hgb := World.grownBy_alloc w (.cells #[.int .u64 0, .int .i64 0, .int .i64 0] 115 (0, 0)) none
  obtain ⟨w1, hw1⟩ : ∃ w1, w1 = w.alloc (.cells #[.int .u64 0, .int .i64 0, .int .i64 0] 115 (0, 0)) := ⟨_, rfl⟩
  rw [← hw1] at hbox hgb
  have B1 := Lib.hid ((Below.refl w.heap.size w).grown hgb (Nat.le_refl _) (by simp))
  have HBOX := Lib.hid hbox
  have h1 := h.below B1.out
  have l1 : (cutB l 8 16).length ≤ 8 := by rw [cutB_len _ _ _ (by omega)]; omega
  have l2 : (cutB l 16 24).length ≤ 8 := by rw [cutB_len _ _ _ (by omega)]; omega
  have l3 : (cutB l 24 32).length ≤ 8 := by rw [cutB_len _ _ _ (by omega)]; omega
  have q1 := qnum (cut_row h1 hl 8 16 8 (by omega) (by omega) rfl) l1
  have q2 := qnum (cut_row h1 hl 16 24 8 (by omega) (by omega) rfl) l2
  have q3 := qnum (cut_row h1 hl 24 32 8 (by omega) (by omega) rfl) l3
  clear hgb hbox
  have hA : (Try.prog.info? 115).map (·.size) = some 3 := by kernel_rfl
  go_enter Try.func57, Try.ntmps57
  go_wp2_with fail
  rw [← hw1]
  clear hw1
  have i1 : ¬ c = 8 := by omega
  have i2 : ¬ c = 16 := by omega
  have i3 : ¬ c = 24 := by omega
  go_quiet ((go_at_call 87; first | (with_reducible exact Calls.quiet_of (q1 _)) | (with_reducible exact Calls.quiet_of (q2 _)) | (with_reducible exact Calls.quiet_of (q3 _))))
  obtain ⟨w2, hw2⟩ : ∃ w2, w2 = w1.drewN nq := ⟨_, rfl⟩
  rw [← hw2]
  have B2 := Lib.hid (show Below w.heap.size w w2 by rw [hw2]; exact Fr.below_iff.1 ((Fr.below_iff.2 B1.out).drewN nq))
  have HB2 := Lib.hid (show w2.heap[w.heap.size]? = some (.cells #[.int .u64 0, .int .i64 0, .int .i64 0] 115 (0, 0)) by rw [hw2]; exact HBOX.out)
  have h2 := h.below B2.out
  clear hw2 q1 q2 q3 h1 HBOX B1
  have hc1 := cstr (cut_row h2 hl 0 8 8 (by omega) (by omega) rfl) (by rw [cutB_len _ _ _ (by omega)])
  have hc2 := cstr (cut_row h2 hl 32 40 8 (by omega) (by omega) rfl) (by rw [cutB_len _ _ _ (by omega)])
  have hc3 := cstr (cut_row h2 hl 16 32 16 (by omega) (by omega) rfl) (by rw [cutB_len _ _ _ (by omega)])
  have hc4 := cstr (cut_row h2 hl 40 56 16 (by omega) (by omega) rfl) (by rw [cutB_len _ _ _ (by omega)])
  have q4 := qnum (cut_row h2 hl 56 64 8 (by omega) (by omega) rfl) (by rw [cutB_len _ _ _ (by omega)]; omega)
  rw [Nat.add_zero, Nat.sub_zero] at hc1
  have j1 : ¬ c = 32 := by omega
  have j2 : ¬ c = 40 := by omega
  have j3 : ¬ c = 56 := by omega
  have hs8 : (str word8).toList = [119, 97, 114, 100, 115, 104, 105, 112] := by rw [ByteArray.toList_eq, str_toList]; rfl
  obtain ⟨N, hN⟩ : ∃ N, N = num (cutB l 8 16) := ⟨_, rfl⟩
  obtain ⟨S, hS⟩ : ∃ S, S = num (cutB l 16 24) := ⟨_, rfl⟩
  obtain ⟨U, hU⟩ : ∃ U, U = num (cutB l 24 32) := ⟨_, rfl⟩
  rw [← hN, ← hS, ← hU]
  rw [t1] at hc1
  rw [t2] at hc2
  rw [t3] at hc3
  rw [t4, ← hN] at q4
  rw [← hN] at t5
  have T5 : decide ((N : Int) < 1) = false := decide_eq_false (by omega)
  rw [← hN] at t6
  have T6 : decide ((4611686018427387904 : Int) < (N : Int)) = false := decide_eq_false (by omega)
  rw [← hS] at t7
  have T7 : decide ((1 : Int) < (S : Int)) = false := decide_eq_false (by omega)
  rw [← hU] at t8
  have T8 : decide (room < U) = true := decide_eq_true (by omega)
  have ew : IntKind.u64.wrap (room : Int) = (room : Int) := wraps_u64 _ (by omega) (by omega)
  clear t1 t2 t3 t4 t5 t6 t7 t8
  have HN := Lib.hid hN
  have HS := Lib.hid hS
  have HU := Lib.hid hU
  clear hN hS hU l1 l2 l3
  go_wp2_with fail
  refine wp_region_quiet_lit (by kernel_rfl) (by kernel_rfl) ?_
  repeat (first | go_big_quiet_step ((go_at_call 87; exact Calls.quiet_of (q4 _))) | quiet_step ((go_at_call 87; exact Calls.quiet_of (q4 _))))
  refine wpQuiet_nil ?_
  rintro _ ⟨nq2, rfl⟩
  obtain ⟨w3, hw3⟩ : ∃ w3, w3 = w2.drewN nq2 := ⟨_, rfl⟩
  rw [← hw3]
  have B3 := Lib.hid (show Below w.heap.size w w3 by rw [hw3]; exact Fr.below_iff.1 ((Fr.below_iff.2 B2.out).drewN nq2))
  have HB3 := Lib.hid (show w3.heap[w.heap.size]? = some (.cells #[.int .u64 0, .int .i64 0, .int .i64 0] 115 (0, 0)) by rw [hw3]; exact HB2.out)
  clear hw3 HB2 B2 hc1 hc2 hc3 hc4 q4 h2 h
  go_wp2_with ((with_reducible show wpList _ _ _ (Oper.mk _ (.store 115 _ _) _ _ _ _ :: _) _ _); go_must (refine wpList_store_mid rfl rfl 115 (.tmp 4) (.tmp 61) rfl w.heap.size 0 rfl [.int .u64 0, .int .i64 0, .int .i64 0] rfl 115 _ HB3.out hA (by simp) (by simp [Value.oneCell']) ?_); intro w4 hn4 hg4 hs4)
  have HB4 := Lib.hid (show w4.heap[w.heap.size]? = some (.cells #[.int .u64 0, .int .i64 0, .int .i64 0] 115 (0, 0)) from hn4)
  have B4 := Lib.hid (B3.out.grown hg4 B3.out.size (fun k hk => by cases hk; exact Nat.le_refl _))
  clear hn4 hg4 hs4
  refine bodyPost_ret (v := .agg #[.int .u64 0, .int .i64 0, .int .i64 0]) ((results_cell rfl _ _ _).trans ?_) rfl ⟨rfl, B4.out⟩
  exact load_tally _ _ _ HB4.out
/-- journal.right, told at once. -/
theorem wRight (w : World) (v : Value) (T : TypeId) (l : List UInt8) (h : RowIs w v T 1 256 (bv l)) (hl : l.length = 256) (room : Nat) (hroom : room ≤ 1000000000) :
    Calls Try.prog 57 #[v, .int .i64 room] w fun e w' => e = .returned (.agg #[.int .u64 ((tallyOf l room).1 : Nat), .int .i64 ((tallyOf l room).2.1 : Nat), .int .i64 ((tallyOf l room).2.2 : Nat)]) ∧ Below w.heap.size w w' := by
  by_cases hr : rightB l room
  · have e : tallyOf l room = (num (cutB l 8 16), num (cutB l 16 24), num (cutB l 24 32)) := by unfold tallyOf; rw [if_pos hr]
    rw [e]
    exact jright_yes w v T l h hl room hroom hr
  · have e : tallyOf l room = (0, 0, 0) := by unfold tallyOf; rw [if_neg hr]
    rw [e]
    by_cases t1 : cutB l 0 8 = word8
    · by_cases t2 : cutB l 32 40 = word8
      · by_cases t3 : cutB l 16 32 = cutB l 40 56
        · by_cases t4 : num (cutB l 56 64) = num (cutB l 8 16)
          · by_cases t5 : 1 ≤ num (cutB l 8 16)
            · by_cases t6 : num (cutB l 8 16) ≤ 4611686018427387904
              · by_cases t7 : num (cutB l 16 24) ≤ 1
                · by_cases t8 : num (cutB l 24 32) ≤ room
                  · exact absurd ⟨t1, t2, t3, t4, t5, t6, t7, t8⟩ hr
                  · exact jright_no8 w v T l h hl room hroom t1 t2 t3 t4 t5 t6 t7 t8
                · exact jright_no7 w v T l h hl room hroom t1 t2 t3 t4 t5 t6 t7
              · exact jright_no6 w v T l h hl room hroom t1 t2 t3 t4 t5 t6
            · exact jright_no5 w v T l h hl room hroom t1 t2 t3 t4 t5
          · exact jright_no4 w v T l h hl room hroom t1 t2 t3 t4
        · exact jright_no3 w v T l h hl room hroom t1 t2 t3
      · exact jright_no2 w v T l h hl room hroom t1 t2
    · exact jright_no1 w v T l h hl room hroom t1
end Go.Proofs.Yteggldplmbegfaa
