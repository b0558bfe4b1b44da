/- LAYER 4's LAWS: JournalArgs, walked. -/
import Derived.Test.YteggldplmbegfaaL4a
set_option linter.unusedVariables false
set_option linter.unusedSimpArgs false
namespace Go.Proofs.Yteggldplmbegfaa
open Go.RowKit

set_option maxRecDepth 100000 in
theorem jAdd_nil (w : World) (rv : Value) : Calls Try.prog 25 #[.pointer none, rv] w fun e w' => e = .returned (.int .i64 3) ∧ w' = w := by
  go_enter Try.func25, Try.ntmps25
  go_wp2_with fail
  refine (jBroken_nil w).mono ?_
  rintro e w' ⟨rfl, rfl⟩
  go_wp2
  go_ret
  exact ⟨rfl, rfl⟩
set_option maxRecDepth 100000 in
theorem jReplace_nil (w : World) (rv : Value) : Calls Try.prog 26 #[.pointer none, rv] w fun e w' => e = .returned (.int .i64 3) ∧ w' = w := by
  go_enter Try.func26, Try.ntmps26
  go_wp2_with fail
  refine (jBroken_nil w).mono ?_
  rintro e w' ⟨rfl, rfl⟩
  go_wp2
  go_ret
  exact ⟨rfl, rfl⟩
theorem jr1_long (n N : Nat) (rs : List (List UInt8)) (h : ∃ r ∈ rs, 65531 < r.length) : jr1.add (dev1 n) rs = (jr1, dev1 n, 4) ∧ jr1.replace (dev1 n) rs = (jr1, dev1 n, 4) := by
  have e : pack rs ((dev1 n).secs * 256) = ([], 4) := by unfold pack; rw [if_pos h]
  constructor
  · unfold Jr.add
    rw [if_neg (by decide), e, if_pos (.inl (by decide))]
  · unfold Jr.replace
    rw [if_neg (by decide), e, if_pos (by decide)]
/-- What a journal answers to a record of N bytes that is far too long for it. -/
theorem jr1_big {n N : Nat} (h6 : 6 ≤ n) (hn : n ≤ 30) (hN : 65529 ≤ N) : jr1.add (dev1 n) [List.replicate N 0] = (jr1, dev1 n, if 65531 < N then 4 else 5) ∧ jr1.replace (dev1 n) [[], List.replicate N 0] = (jr1, dev1 n, if 65531 < N then 4 else 5) := by
  have hs : (dev1 n).secs ≤ 14 := by unfold Dev.secs; rw [dev1_len]; omega
  by_cases h : 65531 < N
  · rw [if_pos h]
    exact ⟨(jr1_long n N _ ⟨_, List.mem_cons_self, by rw [List.length_replicate]; exact h⟩).1, (jr1_long n N _ ⟨List.replicate N 0, by simp, by rw [List.length_replicate]; exact h⟩).2⟩
  · rw [if_neg h]
    have h0 := fresh_holds h6 (Nat.le_trans hn (by omega))
    refine ⟨h0.add_full (fun r hr => ?_) (by simp) ?_, h0.replace_full (fun r hr => ?_) ?_⟩
    · obtain rfl := List.mem_singleton.1 hr
      rw [List.length_replicate]; omega
    · rw [List.nil_append, lie_length]
      simp only [List.map_cons, List.map_nil, List.sum_cons, List.sum_nil, need, List.length_replicate]
      omega
    · simp only [List.mem_cons, List.not_mem_nil, or_false] at hr
      rcases hr with rfl | rfl
      · simp
      · rw [List.length_replicate]; omega
    · rw [lie_length]
      simp only [List.map_cons, List.map_nil, List.sum_cons, List.sum_nil, need, List.length_replicate]
      omega
/-- The device of a new journal, off. -/
def devx (n : Nat) : Dev := (dev1 n).cut [] 0 0
theorem devx_off (n : Nat) : (devx n).off = true := by unfold devx Dev.cut; rw [if_neg (by simp [dev1, Dev.fresh])]
theorem devx_len (n : Nat) : (devx n).sure.length = n := by unfold devx; rw [Dev.cut_len, dev1_len]
theorem devx_changes (n : Nat) : (devx n).changes = 2 := by unfold devx; rw [Dev.cut_changes]; rfl
theorem devx_open {n : Nat} (h6 : 6 ≤ n) : openJ (devx n) = (none, devx n, 6) := by
  unfold openJ
  rw [if_neg (by rw [devx_len]; omega), if_pos (devx_off n)]
theorem devx_add {n : Nat} (h6 : 6 ≤ n) (hn : n ≤ 30) : jr1.add (devx n) [[]] = ({ jr1 with broken := true }, devx n, 6) := by
  have hs : 2 ≤ (devx n).secs := by unfold Dev.secs; rw [devx_len]; omega
  have hl : (lie [[]]).length = 5 := by rw [lie_length]; rfl
  have hp : pack [[]] ((devx n).secs * 256) = (lie [[]], 0) := by
    rw [pack_short (by simp)]
    rcases packL_is ((devx n).secs * 256) [[]] [] with h | ⟨h, h'⟩
    · exact h
    · rw [List.nil_append, hl] at h'
      omega
  unfold Jr.add
  rw [if_neg (by decide), hp, if_neg (by simp)]
  unfold Jr.lay
  rw [if_neg (by simp only [show jr1.number = 1 from rfl, show jr1.data = [] from rfl, List.nil_append, hl]; omega)]
  have e : layW jr1.side (jr1.data ++ lie [[]]) ((jr1.data ++ lie [[]]).length + 1) (jr1.data.length / 256) (devx n) = (devx n, 6) := by
    unfold layW
    rw [if_pos (by simp [show jr1.data = [] from rfl, hl])]
    have : ∀ i b, (devx n).write i b = (devx n, 6) := by
      intro i b
      unfold Dev.write Dev.may
      rw [if_pos (devx_off n), if_pos (by decide)]
    simp only [this]
    rfl
  simp only [e]
  rfl
theorem jx_add (D : Dev) (rs : List (List UInt8)) : ({ jr1 with broken := true } : Jr).add D rs = ({ jr1 with broken := true }, D, 3) := rfl
theorem jx_replace (D : Dev) (rs : List (List UInt8)) : ({ jr1 with broken := true } : Jr).replace D rs = ({ jr1 with broken := true }, D, 3) := rfl
theorem few_open {n : Nat} (h : n < 6) : openJ (Dev.fresh n) = (none, Dev.fresh n, 1) := by
  unfold openJ
  rw [if_pos (by simp [Dev.fresh]; exact h)]

theorem one_recs {w : World} {g : Nat} {x : Value} {a : List UInt8} {T1 : TypeId} (hg : w.heap[g]? = some (.cells #[x] 33 (0, 0))) (hx : RowIs w x T1 1 a.length (bv a)) (ha : a.length ≤ 1000000000) :
    RecsIs w (.slice (some ⟨g, 0, none⟩) 1 1) [a] := by
  refine six_recs (vs := [x]) (rs := [a]) hg rfl fun i r hr => ?_
  match i, hr with
  | 0, hr => simp only [List.getElem?_cons_zero, Option.some.injEq] at hr; subst hr; exact ⟨by omega, x, T1, rfl, hx⟩
  | i + 1, hr => simp at hr
/-- A record of N noughts, made. -/
theorem fill_row {w w1 : World} {N g : Nat} (hown : w1.ownsRow w.heap.size 5 1 (.slice (some ⟨g, 0, none⟩) N N) N (madeCells (Value.int .u8 0).cells (N * 1)).toList) :
    w1.heap[g]? = some (.cells (bv (List.replicate N 0)).toArray 5 (0, 0)) := by
  have hro := owns_row hown rfl
  rw [made5b N] at hro
  exact hro
theorem fill_is {w : World} {N g : Nat} (h : w.heap[g]? = some (.cells (bv (List.replicate N 0)).toArray 5 (0, 0))) : RowIs w (.slice (some ⟨g, 0, none⟩) N N) 5 1 (List.replicate N (0 : UInt8)).length (bv (List.replicate N 0)) := by
  rw [List.length_replicate]
  exact row_at h (by simp) (Nat.le_refl _)
set_option maxRecDepth 20000 in
set_option maxHeartbeats 4000000 in
theorem JArgs_any (w : World) (n : Int) (long : Int) (h64 : -9223372036854775808 ≤ n ∧ n ≤ 9223372036854775807) (hlong : -9223372036854775808 ≤ long ∧ long ≤ 9223372036854775807) :
    Calls Try.prog 4 #[.int .i64 n, .int .i64 long] w fun e w' => e = .returned (.bool true) ∧ Below w.heap.size w w' := by
  go_enter Try.func4, Try.ntmps4
  go_wp2_with fail
  refine (l4lives_any w).mono ?_
  rintro e w1 ⟨rfl, hb1⟩
  by_cases hr : n < 1 ∨ 30 < n
  · have : (decide (n < 1) = true ∨ decide (n < 1) = false ∧ decide (n > 30) = true) := by
      by_cases h : n < 1
      · exact .inl (decide_eq_true h)
      · exact .inr ⟨decide_eq_false h, decide_eq_true (by omega)⟩
    rcases this with h | ⟨h, h'⟩
    · go_wp2_with fail
      refine (l4lives_any w1).mono ?_
      rintro e w2 ⟨rfl, hb2⟩
      go_wp2
      go_ret
      exact ⟨rfl, hb1.trans (hb2.mono hb1.size)⟩
    · go_wp2_with fail
      refine (l4lives_any w1).mono ?_
      rintro e w2 ⟨rfl, hb2⟩
      go_wp2
      go_ret
      exact ⟨rfl, hb1.trans (hb2.mono hb1.size)⟩
  · have c1 : decide (n < 1) = false := decide_eq_false (by omega)
    have c2 : decide (n > 30) = false := decide_eq_false (by omega)
    obtain ⟨m, rfl⟩ : ∃ m : Nat, n = m := ⟨n.toNat, by omega⟩
    have hm1 : 1 ≤ m := by omega
    have hm2 : m ≤ 30 := by omega
    have F1 := Lib.hid hb1
    clear hb1 h64 hr
    go_wp2_with fail
    refine (wNew w1 m _ rfl hm1 (by omega)).mono ?_
    rintro e w2 ⟨b, bs, rfl, hd2, hb, hbs, hb2⟩
    have F2 := Lib.hid (F1.out.trans (hb2.mono F1.out.size))
    have HD2 := Lib.hid hd2
    have hbw : w.heap.size ≤ b := Nat.le_trans F1.out.size hb
    have hbsw : w.heap.size ≤ bs := Nat.le_trans F1.out.size hbs
    clear hb2 hd2 F1 hb hbs
    by_cases h6 : m < 6
    · have c3 : decide ((m : Int) < 6) = true := decide_eq_true (by omega)
      go_wp2_with fail
      refine (jOpen_any w2 b bs _ HD2.out (Dev.fresh_ok m hm1 (by omega)) (by simp [Dev.fresh])).mono ?_
      rintro e w3 ⟨hf3, hd3, hx⟩
      rw [few_open h6] at hd3 hx
      simp only at hd3 hx
      subst hx
      have F3 := Lib.hid (Fr.below_iff.1 ((Fr.below_iff.2 F2.out).then hf3 (by simp; omega)))
      have HD3 := Lib.hid hd3
      clear hf3 hd3
      go_wp2_with fail
      refine (jOpen_nil w3).mono ?_
      rintro e w4 ⟨rfl, rfl⟩
      go_wp2_with fail
      refine (jAdd_nil _ _).mono ?_
      rintro e w5 ⟨rfl, hw5⟩
      have hb5 : Below w4.heap.size w4 w5 := by rw [hw5]; exact (Below.refl _ _).alloc (Nat.le_refl _) _
      have F5 := Lib.hid (F3.out.trans (hb5.mono F3.out.size))
      have HB5 := Lib.hid hb5
      clear hw5 hb5 F3
      go_wp2_with fail
      refine (jReplace_nil _ _).mono ?_
      rintro e w6 ⟨rfl, rfl⟩
      go_wp2_with fail
      refine (jRoom_nil _).mono ?_
      rintro e w6 ⟨rfl, rfl⟩
      go_wp2_with fail
      refine (jLen_nil _).mono ?_
      rintro e w6 ⟨rfl, rfl⟩
      go_wp2_with fail
      refine (jBroken_nil _).mono ?_
      rintro e w6 ⟨rfl, rfl⟩
      have HD5 := Lib.hid (HD3.out.below HB5.out)
      clear HB5 HD3
      go_wp2_with fail
      refine (wChanges _ b bs _ HD5.out).mono ?_
      rintro e w6 ⟨rfl, rfl⟩
      rw [show (Dev.fresh m).changes = 0 from rfl]
      go_wp2
      go_ret
      exact ⟨rfl, F5.out⟩
    · have c3 : decide ((m : Int) < 6) = false := decide_eq_false (by omega)
      have h6' : 6 ≤ m := by omega
      go_wp2_with fail
      refine (hOpen_new w2 b bs h6' (by omega) HD2.out).mono ?_
      rintro e w3 ⟨jb, rv, rfl, hjb, hj3, hr3, hf3⟩
      have hjbw : w.heap.size ≤ jb := Nat.le_trans F2.out.size hjb
      have F3 := Lib.hid (Fr.below_iff.1 ((Fr.below_iff.2 F2.out).then hf3 (by simp; omega)))
      have HJ3 := Lib.hid hj3
      obtain ⟨A3, cc3, rfl, _⟩ := hr3.recs.shape
      clear hf3 hj3 hr3 F2 HD2 hjb
      simp only [List.length_nil]
      go_wp2_with fail
      refine (jOpen_nil w3).mono ?_
      rintro e w4 ⟨rfl, rfl⟩
      go_wp2_with fail
      refine (jAdd_nil _ _).mono ?_
      rintro e w5 ⟨rfl, hw5⟩
      have hb5 : Below w4.heap.size w4 w5 := by rw [hw5]; exact (Below.refl _ _).alloc (Nat.le_refl _) _
      have F5 := Lib.hid (F3.out.trans (hb5.mono F3.out.size))
      have HB5 := Lib.hid hb5
      clear hw5 hb5 F3
      go_wp2_with fail
      refine (jReplace_nil _ _).mono ?_
      rintro e w6 ⟨rfl, rfl⟩
      go_wp2_with fail
      refine (jRoom_nil _).mono ?_
      rintro e w6 ⟨rfl, rfl⟩
      go_wp2_with fail
      refine (jLen_nil _).mono ?_
      rintro e w6 ⟨rfl, rfl⟩
      go_wp2_with fail
      refine (jBroken_nil _).mono ?_
      rintro e w6 ⟨rfl, rfl⟩
      have HJ5 := Lib.hid (HJ3.out.below HB5.out)
      clear HB5 HJ3
      obtain ⟨k, hk, hkl⟩ : ∃ k : Nat, wrap64 (65529 + wrap64 ((IntKind.u64.wrap long).tmod 5)) = ((65529 + k : Nat) : Int) ∧ k < 5 := by
        have h1 : 0 ≤ IntKind.u64.wrap long := by rw [IntKind.wrap_u64]; omega
        refine ⟨((IntKind.u64.wrap long).tmod 5).toNat, ?_, ?_⟩
        · rw [Int.tmod_eq_emod_of_nonneg h1]; unfold wrap64; omega
        · rw [Int.tmod_eq_emod_of_nonneg h1]; omega
      have h0 := fresh_holds h6' (by omega : m ≤ 4096)
      have HK := Lib.hid hk
      have H0 := Lib.hid h0
      by_cases hbig : 65531 < 65529 + k
      · have c4 : decide (wrap64 (65529 + wrap64 ((IntKind.u64.wrap long).tmod 5)) > 65531) = true := by rw [hk]; exact decide_eq_true (by omega)
        clear hk h0
        go_wp2_with fail
        refine (hAdd _ jb b bs HJ5.out H0.out.calm.ok (by rw [dev1_len]; omega) (H0.out.wf (by simp)) (by simp [dev1, Dev.fresh]) (.slice none 0 0) [] (RecsIs.nil _ _ _) (by decide)).mono ?_
        rintro e w6 ⟨rfl, hj6, hf6⟩
        rw [H0.out.add_none] at hj6 ⊢
        simp only at hj6 ⊢
        have HJ6 := Lib.hid hj6
        have F6 := Lib.hid (Fr.below_iff.1 ((Fr.below_iff.2 F5.out).then hf6 (by simp; omega)))
        clear hj6 hf6 HJ5 F5
        go_wp2_with fail
        refine (wChanges _ b bs _ HJ6.out.dev).mono ?_
        rintro e w7 ⟨rfl, rfl⟩
        rw [show (dev1 m).changes = 2 from rfl]
        obtain ⟨z0, hi, hz0, hz1, hz2⟩ := info_parts info5
        obtain ⟨wm, km, hown, hgr⟩ := run_make_full (P := Try.prog) w7 w7.heap.size 33 5 z0 _ 1 Try.underlying33 hi hz0 hz1 .i64 .i64 (65529 + k) (by rw [hz2]; omega) (by unfold maxLen; omega) (Nat.le_refl _)
        rw [← HK.out] at km
        go_wp2_with fail
        obtain ⟨wa, hwa, hrec, hba⟩ : ∃ wa, wa = (wm.alloc (.cells #[.slice (some ⟨w7.heap.size, 0, none⟩) (65529 + k) (65529 + k)] 33)) ∧ RecsIs wa (.slice (some ⟨wm.heap.size, 0, none⟩) 1 1) [List.replicate (65529 + k) 0] ∧ Below w7.heap.size w7 wa := by
          have hbm : Below w7.heap.size w7 wm := Fr.below_iff.1 ((Fr.refl w7 []).grown hgr (by simp))
          refine ⟨_, rfl, one_recs (T1 := 5) (heap_alloc_new _ _) (fill_is ?_) (by rw [List.length_replicate]; omega), hbm.alloc hbm.size _⟩
          rw [heap_alloc_old _ _ (lt_of_heap (fill_row hown))]
          exact fill_row hown
        rw [← hwa]
        have HJa := Lib.hid (HJ6.out.below hba)
        have Fa := Lib.hid (F6.out.trans (hba.mono F6.out.size))
        clear km hown hgr hwa hba HJ6 F6
        refine (hAdd wa jb b bs HJa.out H0.out.calm.ok (by rw [dev1_len]; omega) (H0.out.wf (by simp)) (by simp [dev1, Dev.fresh]) _ _ hrec (by simp)).mono ?_
        rintro e w8 ⟨rfl, hj8, hf8⟩
        rw [(jr1_big h6' hm2 (by omega)).1] at hj8 ⊢
        rw [if_pos hbig] 
        simp only at hj8 ⊢
        have HJ8 := Lib.hid hj8
        have F8 := Lib.hid (Fr.below_iff.1 ((Fr.below_iff.2 Fa.out).then hf8 (by simp; omega)))
        clear hj8 hf8 HJa Fa hrec
        obtain ⟨wm, km, hown, hgr⟩ := run_make_full (P := Try.prog) w8 w8.heap.size 33 5 z0 _ 1 Try.underlying33 hi hz0 hz1 .i64 .i64 (65529 + k) (by rw [hz2]; omega) (by unfold maxLen; omega) (Nat.le_refl _)
        rw [← HK.out] at km
        go_wp2_with fail
        obtain ⟨wa, hwa, hrec, hba⟩ : ∃ wa, wa = (wm.alloc (.cells #[.slice none 0 0, .slice (some ⟨w8.heap.size, 0, none⟩) (65529 + k) (65529 + k)] 33)) ∧ RecsIs wa (.slice (some ⟨wm.heap.size, 0, none⟩) 2 2) [[], List.replicate (65529 + k) 0] ∧ Below w8.heap.size w8 wa := by
          have hbm : Below w8.heap.size w8 wm := Fr.below_iff.1 ((Fr.refl w8 []).grown hgr (by simp))
          refine ⟨_, rfl, two_recs (x := .slice none 0 0) (a := []) (T1 := 0) (T2 := 5) (heap_alloc_new _ _) (RowIs.nil _ _ _ none 0) (fill_is ?_) (by decide) (by rw [List.length_replicate]; omega), hbm.alloc hbm.size _⟩
          rw [heap_alloc_old _ _ (lt_of_heap (fill_row hown))]
          exact fill_row hown
        rw [← hwa]
        have HJa := Lib.hid (HJ8.out.below hba)
        have Fa := Lib.hid (F8.out.trans (hba.mono F8.out.size))
        clear km hown hgr hwa hba HJ8 F8
        refine (hReplace wa jb b bs HJa.out H0.out.calm.ok (by rw [dev1_len]; omega) (H0.out.wf (by simp)) (by simp [dev1, Dev.fresh]) _ _ hrec (by simp)).mono ?_
        rintro e w9 ⟨rfl, hj9, hf9⟩
        rw [(jr1_big h6' hm2 (by omega)).2] at hj9 ⊢
        rw [if_pos hbig]
        simp only at hj9 ⊢
        have HJ9 := Lib.hid hj9
        have F9 := Lib.hid (Fr.below_iff.1 ((Fr.below_iff.2 Fa.out).then hf9 (by simp; omega)))
        clear hj9 hf9 HJa Fa hrec
        go_wp2_with fail
        refine (wChanges _ b bs _ HJ9.out.dev).mono ?_
        rintro e w10 ⟨rfl, rfl⟩
        rw [show (dev1 m).changes = 2 from rfl]
        go_wp2_with fail
        refine (wCut _ b bs _ HJ9.out.dev H0.out.calm.ok (.slice none 0 0) [] 0 0 0 (RowIs.nil _ _ _ none 0) (by simp [OffB]) (by decide)).mono ?_
        rintro e w11 ⟨rfl, hd11, hf11⟩
        have HJ11 := Lib.hid (show JAt w11 jb b bs jr1 (devx m) from HJ9.out.moved hd11 hf11)
        have F11 := Lib.hid (Fr.below_iff.1 ((Fr.below_iff.2 F9.out).then hf11 (by simp; omega)))
        clear hd11 hf11 HJ9 F9
        go_wp2_with fail
        refine (jOpen_any _ b bs _ HJ11.out.dev (Dev.cut_ok H0.out.calm.ok _ _ _) (by rw [devx_changes]; omega)).mono ?_
        rintro e w12 ⟨hf12, hd12, hx12⟩
        rw [devx_open h6'] at hd12 hx12
        simp only at hd12 hx12
        subst hx12
        have HJ12 := Lib.hid (HJ11.out.moved hd12 hf12)
        have F12 := Lib.hid (Fr.below_iff.1 ((Fr.below_iff.2 F11.out).then hf12 (by simp; omega)))
        clear hd12 hf12 HJ11 F11
        go_wp2_with fail
        obtain ⟨wa, hwa, hrec, hba⟩ : ∃ wa, wa = (w12.alloc (.cells #[.slice none 0 0] 33)) ∧ RecsIs wa (.slice (some ⟨w12.heap.size, 0, none⟩) 1 1) [[]] ∧ Below w12.heap.size w12 wa :=
          ⟨_, rfl, one_recs (T1 := 0) (heap_alloc_new _ _) (RowIs.nil _ _ _ none 0) (by decide), (Below.refl _ _).alloc (Nat.le_refl _) _⟩
        rw [← hwa]
        have HJa := Lib.hid (HJ12.out.below hba)
        have Fa := Lib.hid (F12.out.trans (hba.mono F12.out.size))
        clear hwa hba HJ12 F12
        refine (hAdd wa jb b bs HJa.out (Dev.cut_ok H0.out.calm.ok _ _ _) (by rw [devx_len]; omega) (H0.out.wf (by simp)) (by rw [devx_changes]; omega) _ _ hrec (by simp)).mono ?_
        rintro e w13 ⟨rfl, hj13, hf13⟩
        rw [devx_add h6' hm2] at hj13 ⊢
        simp only at hj13 ⊢
        have HJ13 := Lib.hid hj13
        have F13 := Lib.hid (Fr.below_iff.1 ((Fr.below_iff.2 Fa.out).then hf13 (by simp; omega)))
        clear hj13 hf13 HJa Fa hrec
        go_wp2_with fail
        refine (hBroken _ jb b bs HJ13.out).mono ?_
        rintro e w14 ⟨rfl, rfl⟩
        simp only
        go_wp2_with fail
        obtain ⟨wa, hwa, hrec, hba⟩ : ∃ wa, wa = (w14.alloc (.cells #[.slice none 0 0] 33)) ∧ RecsIs wa (.slice (some ⟨w14.heap.size, 0, none⟩) 1 1) [[]] ∧ Below w14.heap.size w14 wa :=
          ⟨_, rfl, one_recs (T1 := 0) (heap_alloc_new _ _) (RowIs.nil _ _ _ none 0) (by decide), (Below.refl _ _).alloc (Nat.le_refl _) _⟩
        rw [← hwa]
        have HJa := Lib.hid (HJ13.out.below hba)
        have Fa := Lib.hid (F13.out.trans (hba.mono F13.out.size))
        have hwf := H0.out.wf (by simp)
        clear hwa hba HJ13 F13
        refine (hAdd wa jb b bs HJa.out (Dev.cut_ok H0.out.calm.ok _ _ _) (by rw [devx_len]; omega) ⟨hwf.num, hwf.side, hwf.len, hwf.count⟩ (by rw [devx_changes]; omega) _ _ hrec (by simp)).mono ?_
        rintro e w15 ⟨rfl, hj15, hf15⟩
        rw [jx_add] at hj15 ⊢
        simp only at hj15 ⊢
        have HJ15 := Lib.hid hj15
        have F15 := Lib.hid (Fr.below_iff.1 ((Fr.below_iff.2 Fa.out).then hf15 (by simp; omega)))
        clear hj15 hf15 HJa Fa hrec
        go_wp2_with fail
        obtain ⟨wa, hwa, hrec, hba⟩ : ∃ wa, wa = (w15.alloc (.cells #[.slice none 0 0] 33)) ∧ RecsIs wa (.slice (some ⟨w15.heap.size, 0, none⟩) 1 1) [[]] ∧ Below w15.heap.size w15 wa :=
          ⟨_, rfl, one_recs (T1 := 0) (heap_alloc_new _ _) (RowIs.nil _ _ _ none 0) (by decide), (Below.refl _ _).alloc (Nat.le_refl _) _⟩
        rw [← hwa]
        have HJa := Lib.hid (HJ15.out.below hba)
        have Fa := Lib.hid (F15.out.trans (hba.mono F15.out.size))
        clear hwa hba HJ15 F15
        refine (hReplace wa jb b bs HJa.out (Dev.cut_ok H0.out.calm.ok _ _ _) (by rw [devx_len]; omega) ⟨hwf.num, hwf.side, hwf.len, hwf.count⟩ (by rw [devx_changes]; omega) _ _ hrec (by simp)).mono ?_
        rintro e w16 ⟨rfl, hj16, hf16⟩
        rw [jx_replace] at hj16 ⊢
        simp only at hj16 ⊢
        have F16 := Lib.hid (Fr.below_iff.1 ((Fr.below_iff.2 Fa.out).then hf16 (by simp; omega)))
        clear hj16 hf16 HJa Fa hrec
        go_wp2
        go_ret
        exact ⟨rfl, F16.out⟩
      · have c4 : decide (wrap64 (65529 + wrap64 ((IntKind.u64.wrap long).tmod 5)) > 65531) = false := by rw [hk]; exact decide_eq_false (by omega)
        clear hk h0
        go_wp2_with fail
        refine (hAdd _ jb b bs HJ5.out H0.out.calm.ok (by rw [dev1_len]; omega) (H0.out.wf (by simp)) (by simp [dev1, Dev.fresh]) (.slice none 0 0) [] (RecsIs.nil _ _ _) (by decide)).mono ?_
        rintro e w6 ⟨rfl, hj6, hf6⟩
        rw [H0.out.add_none] at hj6 ⊢
        simp only at hj6 ⊢
        have HJ6 := Lib.hid hj6
        have F6 := Lib.hid (Fr.below_iff.1 ((Fr.below_iff.2 F5.out).then hf6 (by simp; omega)))
        clear hj6 hf6 HJ5 F5
        go_wp2_with fail
        refine (wChanges _ b bs _ HJ6.out.dev).mono ?_
        rintro e w7 ⟨rfl, rfl⟩
        rw [show (dev1 m).changes = 2 from rfl]
        obtain ⟨z0, hi, hz0, hz1, hz2⟩ := info_parts info5
        obtain ⟨wm, km, hown, hgr⟩ := run_make_full (P := Try.prog) w7 w7.heap.size 33 5 z0 _ 1 Try.underlying33 hi hz0 hz1 .i64 .i64 (65529 + k) (by rw [hz2]; omega) (by unfold maxLen; omega) (Nat.le_refl _)
        rw [← HK.out] at km
        go_wp2_with fail
        obtain ⟨wa, hwa, hrec, hba⟩ : ∃ wa, wa = (wm.alloc (.cells #[.slice (some ⟨w7.heap.size, 0, none⟩) (65529 + k) (65529 + k)] 33)) ∧ RecsIs wa (.slice (some ⟨wm.heap.size, 0, none⟩) 1 1) [List.replicate (65529 + k) 0] ∧ Below w7.heap.size w7 wa := by
          have hbm : Below w7.heap.size w7 wm := Fr.below_iff.1 ((Fr.refl w7 []).grown hgr (by simp))
          refine ⟨_, rfl, one_recs (T1 := 5) (heap_alloc_new _ _) (fill_is ?_) (by rw [List.length_replicate]; omega), hbm.alloc hbm.size _⟩
          rw [heap_alloc_old _ _ (lt_of_heap (fill_row hown))]
          exact fill_row hown
        rw [← hwa]
        have HJa := Lib.hid (HJ6.out.below hba)
        have Fa := Lib.hid (F6.out.trans (hba.mono F6.out.size))
        clear km hown hgr hwa hba HJ6 F6
        refine (hAdd wa jb b bs HJa.out H0.out.calm.ok (by rw [dev1_len]; omega) (H0.out.wf (by simp)) (by simp [dev1, Dev.fresh]) _ _ hrec (by simp)).mono ?_
        rintro e w8 ⟨rfl, hj8, hf8⟩
        rw [(jr1_big h6' hm2 (by omega)).1] at hj8 ⊢
        rw [if_neg hbig] 
        simp only at hj8 ⊢
        have HJ8 := Lib.hid hj8
        have F8 := Lib.hid (Fr.below_iff.1 ((Fr.below_iff.2 Fa.out).then hf8 (by simp; omega)))
        clear hj8 hf8 HJa Fa hrec
        obtain ⟨wm, km, hown, hgr⟩ := run_make_full (P := Try.prog) w8 w8.heap.size 33 5 z0 _ 1 Try.underlying33 hi hz0 hz1 .i64 .i64 (65529 + k) (by rw [hz2]; omega) (by unfold maxLen; omega) (Nat.le_refl _)
        rw [← HK.out] at km
        go_wp2_with fail
        obtain ⟨wa, hwa, hrec, hba⟩ : ∃ wa, wa = (wm.alloc (.cells #[.slice none 0 0, .slice (some ⟨w8.heap.size, 0, none⟩) (65529 + k) (65529 + k)] 33)) ∧ RecsIs wa (.slice (some ⟨wm.heap.size, 0, none⟩) 2 2) [[], List.replicate (65529 + k) 0] ∧ Below w8.heap.size w8 wa := by
          have hbm : Below w8.heap.size w8 wm := Fr.below_iff.1 ((Fr.refl w8 []).grown hgr (by simp))
          refine ⟨_, rfl, two_recs (x := .slice none 0 0) (a := []) (T1 := 0) (T2 := 5) (heap_alloc_new _ _) (RowIs.nil _ _ _ none 0) (fill_is ?_) (by decide) (by rw [List.length_replicate]; omega), hbm.alloc hbm.size _⟩
          rw [heap_alloc_old _ _ (lt_of_heap (fill_row hown))]
          exact fill_row hown
        rw [← hwa]
        have HJa := Lib.hid (HJ8.out.below hba)
        have Fa := Lib.hid (F8.out.trans (hba.mono F8.out.size))
        clear km hown hgr hwa hba HJ8 F8
        refine (hReplace wa jb b bs HJa.out H0.out.calm.ok (by rw [dev1_len]; omega) (H0.out.wf (by simp)) (by simp [dev1, Dev.fresh]) _ _ hrec (by simp)).mono ?_
        rintro e w9 ⟨rfl, hj9, hf9⟩
        rw [(jr1_big h6' hm2 (by omega)).2] at hj9 ⊢
        rw [if_neg hbig]
        simp only at hj9 ⊢
        have HJ9 := Lib.hid hj9
        have F9 := Lib.hid (Fr.below_iff.1 ((Fr.below_iff.2 Fa.out).then hf9 (by simp; omega)))
        clear hj9 hf9 HJa Fa hrec
        go_wp2_with fail
        refine (wChanges _ b bs _ HJ9.out.dev).mono ?_
        rintro e w10 ⟨rfl, rfl⟩
        rw [show (dev1 m).changes = 2 from rfl]
        go_wp2_with fail
        refine (wCut _ b bs _ HJ9.out.dev H0.out.calm.ok (.slice none 0 0) [] 0 0 0 (RowIs.nil _ _ _ none 0) (by simp [OffB]) (by decide)).mono ?_
        rintro e w11 ⟨rfl, hd11, hf11⟩
        have HJ11 := Lib.hid (show JAt w11 jb b bs jr1 (devx m) from HJ9.out.moved hd11 hf11)
        have F11 := Lib.hid (Fr.below_iff.1 ((Fr.below_iff.2 F9.out).then hf11 (by simp; omega)))
        clear hd11 hf11 HJ9 F9
        go_wp2_with fail
        refine (jOpen_any _ b bs _ HJ11.out.dev (Dev.cut_ok H0.out.calm.ok _ _ _) (by rw [devx_changes]; omega)).mono ?_
        rintro e w12 ⟨hf12, hd12, hx12⟩
        rw [devx_open h6'] at hd12 hx12
        simp only at hd12 hx12
        subst hx12
        have HJ12 := Lib.hid (HJ11.out.moved hd12 hf12)
        have F12 := Lib.hid (Fr.below_iff.1 ((Fr.below_iff.2 F11.out).then hf12 (by simp; omega)))
        clear hd12 hf12 HJ11 F11
        go_wp2_with fail
        obtain ⟨wa, hwa, hrec, hba⟩ : ∃ wa, wa = (w12.alloc (.cells #[.slice none 0 0] 33)) ∧ RecsIs wa (.slice (some ⟨w12.heap.size, 0, none⟩) 1 1) [[]] ∧ Below w12.heap.size w12 wa :=
          ⟨_, rfl, one_recs (T1 := 0) (heap_alloc_new _ _) (RowIs.nil _ _ _ none 0) (by decide), (Below.refl _ _).alloc (Nat.le_refl _) _⟩
        rw [← hwa]
        have HJa := Lib.hid (HJ12.out.below hba)
        have Fa := Lib.hid (F12.out.trans (hba.mono F12.out.size))
        clear hwa hba HJ12 F12
        refine (hAdd wa jb b bs HJa.out (Dev.cut_ok H0.out.calm.ok _ _ _) (by rw [devx_len]; omega) (H0.out.wf (by simp)) (by rw [devx_changes]; omega) _ _ hrec (by simp)).mono ?_
        rintro e w13 ⟨rfl, hj13, hf13⟩
        rw [devx_add h6' hm2] at hj13 ⊢
        simp only at hj13 ⊢
        have HJ13 := Lib.hid hj13
        have F13 := Lib.hid (Fr.below_iff.1 ((Fr.below_iff.2 Fa.out).then hf13 (by simp; omega)))
        clear hj13 hf13 HJa Fa hrec
        go_wp2_with fail
        refine (hBroken _ jb b bs HJ13.out).mono ?_
        rintro e w14 ⟨rfl, rfl⟩
        simp only
        go_wp2_with fail
        obtain ⟨wa, hwa, hrec, hba⟩ : ∃ wa, wa = (w14.alloc (.cells #[.slice none 0 0] 33)) ∧ RecsIs wa (.slice (some ⟨w14.heap.size, 0, none⟩) 1 1) [[]] ∧ Below w14.heap.size w14 wa :=
          ⟨_, rfl, one_recs (T1 := 0) (heap_alloc_new _ _) (RowIs.nil _ _ _ none 0) (by decide), (Below.refl _ _).alloc (Nat.le_refl _) _⟩
        rw [← hwa]
        have HJa := Lib.hid (HJ13.out.below hba)
        have Fa := Lib.hid (F13.out.trans (hba.mono F13.out.size))
        have hwf := H0.out.wf (by simp)
        clear hwa hba HJ13 F13
        refine (hAdd wa jb b bs HJa.out (Dev.cut_ok H0.out.calm.ok _ _ _) (by rw [devx_len]; omega) ⟨hwf.num, hwf.side, hwf.len, hwf.count⟩ (by rw [devx_changes]; omega) _ _ hrec (by simp)).mono ?_
        rintro e w15 ⟨rfl, hj15, hf15⟩
        rw [jx_add] at hj15 ⊢
        simp only at hj15 ⊢
        have HJ15 := Lib.hid hj15
        have F15 := Lib.hid (Fr.below_iff.1 ((Fr.below_iff.2 Fa.out).then hf15 (by simp; omega)))
        clear hj15 hf15 HJa Fa hrec
        go_wp2_with fail
        obtain ⟨wa, hwa, hrec, hba⟩ : ∃ wa, wa = (w15.alloc (.cells #[.slice none 0 0] 33)) ∧ RecsIs wa (.slice (some ⟨w15.heap.size, 0, none⟩) 1 1) [[]] ∧ Below w15.heap.size w15 wa :=
          ⟨_, rfl, one_recs (T1 := 0) (heap_alloc_new _ _) (RowIs.nil _ _ _ none 0) (by decide), (Below.refl _ _).alloc (Nat.le_refl _) _⟩
        rw [← hwa]
        have HJa := Lib.hid (HJ15.out.below hba)
        have Fa := Lib.hid (F15.out.trans (hba.mono F15.out.size))
        clear hwa hba HJ15 F15
        refine (hReplace wa jb b bs HJa.out (Dev.cut_ok H0.out.calm.ok _ _ _) (by rw [devx_len]; omega) ⟨hwf.num, hwf.side, hwf.len, hwf.count⟩ (by rw [devx_changes]; omega) _ _ hrec (by simp)).mono ?_
        rintro e w16 ⟨rfl, hj16, hf16⟩
        rw [jx_replace] at hj16 ⊢
        simp only at hj16 ⊢
        have F16 := Lib.hid (Fr.below_iff.1 ((Fr.below_iff.2 Fa.out).then hf16 (by simp; omega)))
        clear hj16 hf16 HJa Fa hrec
        go_wp2
        go_ret
        exact ⟨rfl, F16.out⟩
end Go.Proofs.Yteggldplmbegfaa
