/- journal.Open, walked. -/
import Derived.Test.YteggldplmbegfaaJnAdd
import Derived.Test.YteggldplmbegfaaJnRead
set_option linter.unusedVariables false
set_option linter.unusedSimpArgs false
namespace Go.Proofs.Yteggldplmbegfaa
open Go.RowKit

def OpenPost (w : World) (b bs : Nat) (x : Option (Jr × List (List UInt8)) × Dev × Int) (e : Ending) (w' : World) : Prop :=
  Fr w w' [b, bs] ∧ DevIs w' b bs x.2.1 ∧ match x.1 with
    | some (J, rs) => ∃ jb dv rv, e = .returned (.tuple #[.pointer (some ⟨jb, 0, none⟩), rv, .int .i64 0]) ∧ w.heap.size ≤ jb ∧ JIs w' jb b bs dv J x.2.1 ∧ RecsT w' rv rs
    | none => e = .returned (.tuple #[.pointer none, .slice none 0 0, .int .i64 x.2.2])
set_option maxRecDepth 100000 in
theorem jOpen_nil (w : World) : Calls Try.prog 24 #[.pointer none] w fun e w' => e = .returned (.tuple #[.pointer none, .slice none 0 0, .int .i64 1]) ∧ w' = w := by
  go_enter Try.func24, Try.ntmps24
  go_wp2_with fail
  refine (dSize_nil w).mono ?_
  rintro e w' ⟨rfl, rfl⟩
  go_wp2
  go_ret3
  exact ⟨rfl, rfl⟩
theorem tallyOf_zero (b : List UInt8) (room : Nat) (h : (tallyOf b room).1 = 0) : tallyOf b room = (0, 0, 0) := by
  unfold tallyOf at h ⊢
  split
  · rename_i hr
    rw [if_pos hr] at h
    have := hr.2.2.2.2.1
    simp only at h
    omega
  · rfl
theorem tallyOf_bounds (b : List UInt8) (room : Nat) : (tallyOf b room).1 ≤ 4611686018427387904 ∧ (tallyOf b room).2.1 ≤ 1 ∧ (tallyOf b room).2.2 ≤ room := by
  unfold tallyOf
  split
  · rename_i hr
    exact ⟨hr.2.2.2.2.2.1, hr.2.2.2.2.2.2.1, hr.2.2.2.2.2.2.2⟩
  · simp
def Dev.Tk (D : Dev) : Nat → Nat × Nat × Nat
  | 0 => (0, 0, 0)
  | 1 => tallyOf (D.at_ 0) (D.secs * 256)
  | _ => D.tally
theorem Dev.Tk_step (D : Dev) (k : Nat) (hk : k < 2) : D.Tk (k + 1) = if (D.Tk k).1 < (tallyOf (D.at_ (k : Nat)) (D.secs * 256)).1 then tallyOf (D.at_ (k : Nat)) (D.secs * 256) else D.Tk k := by
  match k, hk with
  | 0, _ =>
    show tallyOf (D.at_ 0) _ = if (0 : Nat) < _ then _ else (0, 0, 0)
    split
    · rfl
    · rename_i h
      exact tallyOf_zero _ _ (by
        have h2 : ¬ 0 < (tallyOf (D.at_ 0) (D.secs * 256)).1 := h
        omega)
  | 1, _ => rfl
theorem Dev.Tk_bounds (D : Dev) (k : Nat) : (D.Tk k).1 ≤ 4611686018427387904 ∧ (D.Tk k).2.1 ≤ 1 ∧ (D.Tk k).2.2 ≤ D.secs * 256 := by
  match k with
  | 0 => simp [Dev.Tk]
  | 1 => exact tallyOf_bounds _ _
  | k + 2 =>
    show (D.tally).1 ≤ _ ∧ (D.tally).2.1 ≤ _ ∧ (D.tally).2.2 ≤ _
    unfold Dev.tally
    simp only
    split
    · exact tallyOf_bounds _ _
    · exact tallyOf_bounds _ _
def jr0 (t : Nat × Nat × Nat) : Jr := { number := t.1, side := t.2.1, used := t.2.2, data := [], count := 0, broken := false }
theorem zrow115 : (Try.prog.info? 115).map (·.zero) = some (some (.agg #[.int .u64 0, .int .i64 0, .int .i64 0])) := by kernel_rfl
theorem own_ne {w : World} {base n k : Nat} {v : Value} {xs : List Value} {c : Array Value} (h : w.ownsRow base 5 1 v n xs) (hk : w.heap[k]? = some (.cells c 117 (0, 0))) : some k ≠ v.ownBlock := fun e => by
  obtain ⟨c2, h2⟩ := own_type h k e.symm
  rw [hk] at h2
  simp at h2
theorem dev_own_grown {w w4 : World} {b bs base n : Nat} {D : Dev} {v : Value} {xs : List Value} (hd : DevIs w b bs D) (ho : w.ownsRow base 5 1 v n xs) (hg : w.grownBy w4 v.ownBlock) : DevIs w4 b bs D := by
  refine hd.move (S := v.ownBlock.toList) ((Fr.refl w _).grown hg (fun k hk => .inl (by simp [hk]))) fun x hx => ?_
  obtain ⟨c, hc⟩ := own_type ho x (by simpa using hx)
  exact .inr ⟨_, _, _, hc, by decide, by decide, by decide, by decide⟩
theorem jset_dev {w : World} {jb b bs j : Nat} {v : Value} {D : Dev} {c : Array Value} (hd : DevIs w b bs D) (hj : w.heap[jb]? = some (.cells c 117 (0, 0))) : DevIs (w.setCell ⟨jb, j, none⟩ v) b bs D := by
  refine hd.move (S := [jb]) ((Fr.refl w _).grown (setCell_grown w jb j v) (fun k hk => by cases hk; exact .inl (by simp))) fun x hx => ?_
  simp only [List.mem_cons, List.not_mem_nil, or_false] at hx
  subst hx
  exact .inr ⟨_, _, _, hj, by decide, by decide, by decide, by decide⟩
theorem side_may {D : Dev} (ho : D.off = false) (h2 : 2 ≤ D.sure.length) {T2 k : Nat} (hT : T2 ≤ 1) (hk : k < D.secs) : D.may ((2 + T2 * D.secs + k : Nat) : Int) = 0 := by
  have h3 : 2 * D.secs + 2 ≤ D.sure.length := by unfold Dev.secs; omega
  have h4 : T2 * D.secs ≤ 1 * D.secs := Nat.mul_le_mul_right _ hT
  unfold Dev.may
  rw [if_neg (by simp [ho]), if_neg (by omega)]
theorem side_len {D : Dev} (hw : D.Wf) (ho : D.off = false) (h2 : 2 ≤ D.sure.length) {T2 : Nat} (hT : T2 ≤ 1) : ∀ k, k ≤ D.secs → (D.side T2 k).length = k * 256
  | 0, _ => rfl
  | k + 1, hk => by
    rw [Dev.side, List.length_append, side_len hw ho h2 hT k (by omega), Dev.at_len hw (side_may ho h2 hT (by omega))]
    omega
theorem tally_zero {D : Dev} (h : D.tally.1 = 0) : D.tally = (0, 0, 0) := by
  unfold Dev.tally at h ⊢
  simp only at h ⊢
  split
  · rename_i hl
    rw [if_pos hl] at h
    omega
  · rename_i hl
    rw [if_neg hl] at h
    exact tallyOf_zero _ _ h
theorem openJ_on {D : Dev} (h6 : ¬ D.sure.length < 6) (ho : D.off = false) : openJ D = (if D.tally.1 = 0 then
    if ((jr0 (0, 0, 0)).tell D 1 0 0).2.2 = 0 then (some (((jr0 (0, 0, 0)).tell D 1 0 0).1, []), ((jr0 (0, 0, 0)).tell D 1 0 0).2.1, 0) else (none, ((jr0 (0, 0, 0)).tell D 1 0 0).2.1, ((jr0 (0, 0, 0)).tell D 1 0 0).2.2)
  else match readR ((D.side D.tally.2.1 ((D.tally.2.2 + 255) / 256)).take D.tally.2.2) with
    | (some rs, _) => (some ({ jr0 D.tally with data := (D.side D.tally.2.1 ((D.tally.2.2 + 255) / 256)).take D.tally.2.2, count := rs.length }, rs), D, 0)
    | (none, e) => (none, D, e)) := by
  unfold openJ
  rw [if_neg h6, if_neg (by simp [ho])]
  rfl
set_option maxRecDepth 100000 in
set_option maxHeartbeats 4000000 in
theorem jOpen_any (w : World) (b bs : Nat) (D : Dev) (hd : DevIs w b bs D) (hok : D.Ok) (hch : D.changes + 10 ≤ 1000000000) :
    Calls Try.prog 24 #[.pointer (some ⟨b, 0, none⟩)] w fun e w' => OpenPost w b bs (openJ D) e w' := by
  have hhi := hok.wf.hi
  have hsecs : D.secs ≤ 2047 := secs_le hhi
  by_cases h6 : D.sure.length < 6
  · have HO := Lib.hid (show openJ D = (none, D, 1) by unfold openJ; rw [if_pos h6])
    have h6' : (D.sure.length : Int) < 6 := by omega
    go_enter Try.func24, Try.ntmps24
    go_wp2_with fail
    refine (wSize w b bs D hd).mono ?_
    rintro e w' ⟨rfl, rfl⟩
    go_wp2
    go_ret3
    rw [HO.out]
    exact ⟨Fr.refl _ _, hd, rfl⟩
  · have h6' : ¬ (D.sure.length : Int) < 6 := by omega
    have h2 : 2 ≤ D.sure.length := by omega
    have HD := Lib.hid hd
    have hbox := heap_alloc_new w (.cells #[.pointer (some ⟨b, 0, none⟩), .int .u64 0, .int .i64 0, .int .i64 0, .slice none 0 0, .int .i64 0, .bool false] 117 (0, 0))
    have hgb := World.grownBy_alloc w (.cells #[.pointer (some ⟨b, 0, none⟩), .int .u64 0, .int .i64 0, .int .i64 0, .slice none 0 0, .int .i64 0, .bool false] 117 (0, 0)) none
    obtain ⟨w1, hw1⟩ : ∃ w1, w1 = w.alloc (.cells #[.pointer (some ⟨b, 0, none⟩), .int .u64 0, .int .i64 0, .int .i64 0, .slice none 0 0, .int .i64 0, .bool false] 117 (0, 0)) := ⟨_, rfl⟩
    rw [← hw1] at hbox hgb
    have B1 := Lib.hid ((Below.refl w.heap.size w).grown hgb (Nat.le_refl _) (by simp))
    have H1 := Lib.hid (show JIs w1 w.heap.size b bs (.slice none 0 0) (jr0 (D.Tk 0)) D from ⟨hbox, hd.below B1.out, RowIs.nil _ _ _ _ _⟩)
    have hlt := hd.lt
    clear hgb hbox hd
    have ew : wrap64 ((D.secs : Int) * 256) = (D.secs : Int) * 256 := by unfold wrap64; omega
    go_enter Try.func24, Try.ntmps24
    go_wp2_with fail
    refine (wSize w b bs D HD.out).mono ?_
    rintro e w' ⟨rfl, rfl⟩
    go_wp2_with fail
    rw [← hw1]
    clear hw1
    refine (jsectors_any w1 b bs D H1.out.dev h2 hhi).mono ?_
    rintro e w1' ⟨rfl, rfl⟩
    go_wp2_with fail
    obtain ⟨jb, hjb⟩ : ∃ jb, jb = w'.heap.size := ⟨_, rfl⟩
    rw [← hjb] at B1 H1 ⊢
    have hszw : jb ≤ w1'.heap.size := B1.out.size |> (fun h => by omega)
    have HJB := Lib.hid hjb
    clear hjb
    go_loopw [26] (fun i wr => ∃ k : Nat, k ≤ 2 ∧ i = .int .i64 k ∧ Hid (1 ≤ k → D.off = false) ∧ JIs wr jb b bs (.slice none 0 0) (jr0 (D.Tk k)) D ∧ Below jb w' wr) (fun i _ => 2 - (intOf i).toNat)
    case atStart => exact ⟨0, by omega, rfl, Lib.hid (fun h => by omega), H1.out, B1.out⟩
    case round =>
      obtain ⟨k, hk, rfl, hof, hj, hbl⟩ := hrel
      have HJ := Lib.hid hj
      have HBL := Lib.hid hbl
      clear hj hbl
      by_cases hk2 : k < 2
      · have hk2' : (k : Int) < 2 := by omega
        by_cases hoff : D.off = true
        · have hm : D.may (k : Nat) ≠ 0 := by unfold Dev.may; rw [if_pos hoff]; decide
          have hm6 : D.may (k : Nat) = 6 := by unfold Dev.may; rw [if_pos hoff]
          have HO := Lib.hid (show openJ D = (none, D, 6) by unfold openJ; rw [if_neg h6, if_pos hoff])
          clear hoff
          go_wp2_with fail
          refine (wRead_no wr b bs D HJ.out.dev (k : Nat) hm).mono ?_
          rintro e w2 ⟨rfl, rfl⟩
          rw [hm6]
          clear hm hm6
          go_wp2
          go_ret3
          rw [HO.out]
          exact ⟨(Fr.below_iff.2 (HJB.out ▸ HBL.out)).mono (by simp), HJ.out.dev, rfl⟩
        · have hoff' : D.off = false := by simpa using hoff
          have hm : D.may (k : Nat) = 0 := by unfold Dev.may; rw [if_neg (by simp [hoff']), if_neg (by omega)]
          have HOFF := Lib.hid (show 1 ≤ k + 1 → D.off = false from fun _ => hoff')
          clear hoff hoff'
          go_wp2_with fail
          refine (wRead_yes wr b bs D HJ.out.dev hok (k : Nat) hm).mono ?_
          rintro e w2 ⟨g, rfl, hg, hgn, hb2⟩
          have hlen := Dev.at_len hok.wf hm
          have HG := Lib.hid (row_at hg hlen (Nat.le_refl _))
          have HJ2 := Lib.hid (HJ.out.below hb2)
          have HB2 := Lib.hid (HBL.out.trans (hb2.mono (Nat.le_of_lt (lt_of_heap HJ.out.blk))))
          have hst := Dev.Tk_step D k hk2
          obtain ⟨L, hL⟩ : ∃ L, L = D.at_ (k : Nat) := ⟨_, rfl⟩
          rw [← hL] at HG hlen hst
          clear hg hgn hb2 HJ HBL hm hL
          rw [show ((D.secs : Int) * 256) = ((D.secs * 256 : Nat) : Int) from by omega]
          go_wp2_with fail
          refine (wRight w2 _ 109 L HG.out hlen (D.secs * 256) (by omega)).mono ?_
          rintro e w3 ⟨rfl, hb3⟩
          obtain ⟨⟨tn, ts, tu⟩, ht⟩ : ∃ t, t = tallyOf L (D.secs * 256) := ⟨_, rfl⟩
          rw [← ht] at hst ⊢
          have HJ3 := Lib.hid (HJ2.out.below hb3)
          have HB3 := Lib.hid (HB2.out.trans (hb3.mono (Nat.le_of_lt (lt_of_heap HJ2.out.blk))))
          have HST := Lib.hid hst
          clear hb3 HJ2 HB2 HG ht hst hlen
          simp only
          go_upto_region 12 with (first
            | ((with_reducible show wpList _ _ _ (Oper.mk _ (.alloc 115) _ _ _ _ :: _) _ _); go_must (refine wpList_alloc_row rfl 115 rfl _ zrow115 ?_); intro w4 hn4 hg4 hs4)
            | ((with_reducible show wpList _ _ _ (Oper.mk _ (.store 115 _ _) _ _ _ _ :: _) _ _); go_must (refine wpList_store_mid rfl rfl 115 (.tmp 10) (.tmp 40) rfl w3.heap.size 0 rfl [.int .u64 tn, .int .i64 ts, .int .i64 tu] rfl 115 _ hn4 size115 (by simp) (by simp [Value.oneCell']) ?_); intro w5 hn5 hg5 hs5))
          have HN5 := Lib.hid (show w5.heap[w3.heap.size]? = some (.cells #[.int .u64 tn, .int .i64 ts, .int .i64 tu] 115 (0, 0)) from hn5)
          have hf5 : Fr w3 w5 [] := ((Fr.refl w3 []).grown hg4 (by simp)).grown hg5 (fun q hq => by cases hq; exact .inr (Nat.le_refl _))
          have HJ5 := Lib.hid (HJ3.out.below (Fr.below_iff.1 hf5))
          have HB5 := Lib.hid (HB3.out.trans ((Fr.below_iff.1 hf5).mono (Nat.le_of_lt (lt_of_heap HJ3.out.blk))))
          have b3 : jb < w3.heap.size := lt_of_heap HJ3.out.blk
          clear hn4 hg4 hs4 hn5 hg5 hs5 hf5 HJ3 HB3
          have d1 : w5.cell? ⟨w3.heap.size, 0, none⟩ = some (.int .u64 tn) := cell_of_row _ _ _ _ _ _ HN5.out
          have d2 : w5.cell? ⟨jb, 1, none⟩ = some (.int .u64 (D.Tk k).1) := cell_of_row _ _ _ _ _ _ HJ5.out.blk
          obtain ⟨T0, hT0⟩ : ∃ T0, T0 = (D.Tk k).1 := ⟨_, rfl⟩
          rw [← hT0] at d2
          have HT0 := Lib.hid hT0
          clear hT0
          have tail : ∀ (wz : World), JIs wz jb b bs (.slice none 0 0) (jr0 (D.Tk k)) D → wz.heap[w3.heap.size]? = some (.cells #[.int .u64 tn, .int .i64 ts, .int .i64 tu] 115 (0, 0)) → True := fun _ _ _ => trivial
          clear tail
          by_cases hlt' : T0 < tn
          · have g1 : decide (T0 < tn) = true := decide_eq_true hlt'
            go_quiet (fail)
            have HJ6 := Lib.hid (HJ5.out.below (Fr.below_iff.1 ((Fr.refl w5 []).drewN nq)))
            have HB6 := Lib.hid (HB5.out.trans (Below.mono (Fr.below_iff.1 ((Fr.refl w5 []).drewN nq)) (Nat.le_of_lt (lt_of_heap HJ5.out.blk))))
            have HN6 := Lib.hid (show (w5.drewN nq).heap[w3.heap.size]? = some (.cells #[.int .u64 tn, .int .i64 ts, .int .i64 tu] 115 (0, 0)) from HN5.out)
            obtain ⟨w6, hw6⟩ : ∃ w6, w6 = w5.drewN nq := ⟨_, rfl⟩
            rw [← hw6] at HJ6 HB6 HN6 ⊢
            clear hw6 d1 d2 HJ5 HB5 HN5
            have HST2 := Lib.hid (show D.Tk (k + 1) = (tn, ts, tu) by rw [HST.out, if_pos (by rw [← HT0.out]; exact hlt')])
            go_wp2_with (first
              | ((with_reducible show wpList _ _ _ (Oper.mk _ (.load 115 _) _ _ _ _ :: _) _ _); go_must (refine wpList_load_mid rfl 115 (.tmp 10) rfl w3.heap.size 0 rfl 115 _ _ _ [.int .u64 tn, .int .i64 ts, .int .i64 tu] HN6.out Try.underlying115 rfl size115 (fun q v hq => by rw [Nat.zero_add, List.getElem?_toArray]; exact hq) ?_))
              | ((with_reducible show wpList _ _ _ (Oper.mk _ (.store 115 _ _) _ _ _ _ :: _) _ _); go_must (refine wpList_store_mid rfl rfl 115 (.tmp 52) (.tmp 50) rfl jb 1 rfl [.int .u64 tn, .int .i64 ts, .int .i64 tu] rfl 117 _ HJ6.out.blk size115 (by simp) (by simp [Value.oneCell']) ?_); intro w7 hn7 hg7 hs7; have HN7 := Lib.hid hn7; have HG7 := Lib.hid hg7; clear hn7 hg7 hs7))
            have f7 : Fr w6 w7 [jb] := (Fr.refl w6 _).grown HG7.out (fun k hk => by cases hk; exact .inl (by simp))
            have hJ7 : JIs w7 jb b bs (.slice none 0 0) (jr0 (D.Tk (k + 1))) D := by
              rw [HST2.out]
              exact HJ6.out.own (J' := jr0 (tn, ts, tu)) f7 HN7.out rfl
            have hB7 : Below jb w' w7 := HB6.out.grown HG7.out (Nat.le_of_lt (lt_of_heap HJ6.out.blk)) (fun k hk => by cases hk; exact Nat.le_refl _)
            refine ⟨?rel, ?measure⟩
            case rel => exact ⟨k + 1, by omega, by go_num, HOFF, hJ7, hB7⟩
            case measure => simp [intOf]; omega
          · have g1 : decide (T0 < tn) = false := decide_eq_false hlt'
            go_quiet (fail)
            have HJ6 := Lib.hid (HJ5.out.below (Fr.below_iff.1 ((Fr.refl w5 []).drewN nq)))
            have HB6 := Lib.hid (HB5.out.trans (Below.mono (Fr.below_iff.1 ((Fr.refl w5 []).drewN nq)) (Nat.le_of_lt (lt_of_heap HJ5.out.blk))))
            obtain ⟨w6, hw6⟩ : ∃ w6, w6 = w5.drewN nq := ⟨_, rfl⟩
            rw [← hw6] at HJ6 HB6 ⊢
            clear hw6 d1 d2 HJ5 HB5 HN5
            have HST2 := Lib.hid (show D.Tk (k + 1) = D.Tk k by rw [HST.out, if_neg (by rw [← HT0.out]; exact hlt')])
            go_wp2
            refine ⟨?rel, ?measure⟩
            case rel => exact ⟨k + 1, by omega, by go_num, HOFF, by rw [HST2.out]; exact HJ6.out, HB6.out⟩
            case measure => simp [intOf]; omega
      · obtain rfl : k = 2 := by omega
        have HOFF := Lib.hid (hof.out (by omega))
        clear hk hk2 hof
        have htk : D.Tk 2 = D.tally := rfl
        have hbd := Dev.Tk_bounds D 2
        rw [htk] at HJ hbd
        clear htk
        have hop := openJ_on h6 HOFF.out
        by_cases h0 : D.tally.1 = 0
        · have ht0 := tally_zero h0
          rw [ht0] at HJ
          have e1 : wr.cell? ⟨jb, 1, none⟩ = some (.int .u64 0) := cell_of_row _ _ _ _ _ _ HJ.out.blk
          have HT := Lib.hid (show Calls Try.prog 58 #[.pointer (some ⟨jb, 0, none⟩), .agg #[.int .u64 1, .int .i64 0, .int .i64 0]] wr _ from jtell_any wr jb b bs _ (jr0 (0, 0, 0)) D HJ.out hok (by omega) 1 0 0 (by omega) (by omega) (by omega))
          rw [if_pos h0] at hop
          have HOP := Lib.hid hop
          clear hop h0 ht0 hbd
          go_wp2_with fail
          refine HT.out.mono ?_
          rintro e w2 ⟨rfl, hj2, hf2⟩
          clear HT
          obtain ⟨⟨J2, D2, k2⟩, hp⟩ : ∃ p, p = (jr0 (0, 0, 0)).tell D 1 0 0 := ⟨_, rfl⟩
          rw [← hp] at hj2 ⊢
          rw [← hp] at HOP
          clear hp
          simp only at hj2 HOP ⊢
          have hfr := (Fr.below_iff.2 (HJB.out ▸ HBL.out)).mono (S' := [b, bs]) (by simp) |>.then hf2 (by
            intro x hx
            simp only [List.mem_cons, List.not_mem_nil, or_false] at hx
            rcases hx with rfl | rfl | rfl
            · exact .inr (by have := HJB.out; omega)
            · exact .inl (by simp)
            · exact .inl (by simp))
          have HF := Lib.hid hfr
          have HJ2 := Lib.hid hj2
          clear hj2 hf2 hfr
          by_cases hk : k2 = 0
          · subst hk
            have HOP2 := HOP.out
            simp only [if_true] at HOP2
            have HOP3 := Lib.hid HOP2
            clear HOP HOP2
            go_wp2
            go_ret3
            rw [HOP3.out]
            exact ⟨HF.out, HJ2.out.dev, jb, _, .slice none 0 0, rfl, by have := HJB.out; omega, HJ2.out, RecsT.nil _ _ _⟩
          · have hkn : (k2 == 0) = false := beq_false_of_ne hk
            have hkn2 : (k2 != 0) = true := by simp [bne, hkn]
            go_wp2
            go_ret3
            have hr := HOP.out
            rw [if_neg hk] at hr
            rw [hr]
            exact ⟨HF.out, HJ2.out.dev, rfl⟩
        · rw [if_neg h0] at hop
          have HOP := Lib.hid hop
          obtain ⟨T1, T2, T3, hT⟩ : ∃ T1 T2 T3, D.tally = (T1, T2, T3) := ⟨_, _, _, rfl⟩
          rw [hT] at HJ hbd HOP h0
          simp only at HOP hbd h0
          have e1 : wr.cell? ⟨jb, 1, none⟩ = some (.int .u64 T1) := cell_of_row _ _ _ _ _ _ HJ.out.blk
          have e1b : ((T1 : Int) == 0) = false := beq_false_of_ne (by omega)
          clear hop hT
          have hs64 : T3 ≤ 600000 := by omega
          obtain ⟨n3, hn3⟩ : ∃ n3, n3 = (T3 + 255) / 256 := ⟨_, rfl⟩
          have hn3a : T3 ≤ n3 * 256 := by omega
          have hn3b : n3 ≤ D.secs := by omega
          have hn3c : ∀ k, k * 256 < T3 → k < n3 := fun k hk => by omega
          have hn3d : ∀ k, k ≤ n3 → ¬ k * 256 < T3 → k = n3 := fun k h1 h2 => by omega
          rw [← hn3] at HOP
          clear hn3
          have HW := Lib.hid HJ.out
          go_wp2_with fail
          go_loopw [12] (fun i wz => ∃ (k : Nat) (dv : Value), k ≤ n3 ∧ i = .int .i64 k ∧ JIs wz jb b bs dv { jr0 (T1, T2, T3) with data := D.side T2 k } D ∧ wz.ownsRow (jb + 1) 5 1 dv (D.side T2 k).length (bv (D.side T2 k)) ∧ Below jb w' wz) (fun i _ => n3 - (intOf i).toNat)
          case atStart => exact ⟨0, .slice none 0 0, Nat.zero_le _, rfl, HJ.out, World.ownsRow_nil _ _ _ _, HBL.out⟩
          case round =>
            obtain ⟨k, dv, hk, rfl, hj, ho, hbl⟩ := hrel
            have e3 : wr.cell? ⟨jb, 3, none⟩ = some (.int .i64 T3) := cell_of_row _ _ _ _ _ _ hj.blk
            have HJ1 := Lib.hid hj
            have HO1 := Lib.hid ho
            have HB1 := Lib.hid hbl
            have hkw : wrap64 ((k : Int) * 256) = (k : Int) * 256 := by unfold wrap64; omega
            clear hj ho hbl
            by_cases hlt3 : k * 256 < T3
            · have hlt4 : (k : Int) * 256 < (T3 : Int) := by omega
              have hkn := hn3c k hlt3
              have hk4 : k ≤ 4096 := by omega
              have hm : D.may ((2 + T2 * D.secs + k : Nat) : Int) = 0 := side_may HOFF.out h2 hbd.2.1 (by omega)
              have e2 : wr.cell? ⟨jb, 2, none⟩ = some (.int .i64 T2) := cell_of_row _ _ _ _ _ _ HJ1.out.blk
              go_wp2_with fail
              refine (jat_any wr jb b bs dv _ D HJ1.out h2 hhi T2 k hbd.2.1 hk4).mono ?_
              rintro e wr' ⟨rfl, rfl⟩
              obtain ⟨q, hq⟩ : ∃ q, q = 2 + T2 * D.secs + k := ⟨_, rfl⟩
              have hsd : D.side T2 (k + 1) = D.side T2 k ++ D.at_ ((q : Nat) : Int) := by rw [hq]; rfl
              rw [← hq] at hm ⊢
              have HSD := Lib.hid hsd
              clear hq hsd e2 e3
              go_wp2_with fail
              refine (wRead_yes wr' b bs D HJ1.out.dev hok (q : Nat) hm).mono ?_
              rintro e w2 ⟨g, rfl, hg, hgn, hb2⟩
              have hlen := Dev.at_len hok.wf hm
              obtain ⟨L, hL⟩ : ∃ L, L = D.at_ ((q : Nat) : Int) := ⟨_, rfl⟩
              rw [← hL] at hg hlen HSD
              have HG := Lib.hid (row_at hg hlen (Nat.le_refl _))
              have HJ2 := Lib.hid (HJ1.out.below hb2)
              have HB2 := Lib.hid (HB1.out.trans (hb2.mono (Nat.le_of_lt (lt_of_heap HJ1.out.blk))))
              have HO2 := Lib.hid (owns_below HO1.out hb2)
              have hlb : (D.side T2 k).length ≤ 600000 := by rw [side_len hok.wf HOFF.out h2 hbd.2.1 k (by omega)]; omega
              have e4 : w2.cell? ⟨jb, 4, none⟩ = some dv := cell_of_row _ _ _ _ _ _ HJ2.out.blk
              have LEN := Lib.hid hlen
              clear hg hgn hb2 HJ1 HB1 HO1 hm hL hlen
              go_wp2_with (at_builtin; go_must (refine wpList_appb _ rfl (.tmp 97) (.tmp 98) rfl (jb + 1) dv (D.side T2 k) rfl HO2.out (.slice (some ⟨g, 0, none⟩) 256 256) 109 L rfl (by rw [LEN.out]; exact HG.out) (by rw [LEN.out]; omega) (lt_of_heap HJ2.out.blk) ?_); intro v4 w4 ho4 hg4; go_must (have hq4 := grown_keep hg4 HJ2.out.blk (own_ne HO2.out HJ2.out.blk)); have f4 : w4.cell? ⟨jb, 4, none⟩ = some dv := cell_of_row _ _ _ _ _ _ hq4; have f4b : w4.frozen? ⟨jb, 4, none⟩ = false := frozen_of_row _ _ _ _ _ hq4; obtain ⟨A4, c4, he4⟩ := (RowIs.of_owns ho4).shape; subst he4; have HO4 := Lib.hid ho4; have HG4 := Lib.hid hg4; have HQ4 := Lib.hid hq4; clear ho4 hg4 hq4)
              have hrow5 : (w4.setCell ⟨jb, 4, none⟩ (.slice A4 (D.side T2 k ++ L).length c4)).ownsRow (jb + 1) 5 1 (.slice A4 (D.side T2 k ++ L).length c4) (D.side T2 k ++ L).length (bv (D.side T2 k ++ L)) :=
                HO4.out.kept (setCell_grown w4 jb 4 _) (.inr (fun e => own_ne HO4.out HQ4.out e.symm))
              have hB5 : Below jb w' (w4.setCell ⟨jb, 4, none⟩ (.slice A4 (D.side T2 k ++ L).length c4)) :=
                (below_app HB2.out HO2.out (by omega) HG4.out (Nat.le_of_lt (lt_of_heap HJ2.out.blk))).setCell (p := ⟨jb, 4, none⟩) (Nat.le_refl _) _
              have hdev5 := jset_dev (j := 4) (v := .slice A4 (D.side T2 k ++ L).length c4) (dev_own_grown HJ2.out.dev HO2.out HG4.out) HQ4.out
              have hJ5 : JIs (w4.setCell ⟨jb, 4, none⟩ (.slice A4 (D.side T2 k ++ L).length c4)) jb b bs (.slice A4 (D.side T2 k ++ L).length c4) { jr0 (T1, T2, T3) with data := D.side T2 k ++ L } D :=
                ⟨heap_setCell_same w4 jb 4 _ _ _ HQ4.out, hdev5, RowIs.of_owns hrow5⟩
              rw [List.length_append] at hrow5 hB5 hJ5
              refine ⟨⟨_, _, _, _, ⟨k + 1, by omega, by go_num, .slice A4 ((D.side T2 k).length + L.length) c4, ?_, ?_, hB5⟩, rfl, rfl, rfl, rfl⟩, by simp [intOf]; omega⟩
              · rw [HSD.out]; exact hJ5
              · rw [HSD.out, List.length_append]; exact hrow5
            · have hkn : k = n3 := hn3d k hk hlt3
              subst hkn
              have hlt4 : ¬ (k : Int) * 256 < (T3 : Int) := by omega
              have hsl := side_len hok.wf HOFF.out h2 hbd.2.1 k hn3b
              obtain ⟨Sd, hSd⟩ : ∃ Sd, Sd = D.side T2 k := ⟨_, rfl⟩
              rw [← hSd] at HJ1 HO1 HOP hsl
              have HSL := Lib.hid hsl
              have hsb : T3 ≤ Sd.length := by omega
              have hsb2 : Sd.length ≤ 600000 := by omega
              obtain ⟨Av, cv, rfl⟩ := (RowIs.of_owns HO1.out).shape
              have hcv : Sd.length ≤ cv := (RowIs.of_owns HO1.out).le
              clear hSd hsl
              go_upto_region 27 with (fail)
              refine wp_region_grows 16 (by kernel_rfl) (by kernel_rfl) (fun q v w' => match q with
                | 0 => v = .pointer (some ⟨jb, 0, none⟩)
                | 1 => v = .pointer (some ⟨jb, 0, none⟩)
                | 2 => v = .pointer (some ⟨jb, 0, none⟩)
                | 3 => v = .pointer (some ⟨jb, 4, none⟩)
                | 4 => v = .slice Av Sd.length cv
                | 5 => v = .pointer (some ⟨jb, 0, none⟩)
                | 6 => v = .pointer (some ⟨jb, 0, none⟩)
                | 7 => v = .pointer (some ⟨jb, 1, none⟩)
                | 8 => v = .pointer (some ⟨jb, 3, none⟩)
                | 9 => v = .int .i64 T3
                | 10 => v = .pointer (some ⟨jb, 0, none⟩)
                | 11 => v = .pointer (some ⟨jb, 0, none⟩)
                | 12 => v = .pointer (some ⟨jb, 1, none⟩)
                | 13 => v = .pointer (some ⟨jb, 3, none⟩)
                | 14 => v = .int .i64 T3
                | 15 => RowIs w' v 5 1 T3 (bv (Sd.take T3))
                | _ => True) ?hV ?hstep ?hfin
              case hV =>
                intro q v w w' hv hb
                match q, hv with
                | 0, hv => exact hv
                | 1, hv => exact hv
                | 2, hv => exact hv
                | 3, hv => exact hv
                | 4, hv => exact hv
                | 5, hv => exact hv
                | 6, hv => exact hv
                | 7, hv => exact hv
                | 8, hv => exact hv
                | 9, hv => exact hv
                | 10, hv => exact hv
                | 11, hv => exact hv
                | 12, hv => exact hv
                | 13, hv => exact hv
                | 14, hv => exact hv
                | 15, hv => exact hv.below hb
                | q + 16, hv => trivial
              case hstep =>
                simp (maxSteps := 4000000) only [List.take_succ_cons, List.take_zero, stepsAll, and_true, GrowStep, Oper.wpG, fillFrom, Nat.zero_add, Nat.reduceAdd, if_true, Act.put, List.setIfInBounds_toArray, List.set_cons_succ, List.set_cons_zero]
                refine ⟨?_, ?_, ?_, ?_, ?_, ?_, ?_, ?_, ?_, ?_, ?_, ?_, ?_, ?_, ?_, ?_⟩
                all_goals
                  intro vs wx hbx hp K hK
                · go_step
                  exact hK _ _ (Below.refl _ _) rfl
                · go_step
                  exact hK _ _ (Below.refl _ _) rfl
                · have v1 : (vs 1) = .pointer (some ⟨jb, 0, none⟩) := hp 1 (by decide +kernel)
                  go_step
                  exact hK _ _ (Below.refl _ _) rfl
                · have v2 : (vs 2) = .pointer (some ⟨jb, 0, none⟩) := hp 2 (by decide +kernel)
                  go_step
                  exact hK _ _ (Below.refl _ _) rfl
                · have v3 : (vs 3) = .pointer (some ⟨jb, 4, none⟩) := hp 3 (by decide +kernel)
                  have q4 : wx.cell? ⟨jb, 4, none⟩ = some (.slice Av Sd.length cv) := cell_of_row _ _ _ _ _ _ (HJ1.out.below hbx).blk
                  go_step
                  exact hK _ _ (Below.refl _ _) rfl
                · go_step
                  exact hK _ _ (Below.refl _ _) rfl
                · have v5 : (vs 5) = .pointer (some ⟨jb, 0, none⟩) := hp 5 (by decide +kernel)
                  go_step
                  exact hK _ _ (Below.refl _ _) rfl
                · have v6 : (vs 6) = .pointer (some ⟨jb, 0, none⟩) := hp 6 (by decide +kernel)
                  go_step
                  exact hK _ _ (Below.refl _ _) rfl
                · have v7 : (vs 7) = .pointer (some ⟨jb, 1, none⟩) := hp 7 (by decide +kernel)
                  go_step
                  exact hK _ _ (Below.refl _ _) rfl
                · have v8 : (vs 8) = .pointer (some ⟨jb, 3, none⟩) := hp 8 (by decide +kernel)
                  have q3 : wx.cell? ⟨jb, 3, none⟩ = some (.int .i64 T3) := cell_of_row _ _ _ _ _ _ (HJ1.out.below hbx).blk
                  go_step
                  exact hK _ _ (Below.refl _ _) rfl
                · go_step
                  exact hK _ _ (Below.refl _ _) rfl
                · have v10 : (vs 10) = .pointer (some ⟨jb, 0, none⟩) := hp 10 (by decide +kernel)
                  go_step
                  exact hK _ _ (Below.refl _ _) rfl
                · have v11 : (vs 11) = .pointer (some ⟨jb, 0, none⟩) := hp 11 (by decide +kernel)
                  go_step
                  exact hK _ _ (Below.refl _ _) rfl
                · have v12 : (vs 12) = .pointer (some ⟨jb, 1, none⟩) := hp 12 (by decide +kernel)
                  go_step
                  exact hK _ _ (Below.refl _ _) rfl
                · have v13 : (vs 13) = .pointer (some ⟨jb, 3, none⟩) := hp 13 (by decide +kernel)
                  have q3 : wx.cell? ⟨jb, 3, none⟩ = some (.int .i64 T3) := cell_of_row _ _ _ _ _ _ (HJ1.out.below hbx).blk
                  go_step
                  exact hK _ _ (Below.refl _ _) rfl
                · have v4 : (vs 4) = .slice Av Sd.length cv := hp 4 (by decide +kernel)
                  have v9 : (vs 9) = .int .i64 T3 := hp 9 (by decide +kernel)
                  have v14 : (vs 14) = .int .i64 T3 := hp 14 (by decide +kernel)
                  refine wp_sub_hm (.tmp 106) (.tmp 111) (.tmp 116) rfl Av Sd.length cv 5 Sd v4 ((RowIs.of_owns HO1.out).below hbx) .i64 .i64 T3 T3 v9 v14 hsb (Nat.le_refl _) (by omega) ?_
                  intro v hv
                  exact hK _ _ (Below.refl _ _) hv
              case hfin =>
                intro vs wx hbx hv
                have v0 : vs 0 = .pointer (some ⟨jb, 0, none⟩) := hv 0 (by omega)
                have r15 : RowIs wx (vs 15) 5 1 T3 (bv (Sd.take T3)) := hv 15 (by omega)
                have HX := Lib.hid (HJ1.out.below hbx)
                have BX := Lib.hid (HB1.out.trans (hbx.mono (Nat.le_of_lt (lt_of_heap HJ1.out.blk))))
                obtain ⟨A5, c5, he5⟩ := r15.shape
                rw [he5] at r15
                have R15 := Lib.hid r15
                have q4 : wx.cell? ⟨jb, 4, none⟩ = some (.slice Av Sd.length cv) := cell_of_row _ _ _ _ _ _ HX.out.blk
                have f4 : wx.frozen? ⟨jb, 4, none⟩ = false := frozen_of_row _ _ _ _ _ HX.out.blk
                have hdl : (Sd.take T3).length = T3 := by rw [List.length_take]; omega
                obtain ⟨Dt, hDt⟩ : ∃ Dt, Dt = Sd.take T3 := ⟨_, rfl⟩
                rw [← hDt] at HOP hdl R15
                have HDL := Lib.hid hdl
                clear hv hbx r15 HJ1 HB1 HO1 hDt hdl
                simp (maxSteps := 4000000) only [List.take_succ_cons, List.take_zero, List.drop_succ_cons, List.drop_zero, fillFrom, Nat.zero_add, Nat.reduceAdd, if_true, Act.put, List.setIfInBounds_toArray, List.set_cons_succ, List.set_cons_zero]
                go_wp2_with fail
                have hJy : JIs (wx.setCell ⟨jb, 4, none⟩ (.slice A5 T3 c5)) jb b bs (.slice A5 T3 c5) { jr0 (T1, T2, T3) with data := Dt } D := by
                  refine ⟨heap_setCell_same wx jb 4 _ _ _ HX.out.blk, jset_dev HX.out.dev HX.out.blk, ?_⟩
                  have h1 := R15.out.other (S := [jb]) ((Fr.refl wx _).grown (setCell_grown wx jb 4 (.slice A5 T3 c5)) (fun k hk => by cases hk; exact .inl (by simp))) (fun x hx => by
                    simp only [List.mem_cons, List.not_mem_nil, or_false] at hx
                    subst hx
                    exact .inr ⟨_, _, _, HX.out.blk, by decide⟩)
                  show RowIs _ _ _ 1 Dt.length (bv Dt)
                  rw [HDL.out]
                  exact h1
                have BY := Lib.hid (BX.out.setCell (p := ⟨jb, 4, none⟩) (Nat.le_refl _) (.slice A5 T3 c5))
                obtain ⟨wy, hwy⟩ : ∃ wy, wy = wx.setCell ⟨jb, 4, none⟩ (.slice A5 T3 c5) := ⟨_, rfl⟩
                rw [← hwy] at hJy BY ⊢
                have HY := Lib.hid hJy
                have hrow : RowIs wy (.slice A5 T3 c5) 5 1 Dt.length (bv Dt) := hJy.row
                clear hwy hJy HX BX R15 q4 f4
                refine (jread_any wy _ 5 Dt hrow (by rw [HDL.out]; omega)).mono ?_
                rintro e w9 ⟨hb9, hcases⟩
                have HY9 := Lib.hid (HY.out.below hb9)
                have BY9 := Lib.hid (BY.out.trans (hb9.mono (Nat.le_of_lt (lt_of_heap HY.out.blk))))
                clear hb9 HY BY hrow
                rcases hcases with ⟨rs, rv, hrd, rfl, hrec⟩ | ⟨c, hc, hrd, rfl⟩
                · have HOP2 := HOP.out
                  rw [hrd] at HOP2
                  simp only at HOP2
                  have HOP3 := Lib.hid HOP2
                  have HREC := Lib.hid hrec
                  obtain ⟨Ar, cr, rfl, _⟩ := hrec.recs.shape
                  have q5 : w9.cell? ⟨jb, 5, none⟩ = some (.int .i64 (0 : Int)) := cell_of_row _ _ _ _ _ _ HY9.out.blk
                  have f5 : w9.frozen? ⟨jb, 5, none⟩ = false := frozen_of_row _ _ _ _ _ HY9.out.blk
                  clear HOP HOP2 hrd hrec
                  go_wp2
                  go_ret3
                  rw [HOP3.out]
                  have fx : Fr w9 (w9.setCell ⟨jb, 5, none⟩ (.int .i64 (rs.length : Int))) [jb] := (Fr.refl w9 _).grown (setCell_grown w9 jb 5 _) (fun k hk => by cases hk; exact .inl (by simp))
                  have hJz := HY9.out.own (J' := { jr0 (T1, T2, T3) with data := Dt, count := rs.length }) fx (heap_setCell_same w9 jb 5 _ _ (.int .i64 (rs.length : Int)) HY9.out.blk) rfl
                  have bz := BY9.out.setCell (p := ⟨jb, 5, none⟩) (Nat.le_refl _) (.int .i64 (rs.length : Int))
                  refine ⟨(Fr.below_iff.2 (HJB.out ▸ bz)).mono (by simp), hJz.dev, jb, _, _, rfl, by have := HJB.out; omega, hJz, ?_⟩
                  exact HREC.out.other fx (by
                    intro x hx
                    simp only [List.mem_cons, List.not_mem_nil, or_false] at hx
                    subst hx
                    exact .inr ⟨_, _, _, HY9.out.blk, by decide, by decide⟩)
                · have hkn : (c == 0) = false := beq_false_of_ne hc
                  have hkn2 : (c != 0) = true := by simp [bne, hkn]
                  have HOP2 := HOP.out
                  rw [hrd] at HOP2
                  simp only at HOP2
                  have HOP3 := Lib.hid HOP2
                  clear HOP HOP2 hrd
                  go_wp2
                  go_ret3
                  rw [HOP3.out]
                  exact ⟨(Fr.below_iff.2 (HJB.out ▸ BY9.out)).mono (by simp), HY9.out.dev, rfl⟩
end Go.Proofs.Yteggldplmbegfaa
