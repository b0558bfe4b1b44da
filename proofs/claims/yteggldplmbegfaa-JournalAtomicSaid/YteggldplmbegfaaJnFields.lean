/- codec.Fields, walked: the iterator over the fields of bytes. -/
import Derived.Test.YteggldplmbegfaaJnHead
import Derived.RangeFuncNested
import Derived.RangeFuncBound
import Derived.RangeFuncCalls
import Derived.RangeFuncLeaves
import Derived.RangeFuncBox
import Derived.Shelf.Abstract
import Derived.Shelf.RegionOpen
import Derived.OwnWalkIn
import Derived.TacticsInMore
import Derived.LoopNIn
import Derived.LoopIn
set_option linter.unusedVariables false
set_option linter.unusedSimpArgs false
namespace Go.Proofs.Yteggldplmbegfaa
open Go.RowKit Go.Shelf
attribute [local go_sem] Oper.semAt_some

section
variable {F : Fence} {n : Nat} {ops : Array Oper} {rest : List Oper} {o : Oper} {a : Act} {w : World} {Q : Exit → Act → World → Prop}
theorem wpListIn_appb (hgd : o.guard = none) (s y : Operand)
    (ho : o.op = .call { callee := .builtin .append, args := #[s, y], argTypes := #[33, 33] }) (base : Nat)
    (v : Value) (l : List UInt8) (hs : a.eval s = v) (hown : w.ownsRow base 5 1 v l.length (bv l))
    (x : Value) (T : TypeId) (l2 : List UInt8) (hy : a.eval y = x) (hx : RowIs w x T 1 l2.length (bv l2)) (hb : l.length + l2.length ≤ 140737488355328) (hbase : base ≤ w.heap.size)
    (h : ∀ v' w', w'.ownsRow base 5 1 v' (l ++ l2).length (bv (l ++ l2)) → w.grownBy w' v.ownBlock → wpListIn F n Try.prog ops Q rest (a.put o.dst v') w') : wpListIn F n Try.prog ops Q (o :: rest) a w := by
  obtain ⟨i0, hi, hz0, hz1, hz2⟩ := info_parts info5
  obtain ⟨v', w', hr, h1, h2⟩ := run_app (P := Try.prog) w base 33 o.type 5 i0 _ 1 1 Try.underlying33 hi hz0 hz1 hz2 rfl (by decide) v l.length (bv l) hown x T l2.length (bv l2) hx (bv_one l2) (by unfold maxLen; omega) (by omega) hbase
  rw [← bv_append, ← List.length_append] at h1
  refine wpListIn_plain hgd fun K hK => ?_
  unfold Oper.wpIn
  refine ⟨?_, ?_⟩
  · simp [Oper.about, ho, resolve, Target.leads, Sem.run_pure]
  · rw [Oper.semAt_plain F _ _ (by rw [ho]; intro c hc'; cases hc')]
    simp [execOp, ho, resolve, invoke, builtin, hs, hy, hr, Result.andThen]
    exact hK _ _ (h v' w' h1 h2)
theorem wpListIn_sub_lh (hgd : o.guard = none) (x lo hi : Operand) (ho : o.op = .slice 33 x (some lo) (some hi) none)
    (A : Option Addr) (m c : Nat) (T : TypeId) (l : List UInt8) (hx : a.eval x = .slice A m c) (hr : RowIs w (.slice A m c) T 1 m (bv l)) (kl kh : IntKind) (i j : Nat) (hlo : a.eval lo = .int kl i) (hhi : a.eval hi = .int kh j) (hij : i ≤ j) (hj : j ≤ m)
    (hK : ∀ v, v = sliced A i j c 1 → RowIs w v T 1 (j - i) (bv (cutB l i j)) → wpListIn F n Try.prog ops Q rest (a.put o.dst v) w) : wpListIn F n Try.prog ops Q (o :: rest) a w := by
  have hc := hr.le
  have h1 := run_slice_lh (P := Try.prog) w 33 A m c elem33 kl kh i j (by omega) (by omega) (by omega)
  rw [size33] at h1
  have h2 := hr.sliced i j c hij hj (by omega) (Nat.le_refl _)
  rw [bv_cut] at h2
  refine wpListIn_plain hgd fun K h => ?_
  unfold Oper.wpIn
  refine ⟨?_, ?_⟩
  · simp [Oper.about, ho]
  · rw [Oper.semAt_plain F _ _ (by rw [ho]; intro c hc'; cases hc')]
    unfold execOp
    simp only [ho, hx, hlo, hhi, Option.map_some, Option.map_none, Sem.run_bind, run_sliceAt_slice (P := Try.prog) w 33 _ _ _ _ elem33, h1, Result.andThen_ok, Sem.run_pure, Int.toNat_natCast]
    exact h _ _ (hK _ rfl h2)
theorem wpListIn_sub_l (hgd : o.guard = none) (x lo : Operand) (ho : o.op = .slice 33 x (some lo) none none)
    (A : Option Addr) (m c : Nat) (T : TypeId) (l : List UInt8) (hl : l.length = m) (hx : a.eval x = .slice A m c) (hr : RowIs w (.slice A m c) T 1 m (bv l)) (kl : IntKind) (i : Nat) (hlo : a.eval lo = .int kl i) (hi : i ≤ m)
    (hK : ∀ v, v = sliced A i m c 1 → RowIs w v T 1 (m - i) (bv (l.drop i)) → wpListIn F n Try.prog ops Q rest (a.put o.dst v) w) : wpListIn F n Try.prog ops Q (o :: rest) a w := by
  have hc := hr.le
  have h1 := run_slice_l (P := Try.prog) w 33 A m c elem33 kl i (by omega) (by omega)
  rw [size33] at h1
  have h2 := hr.sliced i m c hi (Nat.le_refl _) hc (Nat.le_refl _)
  rw [bv_cut, ← hl, cutB_drop, hl] at h2
  refine wpListIn_plain hgd fun K h => ?_
  unfold Oper.wpIn
  refine ⟨?_, ?_⟩
  · simp [Oper.about, ho]
  · rw [Oper.semAt_plain F _ _ (by rw [ho]; intro c hc'; cases hc')]
    unfold execOp
    simp only [ho, hx, hlo, Option.map_some, Option.map_none, Sem.run_bind, run_sliceAt_slice (P := Try.prog) w 33 _ _ _ _ elem33, h1, Result.andThen_ok, Sem.run_pure, Int.toNat_natCast]
    exact h _ _ (hK _ rfl h2)
end
theorem headOf_bounds (s : List UInt8) (hs : 0 < s.length) : (headOf s).2.1 ≤ s.length ∧ (headOf s).1 ≤ 65535 ∧ ((headOf s).2.2 = 0 ∨ (headOf s).2.2 = 7 ∨ (headOf s).2.2 = 8) ∧ ((headOf s).2.2 = 0 → 1 ≤ (headOf s).2.1) := by
  match s, hs with
  | a :: l, _ =>
    have ha := a.toNat_lt
    by_cases h : a.toNat < 255
    · simp only [headOf]
      rw [if_pos h]
      simp
      omega
    · match l with
      | [] => simp only [headOf]; rw [if_neg h]; simp
      | [x] => simp only [headOf]; rw [if_neg h]; simp
      | x :: y :: l =>
        have hx := x.toNat_lt
        have hy := y.toNat_lt
        simp only [headOf]
        rw [if_neg h]
        split
        · simp
        · simp
          omega
theorem fieldsOf_len : ∀ (k : Nat) (b : List UInt8), (fieldsOf k b).1.length ≤ b.length
  | 0, b => by simp [fieldsOf]
  | k + 1, b => by
    rw [fieldsOf]
    by_cases h0 : b = []
    · rw [if_pos h0]
      simp
    · rw [if_neg h0]
      have hpos : 0 < b.length := List.length_pos_iff.2 h0
      have hbd := headOf_bounds b hpos
      simp only
      split
      · simp
      · split
        · simp
        · rename_i h1 h2
          have h3 := hbd.2.2.2 (by simpa using h1)
          have ih := fieldsOf_len k (b.drop ((headOf b).2.1 + (headOf b).1))
          rw [List.length_drop] at ih
          simp only [List.length_cons]
          omega
/-- Below a block all lies as it lay, but for some blocks. -/
structure FrN (n₀ : Nat) (S : List Nat) (w w' : World) : Prop where
  os : w'.os = w.os
  tape : w'.tape = w.tape
  output : w'.output = w.output
  size : w.heap.size ≤ w'.heap.size
  block : ∀ k, k < n₀ → k ∉ S → w'.heap[k]? = w.heap[k]?
theorem FrN.refl (n₀ : Nat) (S : List Nat) (w : World) : FrN n₀ S w w := ⟨rfl, rfl, rfl, Nat.le_refl _, fun _ _ _ => rfl⟩
theorem FrN.trans {n₀ : Nat} {S : List Nat} {a b c : World} (h : FrN n₀ S a b) (k : FrN n₀ S b c) : FrN n₀ S a c :=
  ⟨k.os.trans h.os, k.tape.trans h.tape, k.output.trans h.output, Nat.le_trans h.size k.size, fun i hi hn => (k.block i hi hn).trans (h.block i hi hn)⟩
theorem FrN.mono {n₀ : Nat} {S S' : List Nat} {a b : World} (h : FrN n₀ S a b) (hs : ∀ k ∈ S, k ∈ S') : FrN n₀ S' a b := ⟨h.os, h.tape, h.output, h.size, fun i hi hn => h.block i hi (fun e => hn (hs i e))⟩
theorem FrN.of_below {n₀ : Nat} {S : List Nat} {a b : World} (h : Below a.heap.size a b) (hn : n₀ ≤ a.heap.size) : FrN n₀ S a b := ⟨h.os, h.tape, h.output, h.size, fun i hi _ => h.block i (Nat.lt_of_lt_of_le hi hn)⟩
theorem FrN.grown {n₀ : Nat} {S : List Nat} {a b c : World} {row : Option Nat} (h : FrN n₀ S a b) (hg : b.grownBy c row) (hn : n₀ ≤ b.heap.size) (hr : ∀ k, row = some k → k ∈ S ∨ n₀ ≤ k) : FrN n₀ S a c :=
  h.trans ⟨hg.os, hg.tape, hg.output, hg.size, fun i hi hs => hg.block i (Nat.lt_of_lt_of_le hi hn) (fun e => by rcases hr i e.symm with h1 | h1; exact hs h1; omega)⟩
theorem FrN.drewN {n₀ : Nat} {S : List Nat} {a b : World} (h : FrN n₀ S a b) (k : Nat) : FrN n₀ S a (b.drewN k) := ⟨h.os, h.tape, h.output, h.size, h.block⟩
/-- A row among these blocks. -/
def RowB (n₀ : Nat) (S : List Nat) (w : World) (v : Value) (l : List UInt8) : Prop := ∃ A c, v = .slice A l.length c ∧ RowIs w v 5 1 l.length (bv l) ∧ ∀ a, A = some a → a.block < n₀ ∧ a.block ∉ S
theorem RowB.fr {n₀ : Nat} {S : List Nat} {w w' : World} {v : Value} {l : List UInt8} (h : RowB n₀ S w v l) (hb : FrN n₀ S w w') : RowB n₀ S w' v l := by
  obtain ⟨A, c, rfl, h2, h3⟩ := h
  refine ⟨A, c, rfl, ⟨h2.1, ?_⟩, h3⟩
  rcases h2.2 with h0 | ⟨g, o, c', cur, fr, hv, hc, hg, hx⟩
  · exact .inl h0
  · simp only [Value.slice.injEq] at hv
    obtain ⟨rfl, _, rfl⟩ := hv
    exact .inr ⟨g, o, c, cur, fr, rfl, hc, (hb.block g (h3 _ rfl).1 (h3 _ rfl).2).trans hg, hx⟩
theorem RowB.cut {n₀ : Nat} {S : List Nat} {w : World} {A : Option Addr} {m c i : Nat} {l : List UInt8} {v : Value} (h : ∀ a, A = some a → a.block < n₀ ∧ a.block ∉ S) (hv : v = sliced A i m c 1) (hr : RowIs w v 5 1 l.length (bv l)) (hl : m - i = l.length) : RowB n₀ S w v l := by
  refine ⟨_, c - i, by rw [hv]; unfold Go.sliced; rw [hl], hr, fun a ha => ?_⟩
  split at ha
  · exact h a ha
  · cases A with
    | none => cases ha
    | some b =>
      simp only [Option.map_some, Option.some.injEq] at ha
      subst ha
      have hb : (b.add (i * 1)).block = b.block := by unfold Addr.add; split <;> rfl
      rw [hb]
      exact h b rfl
def slLen : Value → Nat
  | .slice _ n _ => n
  | _ => 0
set_option maxRecDepth 100000 in
set_option maxHeartbeats 4000000 in
/-- The iterator: each field in order, then the error, if there is one; a round may say no more. -/
theorem fields1_in (n : Nat) (hn : 1 ≤ n) (l Bo n₀ : Nat) (S : List Nat) (b : List UInt8) (hbl : b.length ≤ 1000000000) (J Jx : List (List UInt8) → World → Prop) (JE : World → Prop)
    (hJ : ∀ pre A B, J pre A → Below A.heap.size A B → J pre B)
    (hY : ∀ pre f v A, J pre A → (pre ++ [f]) <+: (fieldsOf (b.length + 1) b).1 → f.length ≤ 65535 → RowIs A v 5 1 f.length (bv f) → YieldAt Fence.wide (n - 1) Try.prog l #[v, .int .i64 0] A fun e B =>
      (e = .returned (.bool true) ∧ J (pre ++ [f]) B ∧ FrN n₀ S A B) ∨ (e = .returned (.bool false) ∧ Jx (pre ++ [f]) B))
    (hE : ∀ pre (c : Int) A, J pre A → pre = (fieldsOf (b.length + 1) b).1 → c = (fieldsOf (b.length + 1) b).2 → c = 7 ∨ c = 8 → YieldAt Fence.wide (n - 1) Try.prog l #[.slice none 0 0, .int .i64 c] A fun e B => (∃ v, e = .returned (.bool v)) ∧ JE B)
    (W : World) (hn₀ : n₀ ≤ W.heap.size) (v0 : Value) (hBo : W.cell? ⟨Bo, 0, none⟩ = some v0) (hrow : RowB n₀ S W v0 b) (h0 : J [] W) :
    CallsIn Fence.wide n Try.prog 113 #[.func (.yield l) #[] #[], .pointer (some ⟨Bo, 0, none⟩)] W fun e B => (∃ v, e = .returned v) ∧
      (((fieldsOf (b.length + 1) b).2 = 0 ∧ J (fieldsOf (b.length + 1) b).1 B) ∨ (∃ pre, pre <+: (fieldsOf (b.length + 1) b).1 ∧ Jx pre B) ∨ ((fieldsOf (b.length + 1) b).2 ≠ 0 ∧ JE B)) := by
  obtain ⟨A0, c0, rfl, hr0, hg0⟩ := hrow
  have hrow : RowB n₀ S W (.slice A0 b.length c0) b := ⟨A0, c0, rfl, hr0, hg0⟩
  have HROW := Lib.hid hrow
  clear hrow hr0 hg0
  refine callsIn_of_wp Try.func113 rfl trivial ?_ rfl
  simp only [Try.ntmps113, List.size_toArray, List.length_cons, List.length_nil, Nat.reduceAdd, Nat.reduceSub, Array.replicate_succ, Array.replicate_zero, List.push_toArray, List.append_toArray, List.nil_append, List.cons_append]
  gi_wp2
  gi_loopw [3] (fun x wr => ∃ (pre : List (List UInt8)) (suf : List UInt8) (k : Nat), RowB n₀ S wr x suf ∧ suf.length < k ∧ suf.length ≤ b.length ∧ Hid (fieldsOf (b.length + 1) b = (pre ++ (fieldsOf k suf).1, (fieldsOf k suf).2)) ∧ J pre wr ∧ FrN n₀ S W wr)
    (fun x _ => slLen x)
  case atStart => exact ⟨[], b, b.length + 1, HROW.out, by omega, Nat.le_refl _, Lib.hid (by simp), h0, FrN.refl _ _ _⟩
  case round =>
    obtain ⟨pre, suf, k, ⟨A, c, rfl, hr, hg⟩, hk, hsl, hf, hj, hb⟩ := hrel
    by_cases hs : 0 < suf.length
    · have hs' : (0 : Int) < (suf.length : Int) := by omega
      obtain ⟨k, rfl⟩ : ∃ m, k = m + 1 := ⟨k - 1, by omega⟩
      have hne : suf ≠ [] := by rintro rfl; simp at hs
      have hfo : fieldsOf (k + 1) suf = (let h := headOf suf; if h.2.2 ≠ 0 then ([], h.2.2) else if suf.length < h.2.1 + h.1 then ([], 8) else
          ((suf.drop h.2.1).take h.1 :: (fieldsOf k (suf.drop (h.2.1 + h.1))).1, (fieldsOf k (suf.drop (h.2.1 + h.1))).2)) := by
        rw [fieldsOf, if_neg hne]
      have hbd := headOf_bounds suf hs
      have HH := Lib.hid (wHead wr (.slice A suf.length c) 5 suf hr hs (by omega))
      have HR := Lib.hid hr
      have HG := Lib.hid hg
      have HB := Lib.hid hb
      clear hr hg hne hb
      gi_wp2_with fail
      refine ⟨trivial, (callsIn_wide.2 HH.out).mono ?_⟩
      clear HH
      rintro e w' ⟨rfl, nq, rfl⟩
      have hj1 : J pre (wr.drewN nq) := hJ _ _ _ hj (Fr.below_iff.1 ((Fr.refl wr []).drewN nq))
      have hb1 : FrN n₀ S W (wr.drewN nq) := HB.out.drewN nq
      obtain ⟨w1, hw1⟩ : ∃ w1, w1 = wr.drewN nq := ⟨_, rfl⟩
      have HR1 := Lib.hid (show RowIs w1 (.slice A suf.length c) 5 1 suf.length (bv suf) by rw [hw1]; exact HR.out.below (Fr.below_iff.1 ((Fr.refl wr []).drewN nq)))
      rw [← hw1] at hj1 hb1 ⊢
      have HB1 := Lib.hid hb1
      clear hw1 hj hb1 HR HB
      have HFO := Lib.hid hfo
      clear hfo
      obtain ⟨⟨pn, pf, pe⟩, hp⟩ : ∃ p, p = headOf suf := ⟨_, rfl⟩
      rw [← hp] at hbd HFO ⊢
      have HP := Lib.hid hp
      clear hp
      obtain ⟨q1, q2, q3, q4⟩ := hbd
      simp only at q1 q2 q3 q4 HFO ⊢
      rcases q3 with rfl | rfl | rfl
      · by_cases hlt : suf.length < pf + pn
        · have HF2 := Lib.hid (show fieldsOf (b.length + 1) b = (pre, 8) by rw [hf.out, HFO.out, if_neg (by simp), if_pos hlt]; simp)
          have g1 : decide ((suf.length : Int) - (pf : Int) < (pn : Int)) = true := decide_eq_true (by omega)
          obtain ⟨fn, tmps, assign, body, hy, hR⟩ := hE pre 8 w1 hj1 (by rw [HF2.out]) (by rw [HF2.out]) (.inr rfl)
          clear hf HFO hj1 q4
          gi_wp2
          refine hR.mono ?_
          rintro e B ⟨⟨u, rfl⟩, hje⟩
          gi_wp2
          refine bodyPost_ret (results_none rfl _ _ _) rfl ?_
          exact ⟨⟨_, rfl⟩, .inr (.inr ⟨by rw [HF2.out]; simp, hje⟩)⟩
        · obtain ⟨f, hfd⟩ : ∃ f, f = (suf.drop pf).take pn := ⟨_, rfl⟩
          have hfl : f.length = pn := by rw [hfd, List.length_take, List.length_drop]; omega
          have hcut : cutB suf pf (pf + pn) = f := by rw [hfd]; unfold cutB; rw [Nat.add_sub_cancel_left]
          have HF2 := Lib.hid (show fieldsOf (b.length + 1) b = ((pre ++ [f]) ++ (fieldsOf k (suf.drop (pf + pn))).1, (fieldsOf k (suf.drop (pf + pn))).2) by
            rw [hf.out, HFO.out, if_neg (by simp), if_neg hlt, ← hfd]; simp)
          have g1 : decide ((suf.length : Int) - (pf : Int) < (pn : Int)) = false := decide_eq_false (by omega)
          have HFL := Lib.hid hfl
          have HCUT := Lib.hid hcut
          have Q4 : 1 ≤ pf := q4 rfl
          have hbs : ∀ w : World, (Instr.buildSlice 33 0 #[]).run Try.prog w = .ok (.slice (some ⟨w.heap.size, 0, none⟩) 0 0) (w.alloc (.cells #[] 5 (0, 0))) := fun w => by kernel_rfl
          have hg1 := World.grownBy_alloc w1 (.cells #[] 5 (0, 0)) none
          have HW2 := Lib.hid ((Below.refl w1.heap.size w1).grown hg1 (Nat.le_refl _) (by simp))
          have HR2 := Lib.hid (HR1.out.below HW2.out)
          have HO2 := Lib.hid (owns_empty w1 5 1 _ rfl w1.heap.size (Nat.le_refl _))
          have HJ1 := Lib.hid hj1
          have hwr : wrap64 ((pf : Int) + (pn : Int)) = (pf : Int) + (pn : Int) := by unfold wrap64; omega
          clear hf HFO hj1 q4 hg1 hfl hcut hfd
          gi_wp2_with (first
            | ((with_reducible show wpListIn _ _ _ _ _ (Oper.mk _ (.slice _ _ (some _) (some _) _) _ _ _ _ :: _) _ _); go_must (refine wpListIn_sub_lh rfl (.tmp 34) (.tmp 35) (.tmp 38) rfl A suf.length c 5 suf rfl HR2.out .i64 .i64 pf (pf + pn) rfl (congrArg (Value.int .i64) (by omega)) (by omega) (by omega) ?_); intro vc hq hvc; have HVC := Lib.hid hvc; clear hvc hq)
            | (gi_at_builtin; go_must (refine wpListIn_appb rfl (.tmp 33) (.tmp 39) rfl w1.heap.size (.slice (some ⟨w1.heap.size, 0, none⟩) 0 0) [] rfl HO2.out vc 5 f rfl (by have h := HVC.out; rw [HCUT.out, Nat.add_sub_cancel_left] at h; rw [HFL.out]; exact h) (by rw [HFL.out]; simp; omega) HW2.out.size ?_); intro v' w3 ho3 hg3; go_must (have HW3 := Lib.hid (below_app HW2.out HO2.out (Nat.le_refl _) hg3 HW2.out.size)); go_must (obtain ⟨fn, tmps, assign, body, hy, hR⟩ := hY pre f v' w3 (hJ _ _ _ HJ1.out HW3.out) ⟨_, by rw [HF2.out]⟩ (by rw [HFL.out]; omega) (RowIs.of_owns ho3)); clear ho3 hg3))
          refine hR.mono ?_
          rintro e B (⟨rfl, hjb, hkb⟩ | ⟨rfl, hjx⟩)
          · have hjb' := hjb
            have HRB := Lib.hid (show RowIs B (.slice A suf.length c) 5 1 suf.length (bv suf) from by
              have h := (show RowB n₀ S w1 (.slice A suf.length c) suf from ⟨A, c, rfl, HR1.out, HG.out⟩).fr ((FrN.of_below HW3.out (Nat.le_trans hn₀ HB1.out.size)).trans hkb)
              obtain ⟨A', c', he, h2, _⟩ := h
              exact h2)
            have HBB := Lib.hid ((HB1.out.trans (FrN.of_below HW3.out (Nat.le_trans hn₀ HB1.out.size))).trans hkb)
            clear hjb' hkb
            gi_wp2_with ((with_reducible show wpListIn _ _ _ _ _ (Oper.mk _ (.slice _ _ (some _) none _) _ _ _ _ :: _) _ _); go_must (refine wpListIn_sub_l rfl (.tmp 43) (.tmp 46) rfl A suf.length c 5 suf rfl rfl HRB.out .i64 (pf + pn) (congrArg (Value.int .i64) (by omega)) (by omega) ?_); intro vd hqd hvd; have HVD := Lib.hid hvd; have HQD := Lib.hid hqd; clear hvd hqd)
            have hrb : RowB n₀ S B vd (suf.drop (pf + pn)) := RowB.cut HG.out HQD.out (by have h := HVD.out; rw [List.length_drop]; exact h) (by rw [List.length_drop])
            have hll : slLen vd = suf.length - (pf + pn) := by
              obtain ⟨A', c', he, _⟩ := hrb
              rw [he, slLen, List.length_drop]
            go_roundw
            case rel => exact ⟨pre ++ [f], suf.drop (pf + pn), k, hrb, by rw [List.length_drop]; omega, by rw [List.length_drop]; omega, HF2, hjb, HBB.out⟩
            case measure => rw [hll]; simp only [slLen]; omega
          · gi_wp2
            refine bodyPost_ret (results_none rfl _ _ _) rfl ?_
            exact ⟨⟨_, rfl⟩, .inr (.inl ⟨pre ++ [f], ⟨_, by rw [HF2.out]⟩, hjx⟩)⟩
      · have HF2 := Lib.hid (show fieldsOf (b.length + 1) b = (pre, 7) by rw [hf.out, HFO.out, if_pos (by simp)]; simp)
        obtain ⟨fn, tmps, assign, body, hy, hR⟩ := hE pre 7 w1 hj1 (by rw [HF2.out]) (by rw [HF2.out]) (.inl rfl)
        clear hf HFO hj1 q4
        gi_wp2
        refine hR.mono ?_
        rintro e B ⟨⟨u, rfl⟩, hje⟩
        gi_wp2
        refine bodyPost_ret (results_none rfl _ _ _) rfl ?_
        exact ⟨⟨_, rfl⟩, .inr (.inr ⟨by rw [HF2.out]; simp, hje⟩)⟩
      · have HF2 := Lib.hid (show fieldsOf (b.length + 1) b = (pre, 8) by rw [hf.out, HFO.out, if_pos (by simp)]; simp)
        obtain ⟨fn, tmps, assign, body, hy, hR⟩ := hE pre 8 w1 hj1 (by rw [HF2.out]) (by rw [HF2.out]) (.inr rfl)
        clear hf HFO hj1 q4
        gi_wp2
        refine hR.mono ?_
        rintro e B ⟨⟨u, rfl⟩, hje⟩
        gi_wp2
        refine bodyPost_ret (results_none rfl _ _ _) rfl ?_
        exact ⟨⟨_, rfl⟩, .inr (.inr ⟨by rw [HF2.out]; simp, hje⟩)⟩
    · have h0 : suf.length = 0 := by omega
      obtain rfl : suf = [] := List.eq_nil_of_length_eq_zero h0
      obtain ⟨k, rfl⟩ : ∃ m, k = m + 1 := ⟨k - 1, by omega⟩
      have HF2 := Lib.hid (show fieldsOf (b.length + 1) b = (pre, 0) by rw [hf.out]; simp [fieldsOf])
      clear hf h0 hsl
      gi_wp2
      go_end0
      exact ⟨⟨_, rfl⟩, .inl ⟨by rw [HF2.out], by rw [HF2.out]; exact hj⟩⟩
set_option maxRecDepth 20000 in
theorem cFields_any (w : World) (v : Value) (T : TypeId) (b : List UInt8) (h : RowIs w v T 1 b.length (bv b)) (hb : b.length ≤ 1000000000) :
    Calls Try.prog 89 #[v] w fun e w' => ∃ Bo v0, e = .returned (.func (.func 113) #[] #[.pointer (some ⟨Bo, 0, none⟩)]) ∧ w'.cell? ⟨Bo, 0, none⟩ = some v0 ∧ w.heap.size ≤ Bo ∧
      RowB w'.heap.size (List.range w.heap.size) w' v0 b ∧ Below w.heap.size w w' := by
  obtain ⟨A, c, rfl⟩ := h.shape
  have hbs : ∀ w : World, (Instr.buildSlice 33 0 #[]).run Try.prog w = .ok (.slice (some ⟨w.heap.size, 0, none⟩) 0 0) (w.alloc (.cells #[] 5 (0, 0))) := fun w => by kernel_rfl
  have hg1 := World.grownBy_alloc w (.cells #[] 5 (0, 0)) none
  have HW2 := Lib.hid ((Below.refl w.heap.size w).grown hg1 (Nat.le_refl _) (by simp))
  have HR2 := Lib.hid (h.below HW2.out)
  have HO2 := Lib.hid (owns_empty w 5 1 _ rfl w.heap.size (Nat.le_refl _))
  clear h hg1
  go_enter Try.func89, Try.ntmps89
  go_wp2_with (at_builtin; go_must (refine wpList_appb _ rfl (.tmp 4) (.tmp 5) rfl w.heap.size (.slice (some ⟨w.heap.size, 0, none⟩) 0 0) [] rfl HO2.out _ T b rfl HR2.out (by simp; omega) HW2.out.size ?_); intro v' w3 ho3 hg3; go_must (have HW3 := Lib.hid (below_app HW2.out HO2.out (Nat.le_refl _) hg3 HW2.out.size)); obtain ⟨A', c', he⟩ := (RowIs.of_owns ho3).shape; subst he; have HO3 := Lib.hid ho3; clear ho3 hg3)
  go_ret
  have ho : w3.ownsRow w.heap.size 5 1 (.slice A' b.length c') b.length (bv b) := HO3.out
  have hlt : w.heap.size ≤ w3.heap.size := HW3.out.size
  refine ⟨w3.heap.size, .slice A' b.length c', rfl, ?_, hlt, ⟨A', c', rfl, (RowIs.of_owns ho).below ((Below.refl _ _).alloc (Nat.le_refl _) _), fun a ha => ?_⟩, HW3.out.alloc hlt _⟩
  · rw [cell_of_row _ _ _ _ _ _ (heap_alloc_new w3 (.cells #[.slice A' b.length c'] 33 (0, 0)))]
    rfl
  · subst ha
    have := ho.lt a.block rfl
    constructor
    · simp
      omega
    · simp
      omega
end Go.Proofs.Yteggldplmbegfaa
