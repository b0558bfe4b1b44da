/- journal.read, walked: the records of bytes. -/
import Derived.Test.YteggldplmbegfaaJnRange
import Derived.Test.YteggldplmbegfaaJnSum
import Derived.Test.YteggldplmbegfaaB2
set_option linter.unusedVariables false
set_option linter.unusedSimpArgs false
namespace Go.Proofs.Yteggldplmbegfaa
open Go.RowKit Go.Shelf
attribute [local go_sem] Oper.semAt_some

def openAll : List (List UInt8) → Option (List (List UInt8))
  | [] => some []
  | f :: fs => match openR f, openAll fs with
    | some r, some l => some (r :: l)
    | _, _ => none
theorem openAll_snoc : ∀ (fs : List (List UInt8)) (f r : List UInt8) (rs : List (List UInt8)), openAll fs = some rs → openR f = some r → openAll (fs ++ [f]) = some (rs ++ [r])
  | [], f, r, rs, h, hr => by
    simp only [openAll, Option.some.injEq] at h
    subst h
    simp [openAll, hr]
  | g :: fs, f, r, rs, h, hr => by
    simp only [openAll] at h
    cases hg : openR g with
    | none => rw [hg] at h; simp at h
    | some y =>
      cases hf : openAll fs with
      | none => rw [hg, hf] at h; simp at h
      | some ys =>
        rw [hg, hf] at h
        simp only [Option.some.injEq] at h
        subst h
        simp [openAll, hg, openAll_snoc fs f r ys hf hr]
theorem recsOf_all : ∀ (fs : List (List UInt8)) (e : Int) (rs : List (List UInt8)), openAll fs = some rs → recsOf fs e = if e = 0 then (some rs, 0) else (none, 7)
  | [], e, rs, h => by
    simp only [openAll, Option.some.injEq] at h
    subst h
    rfl
  | g :: fs, e, rs, h => by
    simp only [openAll] at h
    cases hg : openR g with
    | none => rw [hg] at h; simp at h
    | some y =>
      cases hf : openAll fs with
      | none => rw [hg, hf] at h; simp at h
      | some ys =>
        rw [hg, hf] at h
        simp only [Option.some.injEq] at h
        subst h
        simp only [recsOf, hg, recsOf_all fs e ys hf]
        by_cases he : e = 0
        · simp [he]
        · simp [he]
theorem recsOf_bad : ∀ (init : List (List UInt8)) (f : List UInt8) (rest : List (List UInt8)) (e : Int) (rs : List (List UInt8)), openAll init = some rs → openR f = none → recsOf (init ++ f :: rest) e = (none, 9)
  | [], f, rest, e, rs, h, hf => by simp [recsOf, hf]
  | g :: init, f, rest, e, rs, h, hf => by
    simp only [openAll] at h
    cases hg : openR g with
    | none => rw [hg] at h; simp at h
    | some y =>
      cases hi : openAll init with
      | none => rw [hg, hi] at h; simp at h
      | some ys => simp [recsOf, hg, recsOf_bad init f rest e ys hi hf]

/-- A slice of slices of bytes, made here, reads as these records. -/
def RecsT (w : World) (v : Value) (rs : List (List UInt8)) : Prop :=
  ∃ vs, RowIs w v 33 1 rs.length vs ∧ ∀ (i : Nat) (r : List UInt8), rs[i]? = some r → r.length ≤ 9223372036854775807 ∧ ∃ x, vs[i]? = some x ∧ RowIs w x 5 1 r.length (bv r)
theorem RecsT.nil (w : World) (A : Option Addr) (c : Nat) : RecsT w (.slice A 0 c) [] := ⟨[], RowIs.nil _ _ _ _ _, by simp⟩
theorem RecsT.recs {w : World} {v : Value} {rs : List (List UInt8)} (h : RecsT w v rs) : RecsIs w v rs := by
  obtain ⟨vs, h1, h2⟩ := h
  exact ⟨_, vs, h1, fun i r hr => by obtain ⟨p, x, q, s⟩ := h2 i r hr; exact ⟨p, x, _, q, s⟩⟩
theorem RecsT.other {w w' : World} {v : Value} {rs : List (List UInt8)} (h : RecsT w v rs) {S : List Nat} (hf : Fr w w' S)
    (hS : ∀ b ∈ S, w.heap.size ≤ b ∨ ∃ c2 T2 f2, w.heap[b]? = some (.cells c2 T2 f2) ∧ 33 ≠ T2 ∧ 5 ≠ T2) : RecsT w' v rs := by
  obtain ⟨vs, h1, h2⟩ := h
  refine ⟨vs, h1.other hf (fun b hb => ?_), fun i r hr => ?_⟩
  · rcases hS b hb with h3 | ⟨c2, T2, f2, p, q, s⟩
    · exact .inl h3
    · exact .inr ⟨c2, T2, f2, p, q⟩
  · obtain ⟨p, x, q, s⟩ := h2 i r hr
    refine ⟨p, x, q, s.other hf (fun b hb => ?_)⟩
    rcases hS b hb with h3 | ⟨c2, T2, f2, p, q, s⟩
    · exact .inl h3
    · exact .inr ⟨c2, T2, f2, p, s⟩
theorem RecsT.below {w w' : World} {v : Value} {rs : List (List UInt8)} (h : RecsT w v rs) (hb : Below w.heap.size w w') : RecsT w' v rs := h.other (S := []) (Fr.below_iff.2 hb) (by simp)
/-- What has been gathered: at block o lies a slice of slices that reads as the records. -/
def Gath (B o : Nat) (W : World) (rs : List (List UInt8)) : Prop :=
  ∃ vo vs, W.heap[o]? = some (.cells #[vo] 48 (0, 0)) ∧ W.ownsRow B 33 1 vo rs.length vs ∧ ∀ (i : Nat) (r : List UInt8), rs[i]? = some r → r.length ≤ 9223372036854775807 ∧ ∃ x, vs[i]? = some x ∧ RowIs W x 5 1 r.length (bv r)
theorem Gath.recs {B o : Nat} {W : World} {rs : List (List UInt8)} (h : Gath B o W rs) : ∃ vo, W.heap[o]? = some (.cells #[vo] 48 (0, 0)) ∧ RecsIs W vo rs := by
  obtain ⟨vo, vs, h1, h2, h3⟩ := h
  exact ⟨vo, h1, 33, vs, RowIs.of_owns h2, fun i r hr => by obtain ⟨p, x, q, s⟩ := h3 i r hr; exact ⟨p, x, _, q, s⟩⟩
theorem Gath.move {B o : Nat} {W W' : World} {rs : List (List UInt8)} (h : Gath B o W rs) (hm : ∀ (k : Nat) (c : Array Value) (T : TypeId) (fr : Nat × Nat), W.heap[k]? = some (.cells c T fr) → W'.heap[k]? = W.heap[k]?) : Gath B o W' rs := by
  obtain ⟨vo, vs, h1, h2, h3⟩ := h
  refine ⟨vo, vs, (hm _ _ _ _ h1).trans h1, ⟨h2.1, ?_⟩, fun i r hr => ?_⟩
  · rcases h2.2 with h4 | ⟨g, cap, cur, rfl, hg, hh, r⟩
    · exact .inl h4
    · exact .inr ⟨g, cap, cur, rfl, hg, (hm _ _ _ _ hh).trans hh, r⟩
  · obtain ⟨p, x, q, s⟩ := h3 i r hr
    exact ⟨p, x, q, s.move fun g cur fr hh => hm _ _ _ _ hh⟩
theorem grown_cells {X Y : World} {row : Option Nat} (hg : X.grownBy Y row) (hr : ∀ r, row = some r → ∃ o : Obj, X.heap[r]? = some o ∧ o.isCells = false) (k : Nat) (c : Array Value) (T : TypeId) (fr : Nat × Nat) (h : X.heap[k]? = some (.cells c T fr)) : Y.heap[k]? = X.heap[k]? :=
  hg.block k (lt_of_heap h) (fun e => by obtain ⟨o, ho, hc⟩ := hr k e.symm; rw [h] at ho; cases ho; cases hc)
theorem Gath.below {B o : Nat} {W W' : World} {rs : List (List UInt8)} (h : Gath B o W rs) (hb : Below W.heap.size W W') : Gath B o W' rs := h.move fun k c T fr hh => hb.block k (lt_of_heap hh)
theorem info33 : (Try.prog.info? 33).map (fun i => (i.zero, i.size, i.bytes)) = some (some (.slice none 0 0), 1, 24) := by kernel_rfl
theorem wpListIn_appr {F : Fence} {n : Nat} {ops : Array Oper} {rest : List Oper} {o : Oper} {a : Act} {w : World} {Q : Exit → Act → World → Prop} (hgd : o.guard = none) (s y : Operand)
    (ho : o.op = .call { callee := .builtin .append, args := #[s, y], argTypes := #[48, 48] }) (base : Nat)
    (v : Value) (k : Nat) (xs : List Value) (hs : a.eval s = v) (hown : w.ownsRow base 33 1 v k xs)
    (x : Value) (T : TypeId) (m : Nat) (news : List Value) (hy : a.eval y = x) (hx : RowIs w x T 1 m news) (h1 : ∀ u ∈ news, u.oneCell' = true) (hb : (k + m) * 24 ≤ 140737488355328) (hbase : base ≤ w.heap.size)
    (h : ∀ v' w', w'.ownsRow base 33 1 v' (k + m) (xs ++ news) → w.grownBy w' v.ownBlock → wpListIn F n Try.prog ops Q rest (a.put o.dst v') w') : wpListIn F n Try.prog ops Q (o :: rest) a w := by
  obtain ⟨i0, hi, hz0, hz1, hz2⟩ := info_parts info33
  obtain ⟨v', w', hr, p1, p2⟩ := run_app (P := Try.prog) w base 48 o.type 33 i0 _ 1 24 Try.underlying48 hi hz0 hz1 hz2 rfl (by decide) v k xs hown x T m news hx h1 (by unfold maxLen; omega) hb hbase
  refine wpListIn_plain hgd fun K hK => ?_
  unfold Oper.wpIn
  refine ⟨?_, ?_⟩
  · simp [Oper.about, ho, resolve, Target.leads, Sem.run_pure]
  · rw [Oper.semAt_plain F _ _ (by rw [ho]; intro c hc'; cases hc')]
    simp [execOp, ho, resolve, invoke, builtin, hs, hy, hr, Result.andThen]
    exact hK _ _ (h v' w' p1 p2)
theorem one_set {w : World} {g : Nat} {x : Value} {T : TypeId} (v : Value) (h : w.heap[g]? = some (.cells #[x] T (0, 0))) : (w.setCell ⟨g, 0, none⟩ v).heap[g]? = some (.cells #[v] T (0, 0)) := one_setCell h
theorem own_type {w : World} {base : Nat} {e : TypeId} {size n : Nat} {v : Value} {xs : List Value} (h : w.ownsRow base e size v n xs) (k : Nat) (hk : v.ownBlock = some k) : ∃ c, w.heap[k]? = some (.cells c e (0, 0)) := by
  rcases h.2 with ⟨rfl, _⟩ | ⟨g, cap, cur, rfl, hg, hh, r⟩
  · simp [Value.ownBlock] at hk
  · have : g = k := by simpa [Value.ownBlock] using hk
    subst this
    exact ⟨cur, hh⟩
theorem gath_cell {B o : Nat} {W W2 W3 : World} {vo : Value} {n : Nat} {vs : List Value} (ho : W.heap[o]? = some (.cells #[vo] 48 (0, 0))) (hown : W.ownsRow B 33 1 vo n vs) (hb : Below W.heap.size W W2) (hg : W2.grownBy W3 vo.ownBlock) :
    W3.heap[o]? = some (.cells #[vo] 48 (0, 0)) :=
  grown_keep hg ((hb.block o (lt_of_heap ho)).trans ho) (fun e => by
    obtain ⟨c, hc⟩ := own_type hown o e.symm
    rw [ho] at hc
    simp at hc)
/-- One record more. -/
theorem Gath.push {B o : Nat} {W W2 W3 : World} {rs : List (List UInt8)} {vo v2 x : Value} {vs : List Value} {r : List UInt8} (ho : W.heap[o]? = some (.cells #[vo] 48 (0, 0))) (hown : W.ownsRow B 33 1 vo rs.length vs)
    (hrs : ∀ (i : Nat) (r : List UInt8), rs[i]? = some r → r.length ≤ 9223372036854775807 ∧ ∃ x, vs[i]? = some x ∧ RowIs W x 5 1 r.length (bv r)) (hx : RowIs W x 5 1 r.length (bv r)) (hr : r.length ≤ 9223372036854775807)
    (hb : Below W.heap.size W W2) (hg : W2.grownBy W3 vo.ownBlock) (h3 : W3.ownsRow B 33 1 v2 (rs.length + 1) (vs ++ [x])) :
    Gath B o (W3.setCell ⟨o, 0, none⟩ v2) (rs ++ [r]) := by
  have hvl : vs.length = rs.length := by have := hown.1; omega
  have ho2 := (hb.block o (lt_of_heap ho)).trans ho
  have own2 := hown
  have hne : some o ≠ vo.ownBlock := fun e => by
    obtain ⟨c, hc⟩ := own_type hown o e.symm
    rw [ho] at hc
    simp at hc
  have ho3 := grown_keep hg ho2 hne
  have hrow : ∀ (y : Value) (l : List UInt8), RowIs W y 5 1 l.length (bv l) → RowIs (W3.setCell ⟨o, 0, none⟩ v2) y 5 1 l.length (bv l) := fun y l h => by
    refine h.move fun g cur fr hh => ?_
    have e2 := (hb.block g (lt_of_heap hh)).trans hh
    have e3 : W3.heap[g]? = W2.heap[g]? := hg.block g (lt_of_heap e2) (fun e => by
      obtain ⟨c, hc⟩ := own_type hown g e.symm
      rw [hh] at hc
      simp at hc)
    have e4 : g ≠ o := fun e => by
      subst e
      rw [ho] at hh
      simp at hh
    rw [Below.heap_setCell _ _ _ _ e4, e3, e2, hh]
  refine ⟨v2, vs ++ [x], one_set v2 ho3, ?_, fun i l hi => ?_⟩
  · rw [List.length_append]
    refine ⟨h3.1, ?_⟩
    rcases h3.2 with h4 | ⟨g, cap, cur, rfl, hg', hh, rest⟩
    · exact .inl h4
    · refine .inr ⟨g, cap, cur, rfl, hg', ?_, rest⟩
      rw [Below.heap_setCell _ _ _ _ (fun e => by
        have e' : g = o := e
        subst e'
        rw [ho3] at hh
        simp at hh)]
      exact hh
  · by_cases hlt : i < rs.length
    · rw [List.getElem?_append_left hlt] at hi
      obtain ⟨p, y, q, s⟩ := hrs i l hi
      exact ⟨p, y, by rw [List.getElem?_append_left (by omega)]; exact q, hrow y l s⟩
    · rw [List.getElem?_append_right (by omega)] at hi
      have h0 : i - rs.length = 0 := by
        have := (List.getElem?_eq_some_iff.1 hi).1
        simp at this
        omega
      rw [h0] at hi
      simp only [List.getElem?_cons_zero, Option.some.injEq] at hi
      subst hi
      exact ⟨hr, x, by rw [List.getElem?_append_right (by omega), hvl, h0]; rfl, hrow x r hx⟩
theorem load48 {w : World} {g : Nat} {x : Value} {T : TypeId} {fr : Nat × Nat} (h : w.heap[g]? = some (.cells #[x] T fr)) : (loadVar 48 ⟨g, 0, none⟩).run Try.prog w = .ok x w := by
  have hc : w.cell? ⟨g, 0, none⟩ = some x := by rw [cell_of_row _ _ _ _ _ _ h]; rfl
  simp [hc, go_sem]
theorem load29 {w : World} {g : Nat} {x : Value} {T : TypeId} {fr : Nat × Nat} (h : w.heap[g]? = some (.cells #[x] T fr)) : (loadVar 29 ⟨g, 0, none⟩).run Try.prog w = .ok x w := by
  have hc : w.cell? ⟨g, 0, none⟩ = some x := by rw [cell_of_row _ _ _ _ _ _ h]; rfl
  simp [hc, go_sem]
theorem results_cells2 {fn : Func} {p q : Tmp} {t1 t2 : TypeId} {P : Program} {w : World} (h : fn.results = #[.cell p t1, .cell q t2]) (tmps : Array Value) (a b : Addr) (v1 v2 : Value) (hp : tmps.getD p undef = .pointer (some a)) (hq : tmps.getD q undef = .pointer (some b))
    (h1 : (loadVar t1 a).run P w = .ok v1 w) (h2 : (loadVar t2 b).run P w = .ok v2 w) : (results fn tmps).run P w = .ok (.tuple #[v1, v2]) w := by
  have hp' : tmps[p]?.getD undef = .pointer (some a) := by simpa using hp
  have hq' : tmps[q]?.getD undef = .pointer (some b) := by simpa using hq
  simp only [results, h]
  simp [Sem.run_bind, Result.andThen, hp', hq', asAddr, h1, h2]
theorem new_row (W : World) (x : Value) : RowIs (W.alloc (.cells #[x] 33 (0, 0))) (.slice (some ⟨W.heap.size, 0, none⟩) 1 1) 33 1 1 [x] :=
  ⟨rfl, .inr ⟨W.heap.size, 0, 1, #[x], (0, 0), rfl, Nat.le_refl _, heap_alloc_new W _, fun j y hj => by rw [Nat.zero_add]; simpa using hj⟩⟩
theorem three_new (w : World) : ∃ w1, w1 = (((w.alloc (.cells #[.slice none 0 0] 48)).alloc (.cells #[.int .i64 0] 29)).alloc (.cells #[.slice none 0 0] 48)) ∧ w1.heap[w.heap.size]? = some (.cells #[.slice none 0 0] 48 (0, 0)) ∧
    w1.heap[w.heap.size + 1]? = some (.cells #[.int .i64 0] 29 (0, 0)) ∧ w1.heap[w.heap.size + 2]? = some (.cells #[.slice none 0 0] 48 (0, 0)) ∧ Below w.heap.size w w1 := by
  refine ⟨_, rfl, ?_, ?_, ?_, (((Below.refl _ w).alloc (Nat.le_refl _) _).alloc (by simp) _).alloc (by simp; omega) _⟩
  · rw [heap_alloc_old _ _ (by simp; omega), heap_alloc_old _ _ (by simp), heap_alloc_new]
  · rw [heap_alloc_old _ _ (by simp)]
    have := heap_alloc_new (w.alloc (.cells #[.slice none 0 0] 48)) (.cells #[.int .i64 0] 29 (0, 0))
    rw [World.size_alloc] at this
    exact this
  · have := heap_alloc_new ((w.alloc (.cells #[.slice none 0 0] 48)).alloc (.cells #[.int .i64 0] 29)) (.cells #[.slice none 0 0] 48 (0, 0))
    rw [World.size_alloc, World.size_alloc] at this
    exact this
set_option maxRecDepth 100000 in
set_option maxHeartbeats 4000000 in
theorem jread_any (w : World) (v : Value) (T : TypeId) (b : List UInt8) (h : RowIs w v T 1 b.length (bv b)) (hb : b.length ≤ 100000000) :
    Calls Try.prog 60 #[v] w fun e w' => Below w.heap.size w w' ∧
      ((∃ rs v', readR b = (some rs, 0) ∧ e = .returned (.tuple #[v', .int .i64 0]) ∧ RecsT w' v' rs) ∨ (∃ c, c ≠ 0 ∧ readR b = (none, c) ∧ e = .returned (.tuple #[.slice none 0 0, .int .i64 c]))) := by
  obtain ⟨A, c, rfl⟩ := h.shape
  refine (callsIn_wide (n := 4)).1 ?_
  refine callsIn_of_wp_marks Try.func60 rfl trivial ?_ rfl
  simp only [Try.ntmps60, List.size_toArray, List.length_cons, List.length_nil, Nat.reduceAdd, Nat.reduceSub, Array.replicate_succ, Array.replicate_zero, List.push_toArray, List.append_toArray, List.nil_append, List.cons_append]
  obtain ⟨w1, hw1, hc1, hc2, hc3, hb1⟩ := three_new w
  have h1 := h.below hb1
  have HC1 := Lib.hid hc1
  have HC2 := Lib.hid hc2
  have HC3 := Lib.hid hc3
  have HB1 := Lib.hid hb1
  have hsz : w.heap.size + 3 ≤ w1.heap.size := lt_of_heap hc3
  have HF := Lib.hid (cFields_any w1 _ T b h1 (by omega))
  clear h h1 hc1 hc2 hc3 hb1
  gi_wp2_with fail
  rw [← hw1]
  clear hw1
  refine ⟨trivial, (callsIn_wide.2 HF.out).mono ?_⟩
  clear HF
  rintro e w2 ⟨Bo, v0, rfl, hBo, hBo1, hrow, hb2⟩
  have HB2 := Lib.hid hb2
  have HROW := Lib.hid hrow
  have HBO := Lib.hid hBo
  clear hb2 hrow hBo
  gi_wp2_with fail
  have hsz2 : w1.heap.size ≤ w2.heap.size := HB2.out.size
  have k1 := Lib.hid ((HB2.out.block _ (lt_of_heap HC1.out)).trans HC1.out)
  have k2 := Lib.hid ((HB2.out.block _ (lt_of_heap HC2.out)).trans HC2.out)
  have k3 := Lib.hid ((HB2.out.block _ (lt_of_heap HC3.out)).trans HC3.out)
  have kb := Lib.hid (HB1.out.trans (HB2.out.mono HB1.out.size))
  obtain ⟨B, hB⟩ : ∃ B, B = w.heap.size := ⟨_, rfl⟩
  have hI : ∀ (P : Prop) (d : Int), Stays w2.heap.size (fun W => P ∧ Below w.heap.size w W ∧ W.heap[w.heap.size]? = some (.cells #[.slice none 0 0] 48 (0, 0)) ∧ W.heap[w.heap.size + 1]? = some (.cells #[.int .i64 d] 29 (0, 0))) :=
    fun P d X Y row ⟨p0, p1, p2, p3⟩ hg hr => ⟨p0, p1.grown hg p1.size (fun k e => by have := (hr k e).1; omega), (grown_cells hg (fun r e => (hr r e).2) _ _ _ _ p2).trans p2, (grown_cells hg (fun r e => (hr r e).2) _ _ _ _ p3).trans p3⟩
  refine range_fields 4 (by omega) Bo rfl rfl [w.heap.size, w.heap.size + 1, w.heap.size + 1 + 1] (by simp; omega) b (by omega) v0 HBO.out ?_
    (fun pre W => (True ∧ Below w.heap.size w W ∧ W.heap[w.heap.size]? = some (.cells #[.slice none 0 0] 48 (0, 0)) ∧ W.heap[w.heap.size + 1]? = some (.cells #[.int .i64 0] 29 (0, 0))) ∧ ∃ rs, openAll pre = some rs ∧ rs.length ≤ pre.length ∧ Gath (w2.heap.size + 2) (w.heap.size + 1 + 1) W rs)
    (fun pre W => (∃ init f rs, pre = init ++ [f] ∧ openAll init = some rs ∧ openR f = none) ∧ Below w.heap.size w W ∧ W.heap[w.heap.size]? = some (.cells #[.slice none 0 0] 48 (0, 0)) ∧ W.heap[w.heap.size + 1]? = some (.cells #[.int .i64 9] 29 (0, 0)))
    (fun W => ((∃ rs, openAll (fieldsOf (b.length + 1) b).1 = some rs) ∧ (fieldsOf (b.length + 1) b).2 ≠ 0) ∧ Below w.heap.size w W ∧ W.heap[w.heap.size]? = some (.cells #[.slice none 0 0] 48 (0, 0)) ∧ W.heap[w.heap.size + 1]? = some (.cells #[.int .i64 7] 29 (0, 0)))
    (fun pre X Y row ⟨p, rs, q1, q2, q3⟩ hg hr => ⟨hI _ _ X Y row p hg hr, rs, q1, q2, q3.move (grown_cells hg (fun r e => (hr r e).2))⟩) (fun pre => hI _ _) (hI _ _) ?_
    (fun x y => { tmps := #[.slice A b.length c, undef, .pointer (some ⟨w.heap.size, 0, none⟩), .pointer (some ⟨w.heap.size + 1, 0, none⟩), .pointer (some ⟨w.heap.size + 1 + 1, 0, none⟩), x, y, undef, undef,
      .slice A b.length c, .func (.func 113) #[] #[.pointer (some ⟨Bo, 0, none⟩)], x, y, undef, undef, undef, undef, undef, undef, undef, undef, undef, undef, undef, undef, undef, undef], defers := [] }) ?assign ?body ?bodyE ?done ?stop ?stopE
  · obtain ⟨A', c', he, q1, q2⟩ := HROW.out
    exact ⟨A', c', he, q1, fun a ha => ⟨(q2 a ha).1, fun hm => (q2 a ha).2 (by
      rw [List.mem_range]
      simp only [List.mem_cons, List.not_mem_nil, or_false] at hm
      omega)⟩⟩
  · exact ⟨⟨trivial, kb.out, k1.out, k2.out⟩, [], rfl, Nat.le_refl _, .slice none 0 0, [], k3.out, World.ownsRow_nil _ _ _ _, by simp⟩
  case assign =>
    intro l x y W K hK
    gi_wp2
    exact hK
  case body =>
    intro l pre f v W ⟨⟨_, hbl, hb0, hb1⟩, rs, hrs, hlen, vo, vs, ho, hown, hall⟩ hpf hfl hrv hsz3
    have hpl : pre.length + 1 ≤ b.length := by
      have h1 := hpf.length_le
      have h2 := fieldsOf_len (b.length + 1) b
      rw [List.length_append] at h1
      simp only [List.length_cons, List.length_nil] at h1
      omega
    have HBL := Lib.hid hbl
    have HO := Lib.hid ho
    have HOWN := Lib.hid hown
    have HALL := Lib.hid hall
    have H0 := Lib.hid hb0
    have H1 := Lib.hid hb1
    have HRS := Lib.hid hrs
    have hop := wOpenR W v 5 f hrv (by omega)
    have HOP := Lib.hid hop
    clear hbl ho hown hall hb0 hb1 hrs hop hrv
    gi_wp2_with fail
    refine ⟨trivial, (CallsIn.inRound l (callsIn_wide.2 HOP.out)).mono ?_⟩
    clear HOP
    rintro e W2 ⟨hb2, (⟨r, x, hor, rfl, hx⟩ | ⟨hor, x, c', rfl, hc'⟩)⟩
    · have HB2 := Lib.hid hb2
      have HOR := Lib.hid hor
      have HX := Lib.hid hx
      obtain ⟨Ax, cx, rfl⟩ := hx.shape
      clear hb2 hor hx
      have hrl : r.length ≤ f.length := by
        have h := HOR.out
        unfold openR at h
        split at h
        · simp only [Option.some.injEq] at h
          rw [← h, List.length_take]
          omega
        · cases h
      have ho2 := (HB2.out.block _ (lt_of_heap HO.out)).trans HO.out
      have hc2 : W2.cell? ⟨w.heap.size + 1 + 1, 0, none⟩ = some vo := cell_of_one ho2
      have hg1 := World.grownBy_alloc W2 (.cells #[.slice Ax r.length cx] 33 (0, 0)) none
      have HB3 := Lib.hid (HB2.out.grown hg1 HB2.out.size (by simp))
      have HOWN3 := Lib.hid (owns_below (owns_below HOWN.out HB2.out) (Fr.below_iff.1 ((Fr.refl W2 []).grown hg1 (by simp))))
      have HNEW := Lib.hid (new_row W2 (.slice Ax r.length cx))
      clear ho2 hg1
      gi_wp2_with (gi_at_builtin; go_must (refine wpListIn_appr rfl (.tmp 22) (.tmp 24) rfl (w2.heap.size + 2) vo rs.length vs rfl HOWN3.out (.slice (some ⟨W2.heap.size, 0, none⟩) 1 1) 33 1 [.slice Ax r.length cx] rfl HNEW.out (by simp [Value.oneCell']) (by omega) (Nat.le_trans hsz3 HB3.out.size) ?_); intro v2 W3 ho3 hg3; have HG3 := Lib.hid hg3; have HO3 := Lib.hid ho3; go_must (have hq := gath_cell HO.out HOWN.out HB3.out hg3); have hcq : W3.cell? ⟨w.heap.size + 1 + 1, 0, none⟩ = some vo := cell_of_one hq; have hfq : W3.frozen? ⟨w.heap.size + 1 + 1, 0, none⟩ = false := free_of_one hq; obtain ⟨A2, c2, he2⟩ := (RowIs.of_owns ho3).shape; subst he2; clear ho3 hg3 hq)
      have hgath := Gath.push ((HB2.out.block _ (lt_of_heap HO.out)).trans HO.out) (owns_below HOWN.out HB2.out) (fun i r hr => by obtain ⟨p, x, q, s⟩ := HALL.out i r hr; exact ⟨p, x, q, s.below HB2.out⟩) HX.out (by omega)
        (Fr.below_iff.1 ((Fr.refl W2 []).grown (World.grownBy_alloc W2 (.cells #[.slice Ax r.length cx] 33 (0, 0)) none) (by simp))) HG3.out HO3.out
      have hbase : Below w.heap.size w (W3.setCell ⟨w.heap.size + 1 + 1, 0, none⟩ (.slice A2 (rs.length + 1) c2)) :=
        (below_app (HBL.out.trans (HB3.out.mono HBL.out.size)) HOWN3.out (by omega) HG3.out (Nat.le_trans HBL.out.size HB3.out.size)).setCell (p := ⟨w.heap.size + 1 + 1, 0, none⟩) (by show w.heap.size ≤ w.heap.size + 1 + 1; omega) _
      have hkeep : ∀ (k : Nat) (y : Value) (T : TypeId), T ≠ 33 → k ≠ w.heap.size + 1 + 1 → W.heap[k]? = some (.cells #[y] T (0, 0)) → (W3.setCell ⟨w.heap.size + 1 + 1, 0, none⟩ (.slice A2 (rs.length + 1) c2)).heap[k]? = some (.cells #[y] T (0, 0)) := fun k y T hT hk h => by
        rw [Below.heap_setCell _ _ _ _ hk]
        refine grown_keep HG3.out ((HB3.out.block k (lt_of_heap h)).trans h) (fun e => ?_)
        obtain ⟨c, hc⟩ := own_type HOWN.out k e.symm
        rw [h] at hc
        simp at hc
        exact hT hc.2
      refine ⟨?_, ⟨trivial, hbase, hkeep _ _ _ (by decide) (by omega) H0.out, hkeep _ _ _ (by decide) (by omega) H1.out⟩, rs ++ [r], openAll_snoc _ _ _ _ HRS.out HOR.out, by rw [List.length_append, List.length_append]; simp; exact hlen, hgath⟩
      have g1 : FrN (w2.heap.size + 2) [w.heap.size, w.heap.size + 1, w.heap.size + 1 + 1] W W3 := (FrN.of_below HB3.out hsz3).grown HG3.out (Nat.le_trans hsz3 HB3.out.size) (fun k hk => .inr (HOWN.out.lt k hk).1)
      exact g1.grown (grownBy_setCell' W3 _ _) (Nat.le_trans hsz3 (Nat.le_trans HB3.out.size HG3.out.size)) (fun k e => by cases e; exact .inl (by simp))
    · have HB2 := Lib.hid hb2
      have HOR := Lib.hid hor
      have hcn : (c' == 0) = false := beq_false_of_ne hc'
      have hcn2 : (c' != 0) = true := by simp [bne, hcn]
      have q0 := (HB2.out.block _ (lt_of_heap H0.out)).trans H0.out
      have q1 := (HB2.out.block _ (lt_of_heap H1.out)).trans H1.out
      have c0 : W2.cell? ⟨w.heap.size, 0, none⟩ = some (.slice none 0 0) := cell_of_one q0
      have f0 : W2.frozen? ⟨w.heap.size, 0, none⟩ = false := free_of_one q0
      have c1 : W2.cell? ⟨w.heap.size + 1, 0, none⟩ = some (.int .i64 0) := cell_of_one q1
      have f1 : W2.frozen? ⟨w.heap.size + 1, 0, none⟩ = false := free_of_one q1
      have Q0 := Lib.hid q0
      have Q1 := Lib.hid q1
      clear hb2 hor q0 q1 hc'
      gi_wp2
      refine ⟨?_, ⟨pre, f, rs, rfl, HRS.out, HOR.out⟩, ?_, ?_, ?_⟩
      · exact ((FrN.of_below HB2.out hsz3).grown (grownBy_setCell' _ _ _) (Nat.le_trans hsz3 (HB2.out).size) (fun k e => by cases e; exact .inl (by simp))).grown (grownBy_setCell' _ _ _) (by rw [World.size_setCell]; exact Nat.le_trans hsz3 (HB2.out).size) (fun k e => by cases e; exact .inl (by simp))
      · exact ((HBL.out.trans ((HB2.out).mono HBL.out.size)).setCell (p := ⟨w.heap.size, 0, none⟩) (Nat.le_refl _) _).setCell (p := ⟨w.heap.size + 1, 0, none⟩) (by show w.heap.size ≤ w.heap.size + 1; omega) _
      · rw [Below.heap_setCell _ _ _ _ (by show w.heap.size ≠ w.heap.size + 1; omega)]
        exact one_setCell Q0.out
      · exact one_setCell (by rw [Below.heap_setCell _ _ _ _ (by show w.heap.size + 1 ≠ w.heap.size; omega)]; exact Q1.out)
  case bodyE =>
    intro l pre c W ⟨⟨_, hbl, hb0, hb1⟩, rs, hrs, hlen, _⟩ hpre hce hc hsz3
    have HBL := Lib.hid hbl
    have Q0 := Lib.hid hb0
    have Q1 := Lib.hid hb1
    have HRS := Lib.hid hrs
    have HPRE := Lib.hid hpre
    have HCE := Lib.hid hce
    have hcn : (c == 0) = false := beq_false_of_ne (by omega)
    have hcn2 : (c != 0) = true := by simp [bne, hcn]
    have c0 : W.cell? ⟨w.heap.size, 0, none⟩ = some (.slice none 0 0) := cell_of_one hb0
    have f0 : W.frozen? ⟨w.heap.size, 0, none⟩ = false := free_of_one hb0
    have c1 : W.cell? ⟨w.heap.size + 1, 0, none⟩ = some (.int .i64 0) := cell_of_one hb1
    have f1 : W.frozen? ⟨w.heap.size + 1, 0, none⟩ = false := free_of_one hb1
    have HNZ := Lib.hid (show (fieldsOf (b.length + 1) b).2 ≠ 0 by rw [← hce]; omega)
    clear hbl hb0 hb1 hrs hpre hce hc
    gi_wp2
    refine ⟨?_, ⟨⟨rs, by rw [← HPRE.out]; exact HRS.out⟩, HNZ.out⟩, ?_, ?_, ?_⟩
    · exact ((FrN.of_below (Below.refl W.heap.size W) hsz3).grown (grownBy_setCell' _ _ _) (Nat.le_trans hsz3 ((Below.refl W.heap.size W)).size) (fun k e => by cases e; exact .inl (by simp))).grown (grownBy_setCell' _ _ _) (by rw [World.size_setCell]; exact Nat.le_trans hsz3 ((Below.refl W.heap.size W)).size) (fun k e => by cases e; exact .inl (by simp))
    · exact ((HBL.out.trans (((Below.refl W.heap.size W)).mono HBL.out.size)).setCell (p := ⟨w.heap.size, 0, none⟩) (Nat.le_refl _) _).setCell (p := ⟨w.heap.size + 1, 0, none⟩) (by show w.heap.size ≤ w.heap.size + 1; omega) _
    · rw [Below.heap_setCell _ _ _ _ (by show w.heap.size ≠ w.heap.size + 1; omega)]
      exact one_setCell Q0.out
    · exact one_setCell (by rw [Below.heap_setCell _ _ _ _ (by show w.heap.size + 1 ≠ w.heap.size; omega)]; exact Q1.out)
  case done =>
    intro D W hz ⟨⟨_, hbl, hb0, hb1⟩, rs, hrs, hlen, hgath⟩ hD hDl
    obtain ⟨vo, vs, ho, hown, hall⟩ := hgath
    have HOWN := Lib.hid hown
    have HALL := Lib.hid hall
    have hc4 : W.cell? ⟨w.heap.size + 1 + 1, 0, none⟩ = some vo := cell_of_one ho
    have c0 : W.cell? ⟨w.heap.size, 0, none⟩ = some (.slice none 0 0) := cell_of_one hb0
    have f0 : W.frozen? ⟨w.heap.size, 0, none⟩ = false := free_of_one hb0
    have c1 : W.cell? ⟨w.heap.size + 1, 0, none⟩ = some (.int .i64 0) := cell_of_one hb1
    have f1 : W.frozen? ⟨w.heap.size + 1, 0, none⟩ = false := free_of_one hb1
    have HBL := Lib.hid hbl
    have Q0 := Lib.hid hb0
    have Q1 := Lib.hid hb1
    have HO := Lib.hid ho
    have HRS := Lib.hid hrs
    have HD := Lib.hid hD
    have HZ := Lib.hid hz
    obtain ⟨Av, cv, rfl⟩ := (RowIs.of_owns hown).shape
    clear hbl hb0 hb1 hrs hown hall ho hD hz
    gi_wp2
    refine ⟨by simp, .inl ⟨_, _, rfl, run_takeDeferred (b := D) ?_, ?_⟩⟩
    · rw [Below.heap_setCell _ _ _ _ (by show D ≠ w.heap.size + 1; omega), Below.heap_setCell _ _ _ _ (by show D ≠ w.heap.size; omega)]
      exact HD.out
    · have p0 : (((W.setCell ⟨w.heap.size, 0, none⟩ (.slice Av rs.length cv)).setCell ⟨w.heap.size + 1, 0, none⟩ (.int .i64 0)).putObj D (.deferred none)).heap[w.heap.size]? = some (.cells #[.slice Av rs.length cv] 48 (0, 0)) := by
        rw [World.putObj_heap_other (by omega), Below.heap_setCell _ _ _ _ (by show w.heap.size ≠ w.heap.size + 1; omega)]
        exact one_setCell Q0.out
      have p1 : (((W.setCell ⟨w.heap.size, 0, none⟩ (.slice Av rs.length cv)).setCell ⟨w.heap.size + 1, 0, none⟩ (.int .i64 0)).putObj D (.deferred none)).heap[w.heap.size + 1]? = some (.cells #[.int .i64 0] 29 (0, 0)) := by
        rw [World.putObj_heap_other (by omega)]
        exact one_setCell (by rw [Below.heap_setCell _ _ _ _ (by show w.heap.size + 1 ≠ w.heap.size; omega)]; exact Q1.out)
      have hmv : ∀ (y : Value) (T : TypeId) (sz n : Nat) (cs : List Value), T ≠ 29 → T ≠ 48 → RowIs W y T sz n cs → RowIs (((W.setCell ⟨w.heap.size, 0, none⟩ (.slice Av rs.length cv)).setCell ⟨w.heap.size + 1, 0, none⟩ (.int .i64 0)).putObj D (.deferred none)) y T sz n cs := fun y T sz n cs hT hT2 h => h.move fun g cur fr hh => by
        rw [World.putObj_heap_other (fun e => by rw [e, HD.out] at hh; cases hh), Below.heap_setCell _ _ _ _ (fun e => by
          have e' : g = w.heap.size + 1 := e
          rw [e', Q1.out] at hh
          simp at hh
          exact hT hh.2.1.symm), Below.heap_setCell _ _ _ _ (fun e => by
          have e' : g = w.heap.size := e
          rw [e', Q0.out] at hh
          simp at hh
          exact hT2 hh.2.1.symm)]
      refine ⟨_, results_cells2 rfl _ ⟨w.heap.size, 0, none⟩ ⟨w.heap.size + 1, 0, none⟩ _ _ rfl rfl (load48 p0) (load29 p1), ?_, .inl ⟨rs, .slice Av rs.length cv, ?_, rfl, ?_⟩⟩
      · exact ((HBL.out.setCell (p := ⟨w.heap.size, 0, none⟩) (Nat.le_refl _) _).setCell (p := ⟨w.heap.size + 1, 0, none⟩) (by show w.heap.size ≤ w.heap.size + 1; omega) _).grown (grownBy_putObj' _ D _) (by have := HBL.out.size; rw [World.size_setCell, World.size_setCell]; omega) (fun k e => by cases e; omega)
      · unfold readR
        rw [recsOf_all _ _ _ HRS.out, if_pos HZ.out]
      · exact ⟨vs, hmv _ _ _ _ _ (by decide) (by decide) (RowIs.of_owns HOWN.out), fun i r hr => by obtain ⟨p, x, q, s⟩ := HALL.out i r hr; exact ⟨p, x, q, hmv _ _ _ _ _ (by decide) (by decide) s⟩⟩
  case stop =>
    rintro D pre W hpre ⟨⟨init, f, rs, rfl, hrs, hf⟩, hbl, hb0, hb1⟩ hD hDl
    gi_wp2
    refine ⟨by simp, .inl ⟨_, _, rfl, run_takeDeferred hD, ?_⟩⟩
    refine ⟨_, results_cells2 rfl _ ⟨w.heap.size, 0, none⟩ ⟨w.heap.size + 1, 0, none⟩ _ _ rfl rfl (load48 ((World.putObj_heap_other (by omega)).trans hb0)) (load29 ((World.putObj_heap_other (by omega)).trans hb1)), ?_, .inr ⟨9, by decide, ?_, rfl⟩⟩
    · exact hbl.grown (grownBy_putObj' _ D _) hbl.size (fun k e => by cases e; omega)
    · obtain ⟨rest, hre⟩ := hpre
      unfold readR
      simp only
      rw [← hre, List.append_assoc]
      exact recsOf_bad init f rest _ rs hrs hf
  case stopE =>
    intro D W hz ⟨⟨⟨rs, hrs⟩, hnz⟩, hbl, hb0, hb1⟩ hD hDl
    gi_wp2
    refine ⟨by simp, .inl ⟨_, _, rfl, run_takeDeferred hD, ?_⟩⟩
    refine ⟨_, results_cells2 rfl _ ⟨w.heap.size, 0, none⟩ ⟨w.heap.size + 1, 0, none⟩ _ _ rfl rfl (load48 ((World.putObj_heap_other (by omega)).trans hb0)) (load29 ((World.putObj_heap_other (by omega)).trans hb1)), ?_, .inr ⟨7, by decide, ?_, rfl⟩⟩
    · exact hbl.grown (grownBy_putObj' _ D _) hbl.size (fun k e => by cases e; omega)
    · unfold readR
      rw [recsOf_all _ _ _ hrs, if_neg hz]
end Go.Proofs.Yteggldplmbegfaa
