/- A REGION THAT DRAWS ITS ORDER, whose operations read, call and make memory (nothing that was there turns), and whose last ones come in one forced order: one goal an operation, whatever the order. No condition. -/
import Derived.Test.YteggldplmbegfaaLaws
set_option linter.unusedVariables false
set_option linter.unusedSimpArgs false
namespace Go.Proofs.Yteggldplmbegfaa
open Go.RowKit

/-- The frame in which those operations have yielded that b names. -/
def fillFrom (b : Nat → Bool) (vs : Nat → Value) : Nat → List Oper → Act → Act
  | _, [], a => a
  | k, o :: l, a => fillFrom b vs (k + 1) l (if b k then a.put o.dst (vs k) else a)

theorem size_put (a : Act) (d : Option Tmp) (v : Value) : (a.put d v).tmps.size = a.tmps.size := by cases d <;> simp [Act.put]
theorem eval_put_same (a a' : Act) (d : Tmp) (v : Value) (hs : a.tmps.size = a'.tmps.size) (h : a.eval (.tmp d) = a'.eval (.tmp d)) : (a.put (some d) v).eval (.tmp d) = (a'.put (some d) v).eval (.tmp d) := by
  simp only [Act.eval, Act.put] at *
  by_cases hd : d < a.tmps.size
  · have hd' : d < a'.tmps.size := by rw [← hs]; exact hd
    simp [hd, hd']
  · rw [Array.setIfInBounds_eq_of_size_le (Nat.le_of_not_lt hd), Array.setIfInBounds_eq_of_size_le (by rw [← hs]; exact Nat.le_of_not_lt hd)]
    exact h
theorem fill_eval {b b' : Nat → Bool} {vs vs' : Nat → Value} (x : Operand) : ∀ (l : List Oper) (k : Nat) (a a' : Act), a.tmps.size = a'.tmps.size → a.eval x = a'.eval x →
    (∀ j o, l[j]? = some o → ∀ d, o.dst = some d → x = .tmp d → b (k + j) = true ∧ b' (k + j) = true ∧ vs (k + j) = vs' (k + j)) → (fillFrom b vs k l a).eval x = (fillFrom b' vs' k l a').eval x
  | [], _, _, _, _, h, _ => h
  | o :: l, k, a, a', hs, h, hh => by
    refine fill_eval x l (k + 1) _ _ ?_ ?_ (fun j o' hj d hd hx => by have := hh (j + 1) o' (by simpa using hj) d hd hx; rwa [show k + 1 + j = k + (j + 1) by omega])
    · split <;> split <;> simp [size_put, hs]
    · by_cases hx : ∃ d, o.dst = some d ∧ x = .tmp d
      · obtain ⟨d, hd, rfl⟩ := hx
        obtain ⟨h1, h2, h3⟩ := hh 0 o rfl d hd rfl
        simp only [Nat.add_zero] at h1 h2 h3
        rw [if_pos h1, if_pos h2, h3, hd]
        exact eval_put_same a a' d _ hs h
      · have hn : ∀ d, o.dst = some d → x ≠ .tmp d := fun d hd e => hx ⟨d, hd, e⟩
        have e1 : ∀ (c : Act) (v : Value), (c.put o.dst v).eval x = c.eval x := fun c v => Act.eval_put hn
        split <;> split <;> simp only [e1, h]
theorem fill_comm {b : Nat → Bool} {vs : Nat → Value} (dst : Option Tmp) (v : Value) : ∀ (l : List Oper) (k : Nat) (a : Act), (∀ (j : Nat) (o : Oper), l[j]? = some o → ∀ d, dst = some d → o.dst ≠ some d) →
    fillFrom b vs k l (a.put dst v) = (fillFrom b vs k l a).put dst v
  | [], _, _, _ => rfl
  | o :: l, k, a, h => by
    have ih := fun c => fill_comm (b := b) (vs := vs) dst v l (k + 1) c (fun j o' hj => h (j + 1) o' (by simpa using hj))
    simp only [fillFrom]
    by_cases hb : b k = true
    · simp only [hb, if_true]
      rw [Act.put_comm a v (vs k) (h 0 o rfl)]
      exact ih _
    · simp only [hb]
      exact ih _
theorem fill_congr {b b' : Nat → Bool} {vs vs' : Nat → Value} : ∀ (l : List Oper) (k : Nat) (a : Act), (∀ j, j < l.length → b (k + j) = b' (k + j) ∧ (b (k + j) = true → vs (k + j) = vs' (k + j))) → fillFrom b vs k l a = fillFrom b' vs' k l a
  | [], _, _, _ => rfl
  | o :: l, k, a, h => by
    have h0 := h 0 (by simp)
    simp only [Nat.add_zero] at h0
    have ih := fun c => fill_congr (b := b) (b' := b') (vs := vs) (vs' := vs') l (k + 1) c (fun j hj => by have := h (j + 1) (by simpa using hj); rwa [show k + 1 + j = k + (j + 1) by omega])
    simp only [fillFrom]
    rw [ih, ← h0.1]
    by_cases hb : b k = true
    · rw [if_pos hb, if_pos hb, h0.2 hb]
    · rw [if_neg hb, if_neg hb]
theorem fill_list {b : Nat → Bool} {vs : Nat → Value} (v : Value) : ∀ (l : List Oper) (k i : Nat) (o : Oper) (a : Act), l[i]? = some o → b (k + i) = false → (∀ j o', l[j]? = some o' → j ≠ i → ∀ d, o.dst = some d → o'.dst ≠ some d) →
    fillFrom (fun j => b j || j == k + i) (fun j => if j = k + i then v else vs j) k l a = (fillFrom b vs k l a).put o.dst v
  | [], _, i, _, _, hi, _, _ => by simp at hi
  | o' :: l, k, 0, o, a, hi, hb, hd => by
    obtain rfl : o' = o := by simpa using hi
    simp only [Nat.add_zero] at hb ⊢
    simp only [fillFrom, hb, Bool.false_or, beq_self_eq_true, if_true]
    rw [if_neg (by simp)]
    rw [← fill_comm o'.dst v l (k + 1) a (fun j o2 hj => hd (j + 1) o2 (by simpa using hj) (by omega))]
    exact fill_congr l (k + 1) _ (fun j hj => ⟨by simp; omega, fun _ => by rw [if_neg (by omega)]⟩)
  | o' :: l, k, i + 1, o, a, hi, hb, hd => by
    have e : k + (i + 1) = k + 1 + i := by omega
    rw [e] at hb ⊢
    simp only [fillFrom]
    have h1 : (b k || k == k + 1 + i) = b k := by simp; omega
    rw [h1, if_neg (show ¬ k = k + 1 + i by omega)]
    exact fill_list v l (k + 1) i o _ (by simpa using hi) hb (fun j o2 hj hne => hd (j + 1) o2 (by simpa using hj) (by omega))

/-- An operation, carried out if its guard says so; it must not panic. -/
def Oper.wpG (P : Program) (ops : Array Oper) (o : Oper) (a : Act) (w : World) (K : Act → World → Prop) : Prop :=
  match o.guard with
  | none => o.wp P a w K (fun _ _ _ => False)
  | some g => if yielded ops a.tmps g.1 = some g.2 then o.wp P a w K (fun _ _ _ => False) else K (a.put o.dst undef) w
theorem tmps_eval {a c : Act} {t : Tmp} (hs : a.tmps.size = c.tmps.size) (h : a.eval (.tmp t) = c.eval (.tmp t)) : a.tmps[t]? = c.tmps[t]? := by
  simp only [Act.eval] at h
  by_cases ht : t < a.tmps.size
  · have ht' : t < c.tmps.size := by rw [← hs]; exact ht
    simp [ht, ht'] at h ⊢
    exact h
  · rw [Array.getElem?_eq_none (Nat.le_of_not_lt ht), Array.getElem?_eq_none (by rw [← hs]; exact Nat.le_of_not_lt ht)]

/-- What an operation of the head looks at among the region's own slots, it waits for; no two of them write one slot; none is guarded. -/
def growB (ops : Array Oper) (n : Nat) : Bool :=
  (List.range n).all fun i => match ops[i]? with
    | none => true
    | some o => (o.after.all fun e => !Region.binds .any e || decide (e.on < i)) && (match o.op with | .select .. => false | _ => true) &&
      ((o.looksAt ops).all fun t => (List.range n).all fun j => match ops[j]? with | some oj => oj.dst != some t || Region.waitsFor .any ops i j | none => true) &&
      (List.range n).all fun j => j == i || (match ops[j]?, o.dst with | some oj, some d => oj.dst != some d | _, _ => true)
def headDone (n m : Nat) : Array Bool := (List.replicate n true ++ List.replicate m false).toArray
def growAll (ops : Array Oper) (n : Nat) : Bool :=
  growB ops n && decide (n < ops.size) && Region.sinkB .any ops n && Region.chainB .any ops n && Region.seqB .any ops (ops.size - n) n (headDone n (ops.size - n))
/-- Which operations an operation waits for. -/
def waitsOn (ops : Array Oper) (i : Nat) : List Nat := (List.range ops.size).filter fun j => Region.waitsFor .any ops i j

section
variable {P : Program}

theorem put_inj {a c : Act} {d : Option Tmp} {u v : Value} (hs : a.tmps.size = c.tmps.size) (h : c.put d v = c.put d u) : a.put d u = a.put d v := by
  cases d with
  | none => rfl
  | some d =>
    simp only [Act.put, Act.mk.injEq, and_true] at h ⊢
    by_cases hd : d < c.tmps.size
    · have h2 := congrArg (fun t => t[d]?) h
      simp [hd] at h2
      rw [h2]
    · rw [Array.setIfInBounds_eq_of_size_le (by rw [hs]; exact Nat.le_of_not_lt hd), Array.setIfInBounds_eq_of_size_le (by rw [hs]; exact Nat.le_of_not_lt hd)]

theorem size_fill {b : Nat → Bool} {vs : Nat → Value} : ∀ (l : List Oper) (k : Nat) (a : Act), (fillFrom b vs k l a).tmps.size = a.tmps.size
  | [], _, _ => rfl
  | o :: l, k, a => by
    simp only [fillFrom]
    rw [size_fill l (k + 1)]
    split <;> simp [size_put]

theorem wp_region_turn {id : Nat} {l : List Oper} {Q : Exit → Act → World → Prop} {a0 : Act} {w0 : World} (n : Nat) (hm : P.follows .mixedOrders = true) (hB : growAll l.toArray n = true)
    (C : World → Prop) (G : World → World → Prop) (V : Nat → Value → World → Prop) (hC0 : C { w0 with drawn := w0.drawn + 1 }) (hV : ∀ j v w w', V j v w → G w w' → V j v w')
    (hstep : ∀ i o, i < n → l[i]? = some o → ∀ (vs : Nat → Value) (w : World), C w → (∀ j ∈ waitsOn l.toArray i, V j (vs j) w) → ∀ K : Act → World → Prop,
      (∀ v w', C w' → G w w' → V i v w' → K ((fillFrom (fun _ => true) vs 0 (l.take n) a0).put o.dst v) w') → Oper.wpG P l.toArray o (fillFrom (fun _ => true) vs 0 (l.take n) a0) w K)
    (hfin : ∀ (vs : Nat → Value) (w : World), C w → (∀ j, j < n → V j (vs j) w) → wpList P l.toArray Q (l.drop n) (fillFrom (fun _ => true) vs 0 (l.take n) a0) w) :
    (Code.region id l.toArray true).wp P Q a0 w0 := by
  simp only [growAll, Bool.and_eq_true, decide_eq_true_eq] at hB
  obtain ⟨⟨⟨⟨hg, hn⟩, hs⟩, hc⟩, hq⟩ := hB
  have hn' : n < l.length := by simpa using hn
  have htl : (l.take n).length = n := by simp; omega
  have htk : ∀ i o, i < n → l[i]? = some o → (l.take n)[i]? = some o := fun i o hi ho => by rw [List.getElem?_take, if_pos hi, ho]
  have hgB : ∀ i o, i < n → l[i]? = some o → (∀ e ∈ o.after, Region.binds .any e = true → e.on < i) ∧ (∀ cs b, o.op ≠ .select cs b) ∧ (∀ t ∈ o.looksAt l.toArray, ∀ j oj, j < n → l[j]? = some oj → oj.dst = some t → Region.waitsFor .any l.toArray i j = true) ∧
      ∀ j oj, j < n → l[j]? = some oj → j ≠ i → ∀ d, o.dst = some d → oj.dst ≠ some d := fun i o hi ho => by
    have h1 := List.all_eq_true.1 hg i (by simpa using hi)
    have ho' : l.toArray[i]? = some o := by simpa using ho
    simp only [ho', Bool.and_eq_true, List.all_eq_true] at h1
    obtain ⟨⟨⟨h20, h3⟩, h4⟩, h5⟩ := h1
    refine ⟨fun e he hb => by have h7 := Array.all_eq_true'.1 h20 e he; simpa [hb] using h7, fun cs b e => by rw [e] at h3; simp at h3, fun t ht j oj hj hoj hd => ?_, fun j oj hj hoj hne d hd e => ?_⟩
    · have h6 := h4 t ht j (by simpa using hj)
      have hoj' : l.toArray[j]? = some oj := by simpa using hoj
      simp only [hoj', hd, bne_self_eq_false, Bool.false_or] at h6
      exact h6
    · have h6 := h5 j (by simpa using hj)
      have hoj' : l.toArray[j]? = some oj := by simpa using hoj
      simp only [hoj', hd, e, bne_self_eq_false, Bool.or_false, beq_iff_eq] at h6
      exact hne h6
  refine wp_region_any hm ?_
  have main : ∀ (f : Nat) (listed : Array Bool) (vs : Nat → Value) (w : World), HeadInv .any l.toArray n listed → ((List.range n).filter fun j => !listed.getD j true).length = f → C w →
      (∀ j, j < n → listed.getD j false = true → V j (vs j) w) → wpAny P .any l.toArray Q (f + (l.length - n)) listed (fillFrom (fun j => listed.getD j false) vs 0 (l.take n) a0) w := by
    intro f
    induction f with
    | zero =>
      intro listed vs w inv hf hw hv
      have hall : ∀ j, j < n → listed.getD j false = true := fun j hj => by
        have h1 := List.eq_nil_of_length_eq_zero hf
        have h2 := (List.filter_eq_nil_iff.1 h1) j (by simpa using hj)
        have hlt : j < listed.size := by rw [inv.size]; simp; omega
        simp [hlt] at h2 ⊢
        exact h2
      have hl : listed = headDone n (l.toArray.size - n) := by
        refine Array.ext' ?_
        refine List.ext_getElem? fun j => ?_
        simp only [headDone, Array.getElem?_toList]
        by_cases hj : j < n
        · have h1 := hall j hj
          have hlt : j < listed.size := by rw [inv.size]; simp; omega
          rw [List.getElem?_append_left (by simpa using hj), List.getElem?_replicate, if_pos hj, Array.getElem?_eq_getElem hlt]
          simp [hlt] at h1
          rw [h1]
        · rw [List.getElem?_append_right (by simp; omega), List.getElem?_replicate]
          by_cases hj2 : j < l.toArray.size
          · have h1 := inv.tail j (by omega) hj2
            have hlt : j < listed.size := by rw [inv.size]; exact hj2
            simp only [List.length_replicate]
            rw [if_pos (by omega), Array.getElem?_eq_getElem hlt]
            simp [hlt] at h1
            rw [h1]
          · simp only [List.length_replicate]
            rw [if_neg (by omega), Array.getElem?_eq_none (by rw [inv.size]; omega)]
      have e : fillFrom (fun j => listed.getD j false) vs 0 (l.take n) a0 = fillFrom (fun _ => true) vs 0 (l.take n) a0 :=
        fill_congr _ _ _ (fun j hj => ⟨by simp only [Nat.zero_add]; exact hall j (by rw [htl] at hj; exact hj), fun _ => rfl⟩)
      rw [e, Nat.zero_add]
      have hd : (l.drop n).length = l.length - n := by simp
      have := wpAny_of_seq (md := .any) (Q' := Q) (l.drop n) n listed _ w (fun j => by simp [List.getElem?_drop]) (by rw [hd, hl]; simpa using hq) (hfin vs w hw (fun j hj => hv j hj (hall j hj)))
      rwa [hd] at this
    | succ f ih =>
      intro listed vs w inv hf hw hv
      have hex : ∃ j, j < n ∧ listed.getD j true = false := by
        have : ((List.range n).filter fun j => !listed.getD j true) ≠ [] := fun e => by rw [e] at hf; simp at hf
        obtain ⟨j, hj⟩ := List.exists_mem_of_ne_nil _ this
        simp only [List.mem_filter, List.mem_range, Bool.not_eq_true'] at hj
        exact ⟨j, hj.1, hj.2⟩
      obtain ⟨j0, hj0, hl0⟩ := hex
      have hwait := tail_waits hs hc hn inv (n - j0) j0 rfl hj0 hl0
      rw [show f + 1 + (l.length - n) = (f + (l.length - n)) + 1 by omega]
      -- an operation of the head is ready: the first that isn't listed
      have hready : ∀ i ∈ Region.ready .any l.toArray listed, i < n := fun i hi => by
        rcases Nat.lt_or_ge i n with h | h
        · exact h
        · exact absurd hi (hwait i h)
      have hmin : ∃ i, i < n ∧ listed.getD i true = false ∧ ∀ j, j < i → listed.getD j true = true := by
        have : ∀ m j, j ≤ m → j < n → listed.getD j true = false → ∃ i, i < n ∧ listed.getD i true = false ∧ ∀ q, q < i → listed.getD q true = true := by
          intro m
          induction m with
          | zero => intro j hjm hj hl; exact ⟨j, hj, hl, fun q hq => by omega⟩
          | succ m ihm =>
            intro j hjm hj hl
            by_cases hq : ∃ q, q < j ∧ listed.getD q true = false
            · obtain ⟨q, hq1, hq2⟩ := hq
              exact ihm q (by omega) (by omega) hq2
            · exact ⟨j, hj, hl, fun q hq' => by
                cases h : listed.getD q true with
                | true => rfl
                | false => exact absurd ⟨q, hq', h⟩ hq⟩
        exact this j0 j0 (Nat.le_refl _) hj0 hl0
      obtain ⟨i0, hi0, hli0, hlt0⟩ := hmin
      have hin : i0 ∈ Region.ready .any l.toArray listed := by
        refine mem_ready.2 ⟨hli0, l[i0]'(by omega), by simp [show i0 < l.length by omega], fun e he hb => ?_⟩
        have h1 := (hgB i0 _ hi0 (List.getElem?_eq_getElem (show i0 < l.length by omega))).1 e he hb
        have h2 := hlt0 e.on h1
        have hlt : e.on < listed.size := by rw [inv.size]; simp; omega
        simp [hlt] at h2 ⊢
        exact h2
      refine ⟨fun h0 => (by rw [h0] at hin; cases hin), fun i hi => ?_⟩
      have hin' := hready i hi
      obtain ⟨hlf, o, ho, hpre⟩ := mem_ready.1 hi
      have ho' : l[i]? = some o := by simpa using ho
      obtain ⟨hback, hsel, hdep, hdst⟩ := hgB i o hin' ho'
      unfold wpOp
      simp only [ho]
      have hlo : listed.getD i false = false := getD_both hlf
      have hVp : ∀ j ∈ waitsOn l.toArray i, V j (vs j) w := fun j hj => by
        have h1 : Region.waitsFor .any l.toArray i j = true := by simpa using (List.mem_filter.1 hj).2
        obtain ⟨oj, hoj, e, he, hb, rfl⟩ := Region.waitsFor_spec h1
        have : oj = o := Option.some.inj (hoj.symm.trans ho)
        subst this
        exact hv _ (by have := hback e he hb; omega) (hpre e he hb)
      have hlook : ∀ d ∈ o.looksAt l.toArray, (fillFrom (fun j => listed.getD j false) vs 0 (l.take n) a0).eval (.tmp d) = (fillFrom (fun _ => true) vs 0 (l.take n) a0).eval (.tmp d) := fun d hd => by
        refine fill_eval (.tmp d) _ _ _ _ rfl rfl (fun j oj hj d' hd' hxd => ?_)
        have hj2 : j < n := by have := (List.getElem?_eq_some_iff.1 hj).1; rwa [htl] at this
        have hoj : l[j]? = some oj := by rw [List.getElem?_take, if_pos hj2] at hj; exact hj
        have hdd : d' = d := by injection hxd with h1; exact h1.symm
        subst hdd
        have hw1 := hdep d' hd j oj hj2 hoj hd'
        obtain ⟨oi, hoi, e, he, hb, hej⟩ := Region.waitsFor_spec hw1
        have : oi = o := Option.some.inj (hoi.symm.trans ho)
        subst this
        have := hpre e he hb
        rw [hej] at this
        exact ⟨by simpa using this, rfl, rfl⟩
      have hex : execOp (fillFrom (fun j => listed.getD j false) vs 0 (l.take n) a0).eval o = execOp (fillFrom (fun _ => true) vs 0 (l.take n) a0).eval o := by
        refine execOp_congr o hsel fun x hx => ?_
        cases x with
        | tmp d => exact hlook d (List.mem_append_left _ (List.mem_filterMap.2 ⟨.tmp d, by simpa using hx, rfl⟩))
        | _ => rfl
      have hwant : ∀ g, o.guard = some g → yielded l.toArray (fillFrom (fun j => listed.getD j false) vs 0 (l.take n) a0).tmps g.1 = yielded l.toArray (fillFrom (fun _ => true) vs 0 (l.take n) a0).tmps g.1 := fun g hg => by
        unfold yielded
        cases ht : (l.toArray[g.1]?).bind (·.dst) with
        | none => rfl
        | some t =>
          have h1 := hlook t (List.mem_append_right _ (by rw [hg]; simp only [ht]; simp))
          simp only [Option.bind_some, tmps_eval (by rw [size_fill, size_fill]) h1]
      have H := hstep i o hin' ho' vs w hw hVp (fun a' w' => (∃ v, a' = (fillFrom (fun _ => true) vs 0 (l.take n) a0).put o.dst v) ∧ ∀ v, a' = (fillFrom (fun _ => true) vs 0 (l.take n) a0).put o.dst v →
        wpAny P .any l.toArray Q (f + (l.length - n)) (listed.setIfInBounds i true) ((fillFrom (fun j => listed.getD j false) vs 0 (l.take n) a0).put o.dst v) w') ?_
      · -- from the full frame to the frame as it stands
        have out : o.wp P (fillFrom (fun _ => true) vs 0 (l.take n) a0) w (fun a' w' => (∃ v, a' = (fillFrom (fun _ => true) vs 0 (l.take n) a0).put o.dst v) ∧ ∀ v, a' = (fillFrom (fun _ => true) vs 0 (l.take n) a0).put o.dst v →
            wpAny P .any l.toArray Q (f + (l.length - n)) (listed.setIfInBounds i true) ((fillFrom (fun j => listed.getD j false) vs 0 (l.take n) a0).put o.dst v) w') (fun _ _ _ => False) →
            o.wp P (fillFrom (fun j => listed.getD j false) vs 0 (l.take n) a0) w (wpAny P .any l.toArray Q (f + (l.length - n)) (listed.setIfInBounds i true)) Q := fun H => by
          unfold Oper.wp at H ⊢
          rw [hex]
          generalize (execOp (fillFrom (fun _ => true) vs 0 (l.take n) a0).eval o).run P w = r at H ⊢
          cases r with
          | ok nx w' =>
            cases nx with
            | value v => exact H.2 v rfl
            | skip => exact H.2 undef rfl
            | enter fn args => exact Calls.mono H (fun e w'' he => by
                cases e with
                | returned v => exact he.2 v rfl
                | panicked c => exact he.elim
                | outgrown => obtain ⟨_, _, h1⟩ := he; exact h1.elim)
            | row rw_ args => exact Rows.mono H (fun v w'' he => he.2 v rfl)
            | defer d =>
              obtain ⟨v, hv⟩ := H.1
              have h1 := congrArg (fun a => a.defers.length) hv
              cases hd : o.dst <;> simp [Act.put, hd] at h1
            | _ => exact H.elim
          | halt x w' => cases x <;> exact H.elim
        cases hg : o.guard with
        | none =>
          rw [if_pos (by simp [Region.wanted, hg])]
          unfold Oper.wpG at H
          rw [hg] at H
          exact .inl (out H)
        | some g =>
          unfold Oper.wpG at H
          rw [hg] at H
          simp only at H
          by_cases hy : yielded l.toArray (fillFrom (fun _ => true) vs 0 (l.take n) a0).tmps g.1 = some g.2
          · rw [if_pos hy] at H
            rw [if_pos (by simp only [Region.wanted, hg, hwant g hg, hy, beq_self_eq_true])]
            exact .inl (out H)
          · rw [if_neg hy] at H
            rw [if_neg (by simp only [Region.wanted, hg, hwant g hg, beq_iff_eq]; exact hy)]
            exact H.2 undef rfl
      · intro v w' hCw hb hVi
        refine ⟨⟨v, rfl⟩, fun u hu => ?_⟩
        have e1 : (fillFrom (fun j => listed.getD j false) vs 0 (l.take n) a0).put o.dst u = (fillFrom (fun j => listed.getD j false) vs 0 (l.take n) a0).put o.dst v := put_inj (by rw [size_fill, size_fill]) hu
        rw [e1]
        have e2 := fill_list (b := fun j => listed.getD j false) (vs := vs) v (l.take n) 0 i o a0 (htk i o hin' ho') (by simpa using hlo) (fun j oj hj hne d hd => by
          have hj2 : j < n := by have := (List.getElem?_eq_some_iff.1 hj).1; rwa [htl] at this
          exact hdst j oj hj2 (by rw [List.getElem?_take, if_pos hj2] at hj; exact hj) hne d hd)
        simp only [Nat.zero_add] at e2
        rw [← e2]
        have hlt : i < listed.size := by rw [inv.size]; simp; omega
        have e3 : (fun j => listed.getD j false || j == i) = fun j => (listed.setIfInBounds i true).getD j false := by
          funext j
          by_cases hj : j = i
          · subst hj; simp [hlt]
          · rw [getD_set_ne false (fun e => hj e.symm)]; simp [hj]
        rw [e3]
        refine ih _ _ w' (inv.set hi hin') ?_ hCw (fun j hj hl => ?_)
        · have h1 : ((List.range n).filter fun j => !(listed.setIfInBounds i true).getD j true) = ((List.range n).filter fun j => !listed.getD j true).erase i := by
            rw [List.Nodup.erase_eq_filter (List.Pairwise.filter _ List.nodup_range)]
            rw [List.filter_filter]
            refine List.filter_congr fun j hj => ?_
            by_cases hji : j = i
            · subst hji; simp [hlt]
            · rw [getD_set_ne true (fun e => hji e.symm)]; simp [hji]
          rw [h1, List.length_erase_of_mem (by simp only [List.mem_filter, List.mem_range, Bool.not_eq_true']; exact ⟨hin', hlf⟩), hf]
          rfl
        · by_cases hji : j = i
          · subst hji; simpa using hVi
          · rw [if_neg hji]
            rw [getD_set_ne false (fun e => hji e.symm)] at hl
            exact hV j _ _ _ (hv j hj hl) hb
  have h0 := main n (Array.replicate l.toArray.size false) (fun _ => undef) { w0 with drawn := w0.drawn + 1 }
    ⟨by simp, fun j oj _ hl => (by rw [getD_replicate_false] at hl; cases hl), fun t _ ht => getD_in (by simpa using ht) (getD_replicate_false _ _)⟩
    (by rw [List.filter_eq_self.2 (fun j hj => by rw [getD_in (by simp at hj ⊢; omega) (getD_replicate_false _ _)]; rfl)]; simp) hC0
    (fun j hj hl => by rw [getD_replicate_false] at hl; cases hl)
  have e0 : fillFrom (fun j => (Array.replicate l.toArray.size false).getD j false) (fun _ => undef) 0 (l.take n) a0 = a0 := by
    have : ∀ (L : List Oper) (k : Nat) (a : Act), fillFrom (fun j => (Array.replicate l.toArray.size false).getD j false) (fun _ => undef) k L a = a := by
      intro L
      induction L with
      | nil => intros; rfl
      | cons o L ih => intro k a; simp only [fillFrom]; rw [if_neg (by rw [getD_replicate_false]; simp)]; exact ih _ _
    exact this _ _ _
  rw [e0, show n + (l.length - n) = l.length by omega] at h0
  simpa using h0
/-- One claim an operation, in the order of the text. -/
def stepsAll (S : Nat → Oper → Prop) : Nat → List Oper → Prop
  | _, [] => True
  | k, o :: l => S k o ∧ stepsAll S (k + 1) l
theorem stepsAll_at {S : Nat → Oper → Prop} : ∀ (l : List Oper) (k i : Nat) (o : Oper), stepsAll S k l → l[i]? = some o → S (k + i) o
  | [], _, _, _, _, h => by simp at h
  | o' :: l, k, 0, o, h, hi => by
    obtain rfl : o' = o := by simpa using hi
    exact h.1
  | o' :: l, k, i + 1, o, h, hi => by
    have := stepsAll_at l (k + 1) i o h.2 (by simpa using hi)
    rwa [show k + 1 + i = k + (i + 1) by omega] at this

/-- The goal of one operation: what it waits for has yielded what V says; it yields such a value, and nothing that was there has turned. -/
def GrowStep (P : Program) (l : List Oper) (n : Nat) (a0 : Act) (w0 : World) (V : Nat → Value → World → Prop) (i : Nat) (o : Oper) : Prop :=
  ∀ (vs : Nat → Value) (w : World), Below w0.heap.size w0 w → (∀ j ∈ waitsOn l.toArray i, V j (vs j) w) → ∀ K : Act → World → Prop,
    (∀ v w', Below w.heap.size w w' → V i v w' → K ((fillFrom (fun _ => true) vs 0 (l.take n) a0).put o.dst v) w') → Oper.wpG P l.toArray o (fillFrom (fun _ => true) vs 0 (l.take n) a0) w K

/-- The same where something that was there may turn: C holds throughout, each step is a G. -/
def TurnStep (P : Program) (l : List Oper) (n : Nat) (a0 : Act) (C : World → Prop) (G : World → World → Prop) (V : Nat → Value → World → Prop) (i : Nat) (o : Oper) : Prop :=
  ∀ (vs : Nat → Value) (w : World), C w → (∀ j ∈ waitsOn l.toArray i, V j (vs j) w) → ∀ K : Act → World → Prop,
    (∀ v w', C w' → G w w' → V i v w' → K ((fillFrom (fun _ => true) vs 0 (l.take n) a0).put o.dst v) w') → Oper.wpG P l.toArray o (fillFrom (fun _ => true) vs 0 (l.take n) a0) w K
theorem wp_region_turns {id : Nat} {l : List Oper} {Q : Exit → Act → World → Prop} {a0 : Act} {w0 : World} (n : Nat) (hm : P.follows .mixedOrders = true) (hB : growAll l.toArray n = true)
    (C : World → Prop) (G : World → World → Prop) (V : Nat → Value → World → Prop) (hC0 : C w0.drew) (hV : ∀ j v w w', V j v w → G w w' → V j v w')
    (hstep : stepsAll (TurnStep P l n a0 C G V) 0 (l.take n))
    (hfin : ∀ (vs : Nat → Value) (w : World), C w → (∀ j, j < n → V j (vs j) w) → wpList P l.toArray Q (l.drop n) (fillFrom (fun _ => true) vs 0 (l.take n) a0) w) :
    (Code.region id l.toArray true).wp P Q a0 w0 :=
  wp_region_turn n hm hB C G V hC0 hV (fun i o hi ho vs w hw hp K hK => by
    have h := stepsAll_at (l.take n) 0 i o hstep (by rw [List.getElem?_take, if_pos hi, ho])
    rw [Nat.zero_add] at h
    exact h vs w hw hp K hK) hfin
theorem wp_region_grows {id : Nat} {l : List Oper} {Q : Exit → Act → World → Prop} {a0 : Act} {w0 : World} (n : Nat) (hm : P.follows .mixedOrders = true) (hB : growAll l.toArray n = true)
    (V : Nat → Value → World → Prop) (hV : ∀ j v w w', V j v w → Below w.heap.size w w' → V j v w')
    (hstep : stepsAll (GrowStep P l n a0 w0 V) 0 (l.take n))
    (hfin : ∀ (vs : Nat → Value) (w : World), Below w0.heap.size w0 w → (∀ j, j < n → V j (vs j) w) → wpList P l.toArray Q (l.drop n) (fillFrom (fun _ => true) vs 0 (l.take n) a0) w) :
    (Code.region id l.toArray true).wp P Q a0 w0 :=
  wp_region_turn n hm hB (fun w => Below w0.heap.size w0 w) (fun w w' => Below w.heap.size w w') V ⟨rfl, rfl, rfl, Nat.le_refl _, fun _ _ => rfl⟩ hV (fun i o hi ho vs w hw hp K hK => by
    have h := stepsAll_at (l.take n) 0 i o hstep (by rw [List.getElem?_take, if_pos hi, ho])
    rw [Nat.zero_add] at h
    exact h vs w hw hp K (fun v w' hb hv => hK v w' (hw.trans (hb.mono hw.size)) hb hv)) hfin
/-- An operation that yields a value. -/
theorem wp_value {o : Oper} {a : Act} {w w' : World} {K : Act → World → Prop} {Q : Exit → Act → World → Prop} {v : Value} (hx : (execOp a.eval o).run P w = .ok (.value v) w') (h : K (a.put o.dst v) w') : o.wp P a w K Q := by
  unfold Oper.wp
  rw [hx]
  exact h
/-- An operation that calls. -/
theorem wp_calls {o : Oper} {a : Act} {w w' : World} {K : Act → World → Prop} {Q : Exit → Act → World → Prop} {f : FuncId} {args : Array Value} (hx : (execOp a.eval o).run P w = .ok (.enter f args) w')
    (h : Calls P f args w' fun e w'' => ∃ v, e = .returned v ∧ K (a.put o.dst v) w'') : o.wp P a w K Q := by
  unfold Oper.wp
  rw [hx]
  exact Calls.mono h (fun e w'' ⟨v, he, hk⟩ => by subst he; exact hk)
end
end Go.Proofs.Yteggldplmbegfaa
