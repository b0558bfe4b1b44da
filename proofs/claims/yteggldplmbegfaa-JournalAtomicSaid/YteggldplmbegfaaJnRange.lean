/- A RANGE OVER THE FIELDS OF BYTES: the law of the statement. No condition. -/
import Derived.Test.YteggldplmbegfaaJnFields
set_option linter.unusedVariables false
set_option linter.unusedSimpArgs false
namespace Go.Proofs.Yteggldplmbegfaa
open Go.RowKit Go.Shelf
attribute [local go_sem] Oper.semAt_some

/-- What holds between the rounds abides what else the loop does: new blocks, and a turn of its own block, which holds no cells. -/
def Stays (B : Nat) (I : World → Prop) : Prop :=
  ∀ X Y row, I X → X.grownBy Y row → (∀ r, row = some r → B ≤ r ∧ ∃ o : Obj, X.heap[r]? = some o ∧ o.isCells = false) → I Y
theorem Stays.below {B : Nat} {I : World → Prop} (h : Stays B I) {X Y : World} (hi : I X) (hb : Below X.heap.size X Y) : I Y :=
  h X Y none hi ⟨hb.os, hb.tape, hb.output, hb.size, fun k hk _ => hb.block k hk⟩ (fun r e => by cases e)
theorem Stays.put {B : Nat} {I : World → Prop} (h : Stays B I) {X : World} {l : Nat} {o : Obj} (o' : Obj) (hi : I X) (hB : B ≤ l) (hl : X.heap[l]? = some o) (ho : o.isCells = false) : I (X.putObj l o') :=
  h X _ (some l) hi (grownBy_putObj' X l o') (fun r e => by cases e; exact ⟨hB, o, hl, ho⟩)
/-- How a round's body is left: on, with I; by a return, with Ix. -/
def fieldPost (n₀ : Nat) (S : List Nat) (I Ix : World → Prop) (W : World) : Exit → Act → World → Prop
  | .normal, _, W' => FrN n₀ S W W' ∧ I W'
  | .ret, _, W' => FrN n₀ S W W' ∧ Ix W'
  | _, _, _ => False
theorem row_put {X : World} {v : Value} {T : TypeId} {sz n : Nat} {cs : List Value} {l : Nat} {o' : Obj} {r : Loop} (h : RowIs X v T sz n cs) (hl : X.heap[l]? = some (.loop r)) : RowIs (X.putObj l o') v T sz n cs :=
  h.move fun g cur fr hh => World.putObj_heap_other (fun e => by rw [e, hl] at hh; cases hh)
theorem range_fields {g : Operand} {ps : Array Tmp} {assign body : Code} {Q : Exit → Act → World → Prop} {a : Act} {w : World} (n : Nat) (h1 : 2 ≤ n) (Bo : Nat)
    (hg : a.eval g = .func (.func 113) #[] #[.pointer (some ⟨Bo, 0, none⟩)]) (hps : ps.size = 2) (S : List Nat) (hS : ∀ x ∈ S, x < w.heap.size) (b : List UInt8) (hbl : b.length ≤ 1000000000) (v0 : Value)
    (hBo : w.cell? ⟨Bo, 0, none⟩ = some v0) (hrow : RowB w.heap.size S w v0 b) (I Ix : List (List UInt8) → World → Prop) (IE : World → Prop)
    (hI : ∀ pre, Stays w.heap.size (I pre)) (hIx : ∀ pre, Stays w.heap.size (Ix pre)) (hIE : Stays w.heap.size IE) (h0 : I [] w) (a₁ : Value → Value → Act)
    (hassign : ∀ (l : Nat) (x y : Value) (W : World) (K : Act → World → Prop), K (a₁ x y) W →
      assign.wpIn (Fence.wide.inRound l) (n - 1 - 1) Try.prog (Exit.then K (fun _ _ _ => False)) { tmps := (ps.zip #[x, y]).foldl (fun t (p, v) => t.setIfInBounds p v) a.tmps, defers := [] } W)
    (hbody : ∀ (l : Nat) (pre : List (List UInt8)) (f : List UInt8) (v : Value) (W : World), I pre W → (pre ++ [f]) <+: (fieldsOf (b.length + 1) b).1 → f.length ≤ 65535 → RowIs W v 5 1 f.length (bv f) → w.heap.size + 2 ≤ W.heap.size →
      body.wpIn (Fence.wide.inRound l) (n - 1 - 1) Try.prog (fieldPost (w.heap.size + 2) S (I (pre ++ [f])) (Ix (pre ++ [f])) W) (a₁ v (.int .i64 0)) W)
    (hbodyE : ∀ (l : Nat) (pre : List (List UInt8)) (c : Int) (W : World), I pre W → pre = (fieldsOf (b.length + 1) b).1 → c = (fieldsOf (b.length + 1) b).2 → c = 7 ∨ c = 8 → w.heap.size + 2 ≤ W.heap.size →
      body.wpIn (Fence.wide.inRound l) (n - 1 - 1) Try.prog (fieldPost (w.heap.size + 2) S (fun _ => False) IE W) (a₁ (.slice none 0 0) (.int .i64 c)) W)
    (hdone : ∀ (D : Nat) (W : World), (fieldsOf (b.length + 1) b).2 = 0 → I (fieldsOf (b.length + 1) b).1 W → W.heap[D]? = some (.deferred (some [])) → w.heap.size ≤ D → Q .normal { a with defers := { target := .collected D, args := #[] } :: a.defers } W)
    (hstop : ∀ (D : Nat) (pre : List (List UInt8)) (W : World), pre <+: (fieldsOf (b.length + 1) b).1 → Ix pre W → W.heap[D]? = some (.deferred (some [])) → w.heap.size ≤ D → Code.ret.wpIn Fence.wide n Try.prog Q { a with defers := { target := .collected D, args := #[] } :: a.defers } W)
    (hstopE : ∀ (D : Nat) (W : World), (fieldsOf (b.length + 1) b).2 ≠ 0 → IE W → W.heap[D]? = some (.deferred (some [])) → w.heap.size ≤ D → Code.ret.wpIn Fence.wide n Try.prog Q { a with defers := { target := .collected D, args := #[] } :: a.defers } W) :
    (Code.rangeFunc g ps assign body).wpIn Fence.wide n Try.prog Q a w := by
  refine wpIn_rangeFunc ?_
  intro fn hfn
  obtain ⟨rec, hrec⟩ : ∃ rec : LoopState → Option Code → Loop, rec = fun st pe => { state := st, pending := pe, fn, tmps := a.tmps, params := ps, assign, body, defers := w.heap.size } := ⟨_, rfl⟩
  obtain ⟨W1, hW1⟩ : ∃ W1, W1 = (w.alloc (.deferred (some []))).alloc (.loop (rec .ready none)) := ⟨_, rfl⟩
  have hL1 : W1.heap[w.heap.size + 1]? = some (.loop (rec .ready none)) := by
    have := World.alloc_heap_new (w.alloc (.deferred (some []))) (.loop (rec .ready none))
    rw [World.size_alloc] at this
    rw [hW1]
    exact this
  have hK1 : W1.heap[w.heap.size]? = some (.deferred (some [])) := by
    rw [hW1]
    exact (Below.heap_alloc _ _ _ (by simp)).trans (World.alloc_heap_new w _)
  have hb1 : Below w.heap.size w W1 := by
    rw [hW1]
    exact ((Below.refl _ w).alloc (Nat.le_refl _) _).alloc (by simp) _
  have hBlt : Bo < w.heap.size := World.block_lt_of_cell? w _ hBo
  -- the loop's own two blocks
  let Own : LoopState → Option Code → World → Prop := fun st pe W => W.heap[w.heap.size + 1]? = some (.loop (rec st pe)) ∧ W.heap[w.heap.size]? = some (.deferred (some []))
  have hOwn : ∀ st pe X Y, Own st pe X → Below X.heap.size X Y → Own st pe Y := fun st pe X Y ⟨p, q⟩ hb => ⟨(hb.block _ (lt_of_heap p)).trans p, (hb.block _ (lt_of_heap q)).trans q⟩
  have hS1 : w.heap.size + 1 ∉ S := fun hm => by have := hS _ hm; omega
  have hS0 : w.heap.size ∉ S := fun hm => by have := hS _ hm; omega
  refine ⟨w.heap.size + 1, [{ target := .collected w.heap.size, args := #[] }], W1, { target := .fn (.func 113) #[.pointer (some ⟨Bo, 0, none⟩)], args := #[.func (.yield (w.heap.size + 1)) #[] #[]] }, W1, 113,
    #[.func (.yield (w.heap.size + 1)) #[] #[], .pointer (some ⟨Bo, 0, none⟩)], W1, ?_, ?_, fun _ _ => trivial, ?_, fun _ => by omega, ?_⟩
  · rw [hW1, hrec]
    exact run_enterLoop_outer _ _ _ _ _
  · simp only [resolve, hg]
    simp [go_sem]
  · have eg := enters_of Try.func113 (by kernel_rfl) rfl
    simp [invoke, go_sem, eg]
  · have round : ∀ (x y : Value) (A : World) (J1 J2 : World → Prop), Own .ready none A → (∀ X, J1 X → Stays w.heap.size J1) → (∀ X, J2 X → Stays w.heap.size J2) →
        (body.wpIn (Fence.wide.inRound (w.heap.size + 1)) (n - 1 - 1) Try.prog (fieldPost (w.heap.size + 2) S J1 J2 (A.putObj (w.heap.size + 1) (.loop { rec .ready none with state := .busy }))) (a₁ x y) (A.putObj (w.heap.size + 1) (.loop { rec .ready none with state := .busy }))) →
        YieldAt Fence.wide (n - 1 - 1) Try.prog (w.heap.size + 1) #[x, y] A fun e B => (e = .returned (.bool true) ∧ (J1 B ∧ Own .ready none B) ∧ FrN (w.heap.size + 2) ((w.heap.size + 1) :: S) A B) ∨ (e = .returned (.bool false) ∧ J2 B ∧ Own .done (some .ret) B) := by
      intro x y A J1 J2 ⟨hl, hk⟩ hJ1 hJ2 hbd
      have hlt : w.heap.size + 1 < A.heap.size := lt_of_heap hl
      have hy := run_yield (P := Try.prog) (args := #[x, y]) hl (by rw [hrec]; exact hps.symm)
      rw [hrec] at hy
      refine ⟨fn, _, assign, body, hy, roundIn_of_wpIn hfn (hassign _ x y A _ ⟨_, run_beginRound hl (by rw [hrec]), ?_⟩)⟩
      have hl2 : (A.putObj (w.heap.size + 1) (.loop { rec .ready none with state := .busy })).heap[w.heap.size + 1]? = some (.loop { rec .ready none with state := .busy }) := World.putObj_heap_same hlt
      refine wpIn_mono hbd ?_
      have fin : ∀ (jump : Option Code) (W3 : World), FrN (w.heap.size + 2) S (A.putObj (w.heap.size + 1) (.loop { rec .ready none with state := .busy })) W3 →
          (Instr.endRound (w.heap.size + 1) jump).run Try.prog W3 = .ok (.bool jump.isNone) (W3.putObj (w.heap.size + 1) (.loop (rec (if jump.isNone then .ready else .done) jump))) ∧
          (∃ o : Obj, W3.heap[w.heap.size + 1]? = some o ∧ o.isCells = false) ∧ Own (if jump.isNone then .ready else .done) jump (W3.putObj (w.heap.size + 1) (.loop (rec (if jump.isNone then .ready else .done) jump))) ∧
          FrN (w.heap.size + 2) ((w.heap.size + 1) :: S) A (W3.putObj (w.heap.size + 1) (.loop (rec (if jump.isNone then .ready else .done) jump))) := fun jump W3 hk3 => by
        have hl3 := (hk3.block _ (by omega) hS1).trans hl2
        have hk3' := (hk3.block _ (by omega) hS0).trans ((World.putObj_heap_other (r := w.heap.size + 1) (o := .loop { rec .ready none with state := .busy }) (show w.heap.size ≠ w.heap.size + 1 by omega)).trans hk)
        have hr := run_endRound (P := Try.prog) jump hl3
        have hs3 : w.heap.size + 2 ≤ W3.heap.size := by have := lt_of_heap hl3; omega
        refine ⟨by rw [hrec] at hr ⊢; exact hr, ⟨_, hl3, rfl⟩, ⟨World.putObj_heap_same (lt_of_heap hl3), (World.putObj_heap_other (by omega)).trans hk3'⟩, ?_⟩
        have f1 : FrN (w.heap.size + 2) ((w.heap.size + 1) :: S) A (A.putObj (w.heap.size + 1) (.loop { rec .ready none with state := .busy })) := (FrN.refl _ _ A).grown (grownBy_putObj' _ _ _) (by omega) (fun k e => by cases e; exact .inl (by simp))
        exact (f1.trans (hk3.mono fun k hk => by simp [hk])).grown (grownBy_putObj' _ _ _) hs3 (fun k e => by cases e; exact .inl (by simp))
      rintro e a3 W3 hp
      cases e with
      | normal =>
        obtain ⟨hk3, hi3⟩ := hp
        obtain ⟨hr, ⟨o3, hl3, ho3⟩, h4, h5⟩ := fin none W3 hk3
        exact ⟨_, _, hr, .inl ⟨rfl, ⟨(hJ1 _ hi3).put _ hi3 (by omega) hl3 ho3, h4⟩, h5⟩⟩
      | ret =>
        obtain ⟨hk3, hi3⟩ := hp
        obtain ⟨hr, ⟨o3, hl3, ho3⟩, h4, h5⟩ := fin (some .ret) W3 hk3
        exact ⟨_, _, hr, .inr ⟨rfl, (hJ2 _ hi3).put _ hi3 (by omega) hl3 ho3, h4⟩⟩
      | exit id => exact hp.elim
      | goto t => exact hp.elim
      | panic ch => exact hp.elim
      | outgrown => exact hp.elim
    have hbusy : ∀ A, Own .ready none A → w.heap.size + 2 ≤ (A.putObj (w.heap.size + 1) (.loop { rec .ready none with state := .busy })).heap.size := fun A h => by
      have := lt_of_heap h.1
      rw [World.putObj_size]
      omega
    have hrow' : RowB (w.heap.size + 2) ((w.heap.size + 1) :: S) W1 v0 b := by
      have h := hrow.fr (FrN.of_below hb1 (Nat.le_refl _))
      obtain ⟨A, c, rfl, h2, h3⟩ := h
      exact ⟨A, c, rfl, h2, fun a ha => ⟨by have := (h3 a ha).1; omega, fun hm => by
        rcases List.mem_cons.1 hm with h4 | h4
        · have := (h3 a ha).1
          omega
        · exact (h3 a ha).2 h4⟩⟩
    refine (fields1_in (n - 1) (by omega) (w.heap.size + 1) Bo (w.heap.size + 2) ((w.heap.size + 1) :: S) b hbl (fun pre W => I pre W ∧ Own .ready none W) (fun pre W => Ix pre W ∧ Own .done (some .ret) W) (fun W => IE W ∧ Own .done (some .ret) W)
      (fun pre A B h hb => ⟨(hI pre).below h.1 hb, hOwn _ _ _ _ h.2 hb⟩) ?_ ?_ W1 (by have := lt_of_heap hL1; omega) v0 ((hb1.cell (p := ⟨Bo, 0, none⟩) hBlt).trans hBo) hrow' ⟨(hI []).below h0 hb1, hL1, hK1⟩).mono ?_
    · intro pre f v A ⟨hi, hown⟩ hpf hfl hrv
      have hp := hbody (w.heap.size + 1) pre f v _ ((hI pre).put (.loop { rec .ready none with state := .busy }) hi (by omega) hown.1 rfl) hpf hfl (row_put hrv hown.1) (hbusy A hown)
      exact round v (.int .i64 0) A _ _ hown (fun _ _ => hI _) (fun _ _ => hIx _) hp
    · intro pre c A ⟨hi, hown⟩ hp1 hp2 hc
      have hp := hbodyE (w.heap.size + 1) pre c _ ((hI pre).put (.loop { rec .ready none with state := .busy }) hi (by omega) hown.1 rfl) hp1 hp2 hc (hbusy A hown)
      obtain ⟨f', t', as', bd', hy, hR⟩ := round (.slice none 0 0) (.int .i64 c) A (fun _ => False) IE hown (fun _ h => h.elim) (fun _ _ => hIE) hp
      exact ⟨f', t', as', bd', hy, hR.mono fun e B h => by
        rcases h with ⟨_, ⟨h, _⟩, _⟩ | ⟨rfl, h⟩
        · exact h.elim
        · exact ⟨⟨_, rfl⟩, h⟩⟩
    · rintro e W2 ⟨⟨v, rfl⟩, (⟨hz, hi, hown⟩ | ⟨pre, hpre, hi, hown⟩ | ⟨hz, hi, hown⟩)⟩
      · have hr := run_endLoop (P := Try.prog) hown.1 (by rw [hrec]; simp)
        rw [hrec] at hr
        exact ⟨none, _, hr, hdone _ _ hz ((hI _).put _ hi (by omega) hown.1 rfl) ((World.putObj_heap_other (by omega)).trans hown.2) (Nat.le_refl _)⟩
      · have hr := run_endLoop (P := Try.prog) hown.1 (by rw [hrec]; simp)
        rw [hrec] at hr
        exact ⟨some .ret, _, hr, hstop _ pre _ hpre ((hIx _).put _ hi (by omega) hown.1 rfl) ((World.putObj_heap_other (by omega)).trans hown.2) (Nat.le_refl _)⟩
      · have hr := run_endLoop (P := Try.prog) hown.1 (by rw [hrec]; simp)
        rw [hrec] at hr
        exact ⟨some .ret, _, hr, hstopE _ _ hz (hIE.put _ hi (by omega) hown.1 rfl) ((World.putObj_heap_other (by omega)).trans hown.2) (Nat.le_refl _)⟩
end Go.Proofs.Yteggldplmbegfaa
