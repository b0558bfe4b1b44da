/- LAYER 3's LAWS: how the inputs of DeviceSure read. No condition. -/
import Derived.Test.YteggldplmbegfaaL3c
import Derived.Test.YteggldplmbegfaaRead
set_option linter.unusedVariables false
set_option linter.unusedSimpArgs false
namespace Go.Proofs.Yteggldplmbegfaa
open Go.RowKit

theorem all_lists {α : Type} (f : α → List Value) (Q : α → Prop) : ∀ (css : List (List Value)), (∀ cs ∈ css, ∃ a, cs = f a ∧ Q a) → ∃ xs : List α, xs.length = css.length ∧ css.flatten = (xs.map f).flatten ∧ ∀ x ∈ xs, Q x
  | [], _ => ⟨[], rfl, rfl, by simp⟩
  | cs :: css, h => by
    obtain ⟨a, rfl, hq⟩ := h cs (by simp)
    obtain ⟨xs, h1, h2, h3⟩ := all_lists f Q css (fun c hc => h c (by simp [hc]))
    refine ⟨a :: xs, by simp [h1], by simp [h2], fun x hx => ?_⟩
    rcases List.mem_cons.1 hx with rfl | hx
    · exact hq
    · exact h3 x hx

section
variable {H : Type} {enc : TypeId × Value → H} {w : World} {spare : Nat → Bool} {held : Bool}

theorem cl25 : Try.prog.cellsOf 25 = 3 := by kernel_rfl
theorem cl23 : Try.prog.cellsOf 23 = 1 := by kernel_rfl
theorem cl3 : Try.prog.cellsOf 3 = 1 := by kernel_rfl
theorem cl35 : Try.prog.cellsOf 35 = 8 := by kernel_rfl
theorem cl5 : Try.prog.cellsOf 5 = 1 := by kernel_rfl
theorem cl9 : Try.prog.cellsOf 9 = 1 := by kernel_rfl
theorem cl4 : Try.prog.cellsOf 4 = 1 := by kernel_rfl

set_option maxRecDepth 100000 in
theorem choice_of_trod {m : Nat} {cs : List Value} {y : DataW H × List MemPlace} (h : DataW.trod enc Try.prog w 0 spare held m 25 cs = some y) :
    ∃ A n c tn hf, cs = [.slice A n c, .int .i64 tn, .int .i64 hf] ∧ ∃ m' y', DataW.trod enc Try.prog w 0 spare held m' 23 [.slice A n c] = some y' := by
  obtain ⟨hl, n, hf⟩ := trod_fields Try.underlying25 h
  rw [cl25] at hl
  match cs, hl with
  | [v0, v1, v2], _ =>
    simp only [List.mem_cons, List.not_mem_nil, or_false, forall_eq_or_imp, forall_eq] at hf
    obtain ⟨⟨y0, h0⟩, ⟨y1, h1⟩, ⟨y2, h2⟩⟩ := hf
    rw [cl23] at h0
    rw [cl3] at h1 h2
    obtain ⟨k1, e1, _, _⟩ := DataW.trod_int Try.underlying3 h1
    obtain ⟨k2, e2, _, _⟩ := DataW.trod_int Try.underlying3 h2
    simp at e1 e2
    subst e1 e2
    have h0' : DataW.trod enc Try.prog w 0 spare held n 23 [v0] = some y0 := h0
    rcases Deep.open_slice Try.underlying23 h0' with ⟨e0, _⟩ | ⟨a, len, cap, _, _, _, _, e0, _⟩
    · simp at e0
      subst e0
      exact ⟨_, _, _, _, _, rfl, _, _, h0'⟩
    · simp at e0
      subst e0
      exact ⟨_, _, _, _, _, rfl, _, _, h0'⟩
theorem ints_of_trod {m : Nat} {A : Option Addr} {n c : Nat} {y : DataW H × List MemPlace} (h : DataW.trod enc Try.prog w 0 spare held m 23 [.slice A n c] = some y) :
    n ≤ maxLen ∧ ∃ T' ks, ks.length = n ∧ RowIs w (.slice A n c) T' 1 n (iv ks) := by
  obtain ⟨hn, T', css, hl, hr, hc⟩ := row_of_trod Try.underlying23 (sz := 1) cl3 (by omega) h
  obtain ⟨ks, h1, h2, _⟩ := all_lists (fun k : Int => [Value.int .i64 k]) (fun _ => True) css (fun cs hcs => by
    obtain ⟨_, m, y, hy⟩ := hc cs hcs
    obtain ⟨k, e, _⟩ := DataW.trod_int Try.underlying3 hy
    exact ⟨k, e, trivial⟩)
  refine ⟨hn, T', ks, by rw [h1, hl], ?_⟩
  rw [h2] at hr
  have e : ∀ ks : List Int, (ks.map fun k => [Value.int .i64 k]).flatten = iv ks := by
    intro ks
    induction ks with
    | nil => rfl
    | cons k ks ih => rw [List.map_cons, List.flatten_cons, ih]; rfl
  rwa [e] at hr
set_option maxRecDepth 100000 in
theorem op3_of_trod {m : Nat} {cs : List Value} {y : DataW H × List MemPlace} (h : DataW.trod enc Try.prog w 0 spare held m 35 cs = some y) :
    ∃ o : Op3, cs = op3Cells o ∧ o.s.size ≤ maxLen ∧ o.kn ≤ maxLen := by
  obtain ⟨hl, n, hf⟩ := trod_fields Try.underlying35 h
  rw [cl35] at hl
  match cs, hl with
  | [v0, v1, v2, v3, v4, v5, v6, v7], _ =>
    simp only [List.mem_cons, List.not_mem_nil, or_false, forall_eq_or_imp, forall_eq] at hf
    obtain ⟨⟨y0, h0⟩, ⟨y1, h1⟩, ⟨y2, h2⟩, ⟨y3, h3⟩, ⟨y4, h4⟩, ⟨y5, h5⟩⟩ := hf
    rw [cl3] at h0 h1
    rw [cl5] at h2
    rw [cl9] at h3
    rw [cl4] at h4
    rw [cl25] at h5
    obtain ⟨k0, e0, _, _⟩ := DataW.trod_int Try.underlying3 h0
    obtain ⟨k1, e1, _, _⟩ := DataW.trod_int Try.underlying3 h1
    obtain ⟨k2, e2, _, w2⟩ := DataW.trod_int Try.underlying5 h2
    obtain ⟨A, kn, kc, tn, hf, e5, m', y', h6⟩ := choice_of_trod h5
    simp at e0 e1 e2 e5
    obtain ⟨rfl, rfl, rfl⟩ := e5
    subst e0 e1 e2
    have h3' : DataW.trod enc Try.prog w 0 spare held n 9 [v3] = some y3 := h3
    have h4' : DataW.trod enc Try.prog w 0 spare held n 4 [v4] = some y4 := h4
    have hs : ∃ s : ByteArray, v3 = .string s ∧ s.size ≤ maxLen := by
      cases n with
      | zero => simp [DataW.trod] at h3'
      | succ n =>
        cases v3 <;> simp [DataW.trod, Try.underlying9] at h3'
        exact ⟨_, rfl, h3'.1⟩
    have hb : ∃ b : Bool, v4 = .bool b := by
      cases n with
      | zero => simp [DataW.trod] at h4'
      | succ n =>
        cases v4 <;> simp [DataW.trod, Try.underlying4] at h4'
        exact ⟨_, rfl⟩
    obtain ⟨s, rfl, hs⟩ := hs
    obtain ⟨b, rfl⟩ := hb
    have hkn := (ints_of_trod h6).1
    have hw : 0 ≤ k2 ∧ k2 < 256 := by
      simp only [Lit.wf, IntKind.min, IntKind.max, IntKind.signed, IntKind.bits, Bool.and_eq_true, decide_eq_true_eq] at w2
      simp at w2
      omega
    refine ⟨⟨k0, k1, UInt8.ofNat k2.toNat, s, b, A, kn, kc, tn, hf⟩, ?_, hs, hkn⟩
    have hu : ((UInt8.ofNat k2.toNat).toNat : Int) = k2 := by
      rw [UInt8.toNat_ofNat']
      omega
    simp only [op3Cells]
    rw [hu]
theorem script_of_trod {m : Nat} {A : Option Addr} {n c : Nat} {y : DataW H × List MemPlace} (h : DataW.trod enc Try.prog w 0 spare held m 22 [.slice A n c] = some y) :
    n ≤ maxLen ∧ ∃ T' l, l.length = n ∧ RowIs w (.slice A n c) T' 8 n (scriptCells l) ∧ ∀ o ∈ l, o.s.size ≤ maxLen ∧ o.kn ≤ maxLen := by
  obtain ⟨hn, T', css, hl, hr, hc⟩ := row_of_trod Try.underlying22 (sz := 8) cl35 (by omega) h
  obtain ⟨l, h1, h2, h3⟩ := all_lists op3Cells (fun o => o.s.size ≤ maxLen ∧ o.kn ≤ maxLen) css (fun cs hcs => by
    obtain ⟨_, m, y, hy⟩ := hc cs hcs
    exact op3_of_trod hy)
  refine ⟨hn, T', l, by rw [h1, hl], ?_, h3⟩
  rw [h2] at hr
  exact hr
end
end Go.Proofs.Yteggldplmbegfaa
