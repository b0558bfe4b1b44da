/- LAYER 4's LAWS: how scripts and records of an input read. No condition. -/
import Derived.Test.YteggldplmbegfaaL4c
import Derived.Test.YteggldplmbegfaaRead
set_option linter.unusedVariables false
set_option linter.unusedSimpArgs false
namespace Go.Proofs.Yteggldplmbegfaa
open Go.RowKit
section
variable {H : Type} {enc : TypeId × Value → H} {w : World} {spare : Nat → Bool} {held : Bool}
theorem clOp4 : Try.prog.cellsOf 56 = 6 := by kernel_rfl
theorem clRecs : Try.prog.cellsOf 48 = 1 := by kernel_rfl
theorem clBytes : Try.prog.cellsOf 33 = 1 := by kernel_rfl
theorem bytes_of_trod {m : Nat} {A : Option Addr} {n c : Nat} {y : DataW H × List MemPlace} (h : DataW.trod enc Try.prog w 0 spare held m 33 [.slice A n c] = some y) :
    n ≤ maxLen ∧ ∃ T' ks, ks.length = n ∧ RowIs w (.slice A n c) T' 1 n (bv ks) := by
  obtain ⟨hn, T', css, hl, hr, hc⟩ := row_of_trod Try.underlying33 (sz := 1) cl5 (by omega) h
  obtain ⟨ks, h1, h2, _⟩ := all_lists (fun k : UInt8 => [Value.int .u8 k.toNat]) (fun _ => True) css (fun cs hcs => by
    obtain ⟨_, m, y, hy⟩ := hc cs hcs
    obtain ⟨k2, e2, _, w2⟩ := DataW.trod_int Try.underlying5 hy
    have hw : 0 ≤ k2 ∧ k2 < 256 := by
      simp only [Lit.wf, IntKind.min, IntKind.max, IntKind.signed, IntKind.bits, Bool.and_eq_true, decide_eq_true_eq] at w2
      simp at w2
      omega
    have hu : ((UInt8.ofNat k2.toNat).toNat : Int) = k2 := by
      rw [UInt8.toNat_ofNat']
      omega
    exact ⟨UInt8.ofNat k2.toNat, by rw [hu]; exact e2, trivial⟩)
  refine ⟨hn, T', ks, by rw [h1, hl], ?_⟩
  rw [h2] at hr
  have e : ∀ ks : List UInt8, (ks.map fun k : UInt8 => [Value.int .u8 k.toNat]).flatten = bv ks := by
    intro ks
    induction ks with
    | nil => rfl
    | cons k ks ih => rw [List.map_cons, List.flatten_cons, ih]; rfl
  rwa [e] at hr
theorem recs_of_trod {m : Nat} {A : Option Addr} {n c : Nat} {y : DataW H × List MemPlace} (h : DataW.trod enc Try.prog w 0 spare held m 48 [.slice A n c] = some y) :
    n ≤ maxLen ∧ ∃ rs : List (List UInt8), rs.length = n ∧ RecsIs w (.slice A n c) rs := by
  obtain ⟨hn, T', css, hl, hr, hc⟩ := row_of_trod Try.underlying48 (sz := 1) clBytes (by omega) h
  have hall : ∀ i : Fin css.length, ∃ r : List UInt8, r.length ≤ 9223372036854775807 ∧ ∃ x Te, css[i.1] = [x] ∧ RowIs w x Te 1 r.length (bv r) := fun i => by
    obtain ⟨hcl, m, y, hy⟩ := hc css[i.1] (List.getElem_mem _)
    obtain ⟨x, hx⟩ : ∃ x, css[i.1] = [x] := List.length_eq_one_iff.1 hcl
    rw [hx] at hy
    obtain ⟨A', n', c', hs⟩ : ∃ A' n' c', x = .slice A' n' c' := by
      rcases Deep.open_slice Try.underlying33 hy with ⟨e0, _⟩ | ⟨a, len, cap, _, _, _, _, e0, _⟩
      · simp at e0
        exact ⟨_, _, _, e0⟩
      · simp at e0
        exact ⟨_, _, _, e0⟩
    subst hs
    obtain ⟨h1, Te, ks, h2, h3⟩ := bytes_of_trod hy
    unfold maxLen at h1
    subst h2
    exact ⟨ks, by omega, _, Te, hx, h3⟩
  obtain ⟨f, hf⟩ := Classical.axiomOfChoice hall
  refine ⟨hn, List.ofFn f, by rw [List.length_ofFn]; exact hl, T', css.flatten, by rw [List.length_ofFn, hl]; exact hr, fun i r hi => ?_⟩
  obtain ⟨hi2, hri⟩ := List.getElem?_eq_some_iff.1 hi
  rw [List.length_ofFn] at hi2
  rw [List.getElem_ofFn] at hri
  obtain ⟨h1, x, Te, h2, h3⟩ := hf ⟨i, hi2⟩
  rw [hri] at h1 h3
  refine ⟨h1, x, Te, ?_, h3⟩
  have := flatten_get 1 css (fun cs hcs => (hc cs hcs).1) i 0 (by omega)
  rw [Nat.mul_one, Nat.add_zero] at this
  rw [this, List.getElem?_eq_getElem hi2]
  simp only [Option.bind_some]
  rw [h2]
  rfl
set_option maxRecDepth 100000 in
theorem op4_of_trod {m : Nat} {cs : List Value} {y : DataW H × List MemPlace} (h : DataW.trod enc Try.prog w 0 spare held m 56 cs = some y) :
    ∃ o : Op4, cs = op4Cells o ∧ Op4Is w o ∧ ∃ T ks, ks.length = o.kn ∧ RowIs w (.slice o.kA o.kn o.kc) T 1 o.kn (iv ks) := by
  obtain ⟨hl, n, hf⟩ := trod_fields Try.underlying56 h
  rw [clOp4] at hl
  match cs, hl with
  | [v0, v1, v2, v3, v4, v5], _ =>
    simp only [List.mem_cons, List.not_mem_nil, or_false, forall_eq_or_imp, forall_eq] at hf
    obtain ⟨⟨y0, h0⟩, ⟨y1, h1⟩, ⟨y2, h2⟩, ⟨y3, h3⟩⟩ := hf
    rw [cl3] at h0 h2
    rw [clRecs] at h1
    rw [cl25] at h3
    obtain ⟨k0, e0, _, _⟩ := DataW.trod_int Try.underlying3 h0
    obtain ⟨k2, e2, _, _⟩ := DataW.trod_int Try.underlying3 h2
    obtain ⟨kA, kn, kc, tn, hf, e5, m', y', h6⟩ := choice_of_trod h3
    simp at e0 e2 e5
    obtain ⟨rfl, rfl, rfl⟩ := e5
    subst e0 e2
    have h1' : DataW.trod enc Try.prog w 0 spare held n 48 [v1] = some y1 := h1
    obtain ⟨A', n', c', hs⟩ : ∃ A' n' c', v1 = .slice A' n' c' := by
      rcases Deep.open_slice Try.underlying48 h1' with ⟨e0, _⟩ | ⟨a, len, cap, _, _, _, _, e0, _⟩
      · simp at e0
        exact ⟨_, _, _, e0⟩
      · simp at e0
        exact ⟨_, _, _, e0⟩
    subst hs
    obtain ⟨b1, rs, b2, b3⟩ := recs_of_trod h1'
    obtain ⟨b4, T, ks, b5, b6⟩ := ints_of_trod h6
    unfold maxLen at b1 b4
    exact ⟨⟨k0, A', n', c', rs, k2, kA, kn, kc, tn, hf⟩, rfl, ⟨b2, by omega, b3, by omega⟩, T, ks, b5, b6⟩
theorem script4_of_trod {m : Nat} {A : Option Addr} {n c : Nat} {y : DataW H × List MemPlace} (h : DataW.trod enc Try.prog w 0 spare held m 53 [.slice A n c] = some y) :
    n ≤ maxLen ∧ ∃ T' l, l.length = n ∧ RowIs w (.slice A n c) T' 6 n (script4 l) ∧ ∀ o ∈ l, Op4Is w o := by
  obtain ⟨hn, T', css, hl, hr, hc⟩ := row_of_trod Try.underlying53 (sz := 6) clOp4 (by omega) h
  obtain ⟨l, h1, h2, h3⟩ := all_lists op4Cells (fun o => Op4Is w o) css (fun cs hcs => by
    obtain ⟨_, m, y, hy⟩ := hc cs hcs
    obtain ⟨o, h1, h2, _⟩ := op4_of_trod hy
    exact ⟨o, h1, h2⟩)
  refine ⟨hn, T', l, by rw [h1, hl], ?_, h3⟩
  rw [h2] at hr
  exact hr
theorem int_wf4 {m : Nat} {n : Int} {x : DataW H × List MemPlace} (e : DataW.trod enc Try.prog w 0 spare held m 3 [Value.int .i64 n] = some x) : -9223372036854775808 ≤ n ∧ n ≤ 9223372036854775807 := by
  obtain ⟨k, hk, hx, hw⟩ := DataW.trod_int Try.underlying3 e
  simp at hk
  subst hk
  unfold Lit.wf at hw
  simp only [IntKind.min, IntKind.max, IntKind.signed, IntKind.bits, Bool.and_eq_true, decide_eq_true_eq] at hw
  exact hw
theorem clCutT : Try.prog.cellsOf 63 = 5 := by kernel_rfl
set_option maxRecDepth 100000 in
theorem cutT_of_trod {m : Nat} {cs : List Value} {y : DataW H × List MemPlace} (h : DataW.trod enc Try.prog w 0 spare held m 63 cs = some y) :
    ∃ (rep : Bool) (af : Int) (kA : Option Addr) (kc : Nat) (ks : List Int) (tn hf : Int) (T : TypeId), cs = [.bool rep, .int .i64 af, .slice kA ks.length kc, .int .i64 tn, .int .i64 hf] ∧ (-9223372036854775808 ≤ af ∧ af ≤ 9223372036854775807) ∧
      RowIs w (.slice kA ks.length kc) T 1 ks.length (iv ks) ∧ ks.length ≤ 9223372036854775807 ∧ (-9223372036854775808 ≤ tn ∧ tn ≤ 9223372036854775807) ∧ (-9223372036854775808 ≤ hf ∧ hf ≤ 9223372036854775807) := by
  obtain ⟨hl, n, hf⟩ := trod_fields Try.underlying63 h
  rw [clCutT] at hl
  match cs, hl with
  | [v0, v1, v2, v3, v4], _ =>
    simp only [List.mem_cons, List.not_mem_nil, or_false, forall_eq_or_imp, forall_eq] at hf
    obtain ⟨⟨y0, h0⟩, ⟨y1, h1⟩, ⟨y2, h2⟩⟩ := hf
    rw [cl4] at h0
    rw [cl3] at h1
    rw [cl25] at h2
    have h0' : DataW.trod enc Try.prog w 0 spare held n 4 [v0] = some y0 := h0
    have hb : ∃ b : Bool, v0 = .bool b := by
      cases n with
      | zero => simp [DataW.trod] at h0'
      | succ n =>
        cases v0 <;> simp [DataW.trod, Try.underlying4] at h0'
        exact ⟨_, rfl⟩
    obtain ⟨b, rfl⟩ := hb
    obtain ⟨k1, e1, _, _⟩ := DataW.trod_int Try.underlying3 h1
    simp at e1
    subst e1
    have h1' : DataW.trod enc Try.prog w 0 spare held n 3 [Value.int .i64 k1] = some y1 := h1
    have h2' : DataW.trod enc Try.prog w 0 spare held n 25 [v2, v3, v4] = some y2 := h2
    obtain ⟨hl2, n2, hf2⟩ := trod_fields Try.underlying25 h2'
    simp only [List.mem_cons, List.not_mem_nil, or_false, forall_eq_or_imp, forall_eq] at hf2
    obtain ⟨⟨z0, g0⟩, ⟨z1, g1⟩, ⟨z2, g2⟩⟩ := hf2
    rw [cl3] at g1 g2
    obtain ⟨kA, kn, kc, tn, hf, e5, m', y', h6⟩ := choice_of_trod h2'
    simp at e5
    obtain ⟨rfl, rfl, rfl⟩ := e5
    obtain ⟨b4, T, ks, b5, b6⟩ := ints_of_trod h6
    unfold maxLen at b4
    subst b5
    exact ⟨b, k1, kA, kc, ks, tn, hf, T, rfl, int_wf4 h1', b6, by omega, int_wf4 g1, int_wf4 g2⟩
end
end Go.Proofs.Yteggldplmbegfaa
