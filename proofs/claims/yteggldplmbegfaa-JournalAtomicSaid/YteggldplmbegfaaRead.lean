/- HOW AN INPUT READS, as the rows of my own words: a slice of plain elements, a struct's fields. No condition. -/
import Derived.Test.YteggldplmbegfaaB1
import Derived.Deep.Slices
set_option linter.unusedVariables false
set_option linter.unusedSimpArgs false
namespace Go.Proofs.Yteggldplmbegfaa
open Go.RowKit

section
variable {H : Type} {enc : TypeId × Value → H} {P : Program} {w : World} {spare : Nat → Bool} {held : Bool}

theorem mapM_some {α β : Type} (f : α → Option β) : ∀ (l : List α) (r : List β), l.mapM f = some r → r.length = l.length ∧ ∀ i (h : i < l.length) (h2 : i < r.length), f l[i] = some r[i]
  | [], r, h => by
    simp at h
    subst h
    exact ⟨rfl, fun i h => absurd h (by simp)⟩
  | x :: l, r, h => by
    rw [List.mapM_cons] at h
    cases hx : f x with
    | none => rw [hx] at h; cases h
    | some y =>
      rw [hx] at h
      cases hl : l.mapM f with
      | none => rw [hl] at h; cases h
      | some ys =>
        rw [hl] at h
        simp at h
        subst h
        obtain ⟨h1, h2⟩ := mapM_some f l ys hl
        refine ⟨by simp [h1], fun i hi hj => ?_⟩
        cases i with
        | zero => exact hx
        | succ i => exact h2 i (by simpa using hi) (by simpa using hj)
theorem mapM_range_some {α : Type} {f : Nat → Option α} (n : Nat) {l : List α} (h : (List.range n).mapM f = some l) : l.length = n ∧ ∀ i (h : i < l.length), f i = some l[i] := by
  have h2 := mapM_some f _ _ h
  have hl : l.length = n := by have := h2.1; simpa using this
  refine ⟨hl, fun i hi => ?_⟩
  have h3 := h2.2 i (by rw [List.length_range]; omega) hi
  simpa using h3

theorem cells_len {base n : Nat} {a : Addr} {cs : List Value} (h : w.cells? base a n = some cs) : cs.length = n ∧ ∀ i (hi : i < cs.length), w.cell? (a.add i) = some cs[i] := by
  unfold World.cells? at h
  split at h
  · exact mapM_range_some n h
  · cases h

/-- The fields of a struct. -/
theorem trod_fields {base fuel : Nat} {t : TypeId} {fs : Array Field} {cs : List Value} {x : DataW H × List MemPlace} (ht : P.underlying t = some (.struct fs)) (h : DataW.trod enc P w base spare held fuel t cs = some x) :
    cs.length = P.cellsOf t ∧ ∃ n, ∀ f ∈ fs.toList, ∃ y, DataW.trod enc P w base spare held n f.type ((cs.drop f.offset).take (P.cellsOf f.type)) = some y := by
  cases fuel with
  | zero => simp [DataW.trod] at h
  | succ n =>
    simp only [DataW.trod, ht] at h
    split at h
    · rename_i hl
      refine ⟨hl, n, fun f hf => ?_⟩
      cases hm : fs.toList.mapM fun f => DataW.trod enc P w base spare held n f.type ((cs.drop f.offset).take (P.cellsOf f.type)) with
      | none => rw [hm] at h; cases h
      | some ys =>
        have h2 := mapM_some _ _ _ hm
        obtain ⟨i, hi, rfl⟩ := List.getElem_of_mem hf
        have hi2 : i < ys.length := by rw [h2.1]; exact hi
        exact ⟨_, h2.2 i hi hi2⟩
    · cases h

/-- A slice of an input reads as a row. -/
theorem row_of_trod {fuel sz : Nat} {T E : TypeId} (hT : P.underlying T = some (.slice E)) (hsz : P.cellsOf E = sz) (hp : 0 < sz) {A : Option Addr} {n c : Nat} {x : DataW H × List MemPlace}
    (h : DataW.trod enc P w 0 spare held fuel T [.slice A n c] = some x) :
    n ≤ maxLen ∧ ∃ (T' : TypeId) (css : List (List Value)), css.length = n ∧ RowIs w (.slice A n c) T' sz n css.flatten ∧ ∀ cs ∈ css, cs.length = sz ∧ ∃ m y, DataW.trod enc P w 0 spare held m E cs = some y := by
  rcases Deep.open_slice hT h with ⟨h0, _⟩ | ⟨a, len, cap, m, k, D, Pl, hcs, hb, hl, hm, hmm, _, hx⟩
  · simp only [List.cons.injEq, Value.slice.injEq, and_true] at h0
    obtain ⟨rfl, rfl, rfl⟩ := h0
    exact ⟨Nat.zero_le _, 0, [], rfl, RowIs.nil _ _ _ _ _, by simp⟩
  · simp only [List.cons.injEq, Value.slice.injEq, and_true] at hcs
    obtain ⟨rfl, rfl, rfl⟩ := hcs
    refine ⟨by omega, ?_⟩
    have hmn : n ≤ m := by rw [hmm]; split <;> omega
    rw [hsz] at hx
    by_cases hn : n = 0
    · subst hn
      exact ⟨0, [], rfl, ⟨by simp, .inl ⟨rfl, _, _, rfl⟩⟩, by simp⟩
    · have hall : ∀ i : Fin n, ∃ cs', cs'.length = sz ∧ (∀ j (hj : j < cs'.length), w.cell? ((a.add (i.1 * sz)).add j) = some cs'[j]) ∧ ∃ m y, DataW.trod enc P w 0 spare held m E cs' = some y := fun i => by
        obtain ⟨cs', h1, h2⟩ := hx i.1 (by omega)
        have h3 := cells_len h1
        exact ⟨cs', h3.1, h3.2, _, _, h2⟩
      obtain ⟨f, hf⟩ := Classical.axiomOfChoice hall
      have hcss : ∀ cs ∈ List.ofFn f, ∃ i : Fin n, cs = f i := fun cs hcs => by
        obtain ⟨i, hi⟩ := List.mem_ofFn.1 hcs
        exact ⟨i, hi.symm⟩
      have hlen : ∀ cs ∈ List.ofFn f, cs.length = sz := fun cs hcs => by
        obtain ⟨i, rfl⟩ := hcss cs hcs
        exact (hf i).1
      have hfl : (List.ofFn f).flatten.length = n * sz := by rw [flatten_len sz _ hlen, List.length_ofFn]
      have hcell : ∀ k (hk : k < n * sz), w.cell? (a.add k) = (List.ofFn f).flatten[k]? := fun k hk => by
        have hd : k / sz < n := (Nat.div_lt_iff_lt_mul hp).2 hk
        have hmod : k % sz < sz := Nat.mod_lt _ hp
        have h1 := (hf ⟨k / sz, hd⟩).2.1 (k % sz) (by rw [(hf ⟨k / sz, hd⟩).1]; exact hmod)
        rw [Deep.add_add, show k / sz * sz + k % sz = k from Nat.div_add_mod' k sz] at h1
        rw [h1]
        have h2 := flatten_get sz (List.ofFn f) hlen (k / sz) (k % sz) hmod
        rw [show k / sz * sz + k % sz = k from Nat.div_add_mod' k sz] at h2
        rw [h2]
        simp [hd, (hf ⟨k / sz, hd⟩).1, hmod]
      obtain ⟨g, o, s⟩ := a
      have h0 := hcell 0 (Nat.mul_pos (by omega) hp)
      obtain ⟨v0, hv0⟩ : ∃ v0, (List.ofFn f).flatten[0]? = some v0 := ⟨_, List.getElem?_eq_getElem (by rw [hfl]; exact Nat.mul_pos (by omega) hp)⟩
      rw [hv0] at h0
      have hs : s = none ∧ ∃ cur T' fr, w.heap[g]? = some (.cells cur T' fr) := by
        simp only [Addr.add, World.cell?, if_true] at h0
        cases hg : w.heap[g]? with
        | none => rw [hg] at h0; cases h0
        | some o =>
          cases o with
          | cells cur T' fr =>
            rw [hg] at h0
            simp only at h0
            split at h0
            · cases h0
            · rename_i hs
              exact ⟨by simpa using hs, _, _, _, rfl⟩
          | _ => rw [hg] at h0; cases h0
      obtain ⟨rfl, cur, T', fr, hg⟩ := hs
      refine ⟨T', List.ofFn f, List.length_ofFn, ⟨hfl, .inr ⟨g, o, c, cur, fr, rfl, hl, hg, fun j x hj => ?_⟩⟩, fun cs hcs => ?_⟩
      · have hj2 : j < n * sz := by rw [← hfl]; exact (List.getElem?_eq_some_iff.1 hj).1
        have h5 := hcell j hj2
        rw [hj, addr_add, cell_of_row _ _ _ _ _ _ hg] at h5
        exact h5
      · obtain ⟨i, rfl⟩ := hcss cs hcs
        exact ⟨(hf i).1, (hf i).2.2⟩
end
theorem all_lists {α : Type} (f : α → List Value) (Q : α → Prop) : ∀ (css : List (List Value)), (∀ cs ∈ css, ∃ a, cs = f a ∧ Q a) → ∃ xs : List α, xs.length = css.length ∧ css.flatten = (xs.map f).flatten ∧ ∀ x ∈ xs, Q x
  | [], _ => ⟨[], rfl, rfl, by simp⟩
  | cs :: css, h => by
    obtain ⟨a, rfl, hq⟩ := h cs (by simp)
    obtain ⟨xs, h1, h2, h3⟩ := all_lists f Q css (fun c hc => h c (by simp [hc]))
    refine ⟨a :: xs, by simp [h1], by simp [h2], fun x hx => ?_⟩
    rcases List.mem_cons.1 hx with rfl | hx
    · exact hq
    · exact h3 x hx

section
variable {H : Type} {enc : TypeId × Value → H} {w : World} {spare : Nat → Bool} {held : Bool}

theorem cl25 : Try.prog.cellsOf 25 = 3 := by kernel_rfl
theorem cl23 : Try.prog.cellsOf 23 = 1 := by kernel_rfl
theorem cl3 : Try.prog.cellsOf 3 = 1 := by kernel_rfl
theorem cl5 : Try.prog.cellsOf 5 = 1 := by kernel_rfl
theorem cl9 : Try.prog.cellsOf 9 = 1 := by kernel_rfl
theorem cl4 : Try.prog.cellsOf 4 = 1 := by kernel_rfl

set_option maxRecDepth 100000 in
theorem choice_of_trod {m : Nat} {cs : List Value} {y : DataW H × List MemPlace} (h : DataW.trod enc Try.prog w 0 spare held m 25 cs = some y) :
    ∃ A n c tn hf, cs = [.slice A n c, .int .i64 tn, .int .i64 hf] ∧ ∃ m' y', DataW.trod enc Try.prog w 0 spare held m' 23 [.slice A n c] = some y' := by
  obtain ⟨hl, n, hf⟩ := trod_fields Try.underlying25 h
  rw [cl25] at hl
  match cs, hl with
  | [v0, v1, v2], _ =>
    simp only [List.mem_cons, List.not_mem_nil, or_false, forall_eq_or_imp, forall_eq] at hf
    obtain ⟨⟨y0, h0⟩, ⟨y1, h1⟩, ⟨y2, h2⟩⟩ := hf
    rw [cl23] at h0
    rw [cl3] at h1 h2
    obtain ⟨k1, e1, _, _⟩ := DataW.trod_int Try.underlying3 h1
    obtain ⟨k2, e2, _, _⟩ := DataW.trod_int Try.underlying3 h2
    simp at e1 e2
    subst e1 e2
    have h0' : DataW.trod enc Try.prog w 0 spare held n 23 [v0] = some y0 := h0
    rcases Deep.open_slice Try.underlying23 h0' with ⟨e0, _⟩ | ⟨a, len, cap, _, _, _, _, e0, _⟩
    · simp at e0
      subst e0
      exact ⟨_, _, _, _, _, rfl, _, _, h0'⟩
    · simp at e0
      subst e0
      exact ⟨_, _, _, _, _, rfl, _, _, h0'⟩
theorem ints_of_trod {m : Nat} {A : Option Addr} {n c : Nat} {y : DataW H × List MemPlace} (h : DataW.trod enc Try.prog w 0 spare held m 23 [.slice A n c] = some y) :
    n ≤ maxLen ∧ ∃ T' ks, ks.length = n ∧ RowIs w (.slice A n c) T' 1 n (iv ks) := by
  obtain ⟨hn, T', css, hl, hr, hc⟩ := row_of_trod Try.underlying23 (sz := 1) cl3 (by omega) h
  obtain ⟨ks, h1, h2, _⟩ := all_lists (fun k : Int => [Value.int .i64 k]) (fun _ => True) css (fun cs hcs => by
    obtain ⟨_, m, y, hy⟩ := hc cs hcs
    obtain ⟨k, e, _⟩ := DataW.trod_int Try.underlying3 hy
    exact ⟨k, e, trivial⟩)
  refine ⟨hn, T', ks, by rw [h1, hl], ?_⟩
  rw [h2] at hr
  have e : ∀ ks : List Int, (ks.map fun k => [Value.int .i64 k]).flatten = iv ks := by
    intro ks
    induction ks with
    | nil => rfl
    | cons k ks ih => rw [List.map_cons, List.flatten_cons, ih]; rfl
  rwa [e] at hr
end
end Go.Proofs.Yteggldplmbegfaa
