/- ROWS OF STRINGS that a call owns: six of them in an array, no two in one block. No condition. -/
import Derived.Test.YteggldplmbegfaaL3d
import Derived.Maps.AppendAt
set_option linter.unusedVariables false
set_option linter.unusedSimpArgs false
namespace Go.Proofs.Yteggldplmbegfaa
open Go.RowKit

/-- A row of strings' cells. -/
def sv (l : List (List UInt8)) : List Value := l.map fun x => .string (str x)
theorem sv_length (l : List (List UInt8)) : (sv l).length = l.length := by simp [sv]
theorem sv_get (l : List (List UInt8)) (j : Nat) : (sv l)[j]? = (l[j]?).map fun x => .string (str x) := by simp [sv]
theorem sv_set (l : List (List UInt8)) (j : Nat) (x : List UInt8) : (sv l).toArray.setIfInBounds j (.string (str x)) = (sv (l.set j x)).toArray := by simp [sv, List.map_set]

theorem sv_some (l : List (List UInt8)) (k : Nat) (h : k < l.length) : (sv l).toArray[k]? = some (.string (str l[k])) := by
  rw [List.getElem?_toArray, sv_get, List.getElem?_eq_getElem h]
  rfl
theorem sv_snoc (l : List (List UInt8)) (x : List UInt8) : sv l ++ [.string (str x)] = sv (l ++ [x]) := by simp [sv]

theorem owns_keep {w w' : World} {base : Nat} {e : TypeId} {sz n : Nat} {v : Value} {xs : List Value} (h : w.ownsRow base e sz v n xs) {S : List Nat} (hf : Fr w w' S) (hS : ∀ x ∈ S, x < base ∨ some x ≠ v.ownBlock) : w'.ownsRow base e sz v n xs := by
  refine ⟨h.1, ?_⟩
  rcases h.2 with h | ⟨g, cap, cur, rfl, hb, hg, h2⟩
  · exact .inl h
  · refine .inr ⟨g, cap, cur, rfl, hb, hf.keep hg (fun hx => ?_), h2⟩
    rcases hS g hx with h3 | h3
    · omega
    · exact h3 rfl
theorem owns_lt {w : World} {base : Nat} {e : TypeId} {sz n : Nat} {v : Value} {xs : List Value} (h : w.ownsRow base e sz v n xs) {g : Nat} (hg : v.ownBlock = some g) : base ≤ g ∧ g < w.heap.size := by
  rcases h.2 with ⟨rfl, _⟩ | ⟨g2, cap, cur, rfl, hb, hh, h2⟩
  · cases hg
  · simp only [Value.ownBlock, Option.some.injEq] at hg
    subst hg
    exact ⟨hb, lt_of_heap hh⟩

/-- Six rows of strings that the call owns, no two in one block. -/
structure MayIs (w : World) (base M : Nat) (ms : List Value) (L : Nat → List (List UInt8)) : Prop where
  blk : w.heap[M]? = some (.cells ms.toArray 41 (0, 0))
  len : ms.length = 6
  below : M < base
  rows : ∀ j < 6, w.ownsRow base 9 1 (ms.getD j undef) (L j).length (sv (L j))
  apart : ∀ i < 6, ∀ j < 6, i ≠ j → ∀ g, (ms.getD i undef).ownBlock = some g → (ms.getD j undef).ownBlock ≠ some g
theorem MayIs.move {w w' : World} {base M : Nat} {ms : List Value} {L : Nat → List (List UInt8)} (h : MayIs w base M ms L) {S : List Nat} (hf : Fr w w' S) (hS : ∀ x ∈ S, x < base ∧ x ≠ M) : MayIs w' base M ms L :=
  ⟨hf.keep h.blk (fun hx => (hS M hx).2 rfl), h.len, h.below, fun j hj => owns_keep (h.rows j hj) hf (fun x hx => .inl (hS x hx).1), h.apart⟩
theorem MayIs.push {w w' : World} {base M : Nat} {ms : List Value} {L : Nat → List (List UInt8)} (h : MayIs w base M ms L) {q : Nat} (hq : q < 6) {v' : Value} {x : List UInt8}
    (hown : w'.ownsRow base 9 1 v' ((L q).length + 1) (sv (L q) ++ [.string (str x)])) (hgr : w.grownBy w' (ms.getD q undef).ownBlock) (hat : v'.ownBlock = (ms.getD q undef).ownBlock ∨ v'.ownBlock = some w.heap.size) :
    MayIs (w'.setCell ⟨M, q, none⟩ v') base M (ms.set q v') (fun j => if j = q then L q ++ [x] else L j) := by
  have hM : ∀ g, (ms.getD q undef).ownBlock = some g → base ≤ g ∧ g < w.heap.size := fun g hg => owns_lt (h.rows q hq) hg
  have hbw : w'.heap[M]? = _ := grown_keep hgr h.blk (fun e => by have := (hM M e.symm).1; have := h.below; omega)
  have hF : Fr w' (w'.setCell ⟨M, q, none⟩ v') [M] := (Fr.refl w' [M]).grown (setCell_grown w' M q v') (by simp)
  have hset : ∀ j < 6, j ≠ q → (ms.set q v').getD j undef = ms.getD j undef := fun j hj hne => by
    rw [List.getD_eq_getElem?_getD, List.getD_eq_getElem?_getD, List.getElem?_set_ne (fun e => hne e.symm)]
  have hsetq : (ms.set q v').getD q undef = v' := by
    rw [List.getD_eq_getElem?_getD, List.getElem?_set_self (by rw [h.len]; exact hq)]
    rfl
  refine ⟨?_, by rw [List.length_set]; exact h.len, h.below, fun j hj => ?_, fun i hi j hj hij g hgi => ?_⟩
  · have := heap_setCell_same w' M q _ _ v' hbw
    simpa using this
  · by_cases hjq : j = q
    · subst hjq
      rw [hsetq]
      simp only [if_true, List.length_append, List.length_cons, List.length_nil, Nat.zero_add]
      rw [← sv_snoc]
      refine owns_keep hown hF (fun x hx => ?_)
      simp at hx
      subst hx
      exact .inl h.below
    · rw [hset j hj hjq]
      simp only [if_neg hjq]
      have h1 := h.rows j hj
      have hF0 : Fr w w' ((ms.getD q undef).ownBlock.toList) := (Fr.refl w _).grown hgr (fun k hk => .inl (by rw [hk]; simp))
      have h2 := owns_keep h1 hF0 (fun x hx => .inr (fun e => h.apart q hq j hj (fun e => hjq e.symm) x (by simpa using hx) e.symm))
      refine owns_keep h2 hF (fun x hx => ?_)
      simp at hx
      subst hx
      exact .inl h.below
  · by_cases hiq : i = q
    · subst hiq
      rw [hsetq] at hgi
      rw [hset j hj (fun e => hij e.symm)]
      intro hgj
      have hl := owns_lt (h.rows j hj) hgj
      rcases hat with ha | ha
      · exact h.apart i hi j hj hij g (ha.symm.trans hgi) hgj
      · have := ha.symm.trans hgi
        simp only [Option.some.injEq] at this
        omega
    · rw [hset i hi hiq] at hgi
      by_cases hjq : j = q
      · subst hjq
        rw [hsetq]
        intro hgj
        have hl := owns_lt (h.rows i hi) hgi
        rcases hat with ha | ha
        · exact h.apart i hi j hj hij g hgi (ha.symm.trans hgj)
        · have := ha.symm.trans hgj
          simp only [Option.some.injEq] at this
          omega
      · rw [hset j hj hjq]
        exact h.apart i hi j hj hij g hgi
theorem owns_slice {w : World} {base : Nat} {e : TypeId} {sz n : Nat} {v : Value} {xs : List Value} (h : w.ownsRow base e sz v n xs) : ∃ A c, v = .slice A n c := by
  rcases h.2 with ⟨rfl, rfl⟩ | ⟨g2, cap, cur, rfl, hb, hh, h2⟩
  · exact ⟨_, _, rfl⟩
  · exact ⟨_, _, rfl⟩
theorem owns_blk {w : World} {base : Nat} {e : TypeId} {sz n : Nat} {v : Value} {xs : List Value} (h : w.ownsRow base e sz v n xs) {g : Nat} (hg : v.ownBlock = some g) : ∃ cur, w.heap[g]? = some (.cells cur e (0, 0)) := by
  rcases h.2 with ⟨rfl, _⟩ | ⟨g2, cap, cur, rfl, hb, hh, h2⟩
  · cases hg
  · simp only [Value.ownBlock, Option.some.injEq] at hg
    subst hg
    exact ⟨_, hh⟩
theorem MayIs.blk_push {w w' : World} {base M : Nat} {ms : List Value} {L : Nat → List (List UInt8)} (h : MayIs w base M ms L) {q : Nat} (hq : q < 6) (hgr : w.grownBy w' (ms.getD q undef).ownBlock) : w'.heap[M]? = some (.cells ms.toArray 41 (0, 0)) :=
  grown_keep hgr h.blk (fun e => by have := (owns_lt (h.rows q hq) e.symm).1; have := h.below; omega)
theorem MayIs.fr {w w' : World} {base M : Nat} {ms : List Value} {L : Nat → List (List UInt8)} (h : MayIs w base M ms L) {q : Nat} (hq : q < 6) (v' : Value) (hgr : w.grownBy w' (ms.getD q undef).ownBlock) :
    Fr w (w'.setCell ⟨M, q, none⟩ v') (M :: (ms.getD q undef).ownBlock.toList) :=
  ((Fr.refl w _).grown hgr (fun k hk => .inl (by rw [hk]; simp))).grown (setCell_grown w' M q v') (by simp)
/-- The loose writes to a sector. -/
def mayL (l : List Op3) (k j : Nat) : List (List UInt8) := (((l.map opW).take k).filter fun p => p.1 == j).map (·.2)
theorem mayL_succ (l : List Op3) (k : Nat) (hk : k < l.length) : mayL l (k + 1) = fun j => if j = (opW l[k]).1 then mayL l k (opW l[k]).1 ++ [(opW l[k]).2] else mayL l k j := by
  funext j
  unfold mayL
  rw [List.take_succ_eq_append_getElem (l := l.map opW) (i := k) (by simp; omega)]
  simp only [List.filter_append, List.map_append, List.getElem_map]
  by_cases h : j = (opW l[k]).1
  · subst h
    simp
  · have h2 : ((opW l[k]).1 == j) = false := by simpa using fun e => h e.symm
    simp [h, h2]
theorem mayL_le (l : List Op3) (k j : Nat) : (mayL l k j).length ≤ k := by
  unfold mayL
  rw [List.length_map]
  refine Nat.le_trans (List.length_filter_le _ _) ?_
  rw [List.length_take]
  exact Nat.min_le_left _ _
theorem mayL_mem (l : List Op3) (p : Nat × List UInt8) (hp : p ∈ l.map opW) : p.2 ∈ mayL l l.length p.1 := by
  unfold mayL
  rw [List.take_of_length_le (by simp)]
  exact List.mem_map.2 ⟨p, List.mem_filter.2 ⟨hp, by simp⟩, rfl⟩
end Go.Proofs.Yteggldplmbegfaa
