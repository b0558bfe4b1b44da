/- APPEND AND SLICE LITERALS, told by what their slices read as. No condition. -/
import Derived.Test.YteggldplmbegfaaMem
import Derived.Test.YteggldplmbegfaaGrow
import Derived.ArgAppend
import Derived.Deep.RegionLawGrows
import Derived.Lib.LazyBuf
set_option linter.unusedVariables false
set_option linter.unusedSimpArgs false
namespace Go.Proofs.Yteggldplmbegfaa
open Go.RowKit

theorem RowIs.of_owns {w : World} {base : Nat} {e : TypeId} {size n : Nat} {v : Value} {xs : List Value} (h : w.ownsRow base e size v n xs) : RowIs w v e size n xs := by
  refine ⟨h.1, ?_⟩
  rcases h.2 with ⟨rfl, rfl⟩ | ⟨g, cap, cur, rfl, _, hh, hn, _, hs, ht⟩
  · exact .inl ⟨rfl, none, 0, rfl⟩
  · refine .inr ⟨g, 0, cap, cur, (0, 0), rfl, hn, hh, fun j x hj => ?_⟩
    rw [Nat.zero_add, ← Array.getElem?_toList]
    rw [← ht, List.getElem?_take] at hj
    split at hj
    · exact hj
    · cases hj
theorem RowIs.cells {w : World} {A : Option Addr} {T : TypeId} {sz n c : Nat} {cs : List Value} (h : RowIs w (.slice A n c) T sz n cs) : ∀ b, A = some b → ∀ j u, cs[j]? = some u → w.cell? (b.add j) = some u := by
  rintro b rfl j u hj
  rcases h.2 with ⟨rfl, _⟩ | ⟨g, o, c', cur, fr, hv, hc, hg, hx⟩
  · have h1 := (List.getElem?_eq_some_iff.1 hj).1
    have h2 := h.1
    rw [Nat.zero_mul] at h2
    omega
  · simp only [Value.slice.injEq, Option.some.injEq] at hv
    obtain ⟨rfl, _, _⟩ := hv
    rw [addr_add, cell_of_row _ _ _ _ _ _ hg]
    exact hx j u hj
theorem RowIs.nonempty {w : World} {A : Option Addr} {T : TypeId} {sz n c : Nat} {cs : List Value} (h : RowIs w (.slice A n c) T sz n cs) (hn : n ≠ 0) : ∃ b, A = some b := by
  rcases h.2 with ⟨h0, _⟩ | ⟨g, o, c', cur, fr, hv, _⟩
  · exact absurd h0 hn
  · simp only [Value.slice.injEq] at hv
    exact ⟨_, hv.1⟩

theorem RowIs.le {w : World} {A : Option Addr} {T : TypeId} {sz n c : Nat} {cs : List Value} (h : RowIs w (.slice A n c) T sz n cs) : n ≤ c := by
  rcases h.2 with ⟨rfl, _⟩ | ⟨g, o, c', cur, fr, hv, hc, _⟩
  · omega
  · simp only [Value.slice.injEq] at hv
    omega
/-- The capacity cut down. -/
theorem RowIs.clip {w : World} {A : Option Addr} {T : TypeId} {sz n c c2 : Nat} {cs : List Value} (h : RowIs w (.slice A n c) T sz n cs) (hc : n ≤ c2) : RowIs w (.slice A n c2) T sz n cs := by
  refine ⟨h.1, ?_⟩
  rcases h.2 with ⟨rfl, _⟩ | ⟨g, o, c', cur, fr, hv, _, hg, hx⟩
  · exact .inl ⟨rfl, A, c2, rfl⟩
  · simp only [Value.slice.injEq] at hv
    obtain ⟨rfl, _, _⟩ := hv
    exact .inr ⟨g, o, c2, cur, fr, rfl, hc, hg, hx⟩

section
variable {P : Program}
/-- An append that must make a new row. -/
theorem wp_append_grow {o : Oper} {a : Act} {w : World} {K : Act → World → Prop} {Q : Exit → Act → World → Prop} (hg : o.guard = none) (s x : Operand) (t : TypeId)
    (hop : o.op = Op.call { callee := Callee.builtin Builtin.append, args := #[s, x], argTypes := #[t, t] })
    (e : TypeId) (i : TypeInfo) (z : Value) (size bytes : Nat) (h1 : P.underlying t = some (.slice e)) (h2 : P.info? e = some i) (h3 : i.zero = some z) (h4 : i.size = size) (h5 : i.bytes = bytes) (h6 : z.cells.size = size) (h7 : 0 < size)
    (ao : Option Addr) (n cap : Nat) (olds : List Value) (hs : a.eval s = .slice ao n cap) (hnone : ao = none → n = 0 ∧ cap = 0) (hold : RowIs w (.slice ao n cap) e size n olds)
    (ad : Addr) (m c : Nat) (news : List Value) (hx : a.eval x = .slice (some ad) m c) (hn : news.length = m * size) (hc : ∀ j u, news[j]? = some u → w.cell? (ad.add j) = some u) (h1c : ∀ u ∈ news, u.oneCell' = true)
    (hfull : cap < n + m) (b1 : n + m ≤ maxLen) (b2 : (n + m) * bytes ≤ 140737488355328)
    (hK : ∀ v' w', RowIs w' v' e size (n + m) (olds ++ news) → w.grownBy w' none → K (a.put o.dst v') w') : o.wp P a w K Q := by
  have := step_append_grows (P := P) (ops := #[]) (o := o) (a := a) (w := w) (K := K) (Q := Q) (E := False) hg s x t hop e i z size bytes h1 h2 h3 h4 h5 h6 h7 ao n cap olds hs hnone hold.1 hold.cells ad m c news hx hn hc h1c hfull b1 b2
    (fun v' w' hown hgr => hK v' w' (RowIs.of_owns hown) hgr)
  rwa [if_pos (by simp [Region.wanted, hg])] at this

theorem foldl_set : ∀ (L : List Value) (k off : Nat) (A : Array Value), off + k + L.length ≤ A.size →
    (L.zipIdx k).foldl (fun (cs : Array Value) (p : Value × Nat) => cs.setIfInBounds (off + p.2) p.1) A = (splice A.toList (off + k) L).toArray
  | [], k, off, A, _ => by simp [splice]
  | v :: L, k, off, A, h => by
    simp only [List.length_cons] at h
    have hl : A.toList.length = A.size := Array.length_toList
    rw [List.zipIdx_cons, List.foldl_cons, foldl_set L (k + 1) off _ (by simp; omega)]
    congr 1
    refine List.ext_getElem? fun j => ?_
    rw [splice_get _ _ _ (by simp; omega), splice_get _ _ _ (by simp; omega)]
    simp only [Array.toList_setIfInBounds, List.length_cons]
    rcases Nat.lt_trichotomy j (off + k) with hj | hj | hj
    · rw [if_neg (by omega), if_neg (by omega), List.getElem?_set_ne (by omega)]
    · subst hj
      rw [if_neg (by omega), if_pos (by omega), List.getElem?_set_self (by omega), Nat.sub_self]
      rfl
    · by_cases h2 : j < off + k + (L.length + 1)
      · rw [if_pos (by omega), if_pos (by omega), show j - (off + k) = (j - (off + (k + 1))) + 1 by omega, List.getElem?_cons_succ]
      · rw [if_neg (by omega), if_neg (by omega), List.getElem?_set_ne (by omega)]

theorem run_buildSlice_one (w : World) (T elem : TypeId) (i : TypeInfo) (z : Value) (cs : Array Value) (hu : P.underlying T = some (.slice elem)) (hi : P.info? elem = some i) (hz : i.zero = some z) (hs : i.size = cs.size) (hp : 0 < cs.size) (hb : cs.size ≤ 16777216) :
    (Instr.buildSlice T 1 #[(0, .agg cs)]).run P w = .ok (.slice (some ⟨w.heap.size, 0, none⟩) 1 1) (w.alloc (.cells cs elem (0, 0))) := by
  have hf : ∀ (A : Array Value), A.size = cs.size → Array.foldl (fun (cs : Array Value) (x : Value × Nat) => cs.setIfInBounds x.2 x.1) A cs.zipIdx = cs := fun A hA => by
    have := foldl_set cs.toList 0 0 A (by rw [Array.length_toList, hA]; omega)
    rw [← Array.foldl_toList, Array.toList_zipIdx]
    simp only [Nat.zero_add] at this
    rw [this, splice_all _ _ (by rw [Array.length_toList, Array.length_toList, hA])]
  have hne : ¬ cs = #[] := by rintro rfl; simp at hp
  have hfit : ¬ (16777216 < cs.size) := by omega
  simp [Instr.buildSlice, run_underlying hu, sizeOf, typeInfo, hi, hs, hz, zeroValue, hne, hfit, newRow, go_sem]
  congr 2
  have h2 := hf (Array.map (fun x => (match z with | Value.agg cs => cs | v => #[v])[x % (match z with | Value.agg cs => cs | v => #[v]).size]!) (Array.range cs.size)) (by simp)
  rw [Array.size_zipIdx] at h2
  exact h2
theorem wp_buildSlice_one {o : Oper} {a : Act} {w : World} {K : Act → World → Prop} {Q : Exit → Act → World → Prop} (T elem : TypeId) (x : Operand) (ho : o.op = .buildSlice T 1 #[(0, x)]) (i : TypeInfo) (z : Value) (cs : List Value) (hx : a.eval x = .agg cs.toArray)
    (hu : P.underlying T = some (.slice elem)) (hi : P.info? elem = some i) (hz : i.zero = some z) (hs : i.size = cs.length) (hp : 0 < cs.length) (hb : cs.length ≤ 16777216)
    (hK : ∀ w1, w1.heap[w.heap.size]? = some (.cells cs.toArray elem (0, 0)) → w.grownBy w1 none → K (a.put o.dst (.slice (some ⟨w.heap.size, 0, none⟩) 1 1)) w1) : o.wp P a w K Q := by
  have hr := run_buildSlice_one (P := P) w T elem i z cs.toArray hu hi hz (by simpa using hs) (by simpa using hp) (by simpa using hb)
  unfold Oper.wp execOp
  simp only [ho, List.map_toArray, List.map_cons, List.map_nil, hx, Sem.run_bind, hr, Result.andThen_ok, Sem.run_pure]
  exact hK _ (heap_alloc_new w _) (World.grownBy_alloc w _ none)
end
end Go.Proofs.Yteggldplmbegfaa
