/- Joined: Laws, Mem, DevMod, DevMod2, Dev1, Dev2, Dev3, Dev4, Dev5, Dev6, Grow, App, Dev7, Dev8, Dev9, Conv, Dev10. -/
import Derived.WalkKit
import Derived.WalkSpells
import Derived.WalkLawsBesides
import Derived.Laws.CopyOwn
import Derived.StillTailTactics
import Derived.Test.YteggldplmbegfaaProg
import Derived.Deep.QuietTactic
import Derived.BigQuiet
import Derived.Lib.Hide
import Derived.Deep.RegionHeld3
import Derived.Deep.Cut
import Derived.Deep.DeepCutAuto
import Derived.ArgAppend
import Derived.Deep.RegionLawGrows
import Derived.Lib.LazyBuf
/- Laws: LAWS for parts of rows: an aggregate that lies in the middle of a block is loaded, stored; a new variable; no condition. -/
set_option linter.unusedVariables false
set_option linter.unusedSimpArgs false
namespace Go.Proofs.Yteggldplmbegfaa
open Go.RowKit

theorem addr_add (g o j : Nat) : (⟨g, o, none⟩ : Addr).add j = ⟨g, o + j, none⟩ := by unfold Addr.add; split <;> simp_all

theorem splice_all {α : Type} (L cs : List α) (h : cs.length = L.length) : splice L 0 cs = cs := by simp [splice, h]
theorem splice_get {α : Type} (L : List α) (off : Nat) (cs : List α) (h : off + cs.length ≤ L.length) (j : Nat) : (splice L off cs)[j]? = if off ≤ j ∧ j < off + cs.length then cs[j - off]? else L[j]? := by
  unfold splice
  have ht : (L.take off).length = off := by rw [List.length_take]; omega
  rcases Nat.lt_or_ge j off with hj | hj
  · rw [List.getElem?_append_left (by omega), List.getElem?_take, if_pos hj, if_neg (by omega)]
  · rw [List.getElem?_append_right (by omega), ht]
    by_cases h2 : j < off + cs.length
    · rw [List.getElem?_append_left (by omega), if_pos ⟨hj, h2⟩]
    · rw [List.getElem?_append_right (by omega), if_neg (by omega), List.getElem?_drop]
      congr 1
      omega

section
variable {P : Program}

theorem run_isAgg (w : World) (ty : TypeId) (d : TypeDesc) (hu : P.underlying ty = some d) (hd : (match d with | .struct _ | .array _ _ => true | _ => false) = true) :
    (isAgg ty).run P w = .ok true w := by
  unfold isAgg
  rw [Sem.run_bind, run_underlying hu w]
  cases d <;> simp_all

theorem run_loadVar_mid (w : World) (g o : Nat) (t ty : TypeId) (cur : Array Value) (fr : Nat × Nat) (d : TypeDesc) (cs : List Value) (hg : w.heap[g]? = some (.cells cur t fr))
    (hu : P.underlying ty = some d) (hd : (match d with | .struct _ | .array _ _ => true | _ => false) = true) (hi : (P.info? ty).map (·.size) = some cs.length)
    (hc : ∀ j v, cs[j]? = some v → cur[o + j]? = some v) : (loadVar ty ⟨g, o, none⟩).run P w = .ok (.agg cs.toArray) w := by
  have hl : (loadCells ⟨g, o, none⟩ cs.length).run P w = .ok cs.toArray w :=
    run_loadCells_list (P := P) w ⟨g, o, none⟩ cs (fun j v hv => by rw [addr_add, cell_of_row w g (o + j) cur t fr hg]; exact hc j v hv)
  cases hq : P.info? ty with
  | none => simp [hq] at hi
  | some i =>
    have hs : i.size = cs.length := by simpa [hq] using hi
    simp [loadVar, Sem.run_bind, run_isAgg w ty d hu hd, sizeOf, typeInfo, hq, hs, hl]

theorem wp_load_mid {o : Oper} {a : Act} {w : World} {K : Act → World → Prop} {Q : Exit → Act → World → Prop} (ty : TypeId) (x : Operand) (ho : o.op = .load ty x)
    (g off : Nat) (hx : a.eval x = .pointer (some ⟨g, off, none⟩)) (t : TypeId) (cur : Array Value) (fr : Nat × Nat) (d : TypeDesc) (cs : List Value) (hg : w.heap[g]? = some (.cells cur t fr))
    (hu : P.underlying ty = some d) (hd : (match d with | .struct _ | .array _ _ => true | _ => false) = true) (hi : (P.info? ty).map (·.size) = some cs.length)
    (hc : ∀ j v, cs[j]? = some v → cur[off + j]? = some v) (h : K (a.put o.dst (.agg cs.toArray)) w) : o.wp P a w K Q := by
  unfold Oper.wp execOp
  simp only [ho, hx, Instr.loadAt, Instr.sureAddr, Sem.run_bind, Sem.run_pure, Result.andThen_ok, run_loadVar_mid w g off t ty cur fr d cs hg hu hd hi hc]
  exact h

theorem wpList_load_mid {ops : Array Oper} {rest : List Oper} {o : Oper} {a : Act} {w : World} {Q : Exit → Act → World → Prop} (hgd : o.guard = none) (ty : TypeId) (x : Operand) (ho : o.op = .load ty x)
    (g off : Nat) (hx : a.eval x = .pointer (some ⟨g, off, none⟩)) (t : TypeId) (cur : Array Value) (fr : Nat × Nat) (d : TypeDesc) (cs : List Value) (hg : w.heap[g]? = some (.cells cur t fr))
    (hu : P.underlying ty = some d) (hd : (match d with | .struct _ | .array _ _ => true | _ => false) = true) (hi : (P.info? ty).map (·.size) = some cs.length)
    (hc : ∀ j v, cs[j]? = some v → cur[off + j]? = some v) (h : wpList P ops Q rest (a.put o.dst (.agg cs.toArray)) w) : wpList P ops Q (o :: rest) a w :=
  wpList_plain hgd fun _ hK => wp_load_mid ty x ho g off hx t cur fr d cs hg hu hd hi hc (hK _ _ h)

theorem run_storeVar_mid (w : World) (g o : Nat) (t ty : TypeId) (cur : Array Value) (cs : List Value) (hg : w.heap[g]? = some (.cells cur t (0, 0)))
    (hi : (P.info? ty).map (·.size) = some cs.length) (hfit : o + cs.length ≤ cur.size) (h1 : ∀ v ∈ cs, v.oneCell' = true) :
    (storeVar ty ⟨g, o, none⟩ (.agg cs.toArray)).run P w = .ok () (w.setRow g (splice cur.toList o cs).toArray) := by
  have hst := run_storeCells_at P g o t cs 0 cur w hg (by simpa using hfit) h1
  cases hq : P.info? ty with
  | none => simp [hq] at hi
  | some i =>
    have hs : i.size = cs.length := by simpa [hq] using hi
    simp [storeVar, Sem.run_bind, sizeOf, typeInfo, hq, hs, Value.cells, hst, splice]

/-- A store of an aggregate into the middle of a row: the world behind it is told by its blocks. -/
theorem wp_store_mid {o : Oper} {a : Act} {w : World} {K : Act → World → Prop} {Q : Exit → Act → World → Prop} (ty : TypeId) (x y : Operand) (ho : o.op = .store ty x y) (hd : o.dst = none)
    (g off : Nat) (hx : a.eval x = .pointer (some ⟨g, off, none⟩)) (cs : List Value) (hy : a.eval y = .agg cs.toArray) (t : TypeId) (cur : Array Value) (hg : w.heap[g]? = some (.cells cur t (0, 0)))
    (hi : (P.info? ty).map (·.size) = some cs.length) (hfit : off + cs.length ≤ cur.size) (h1 : ∀ v ∈ cs, v.oneCell' = true)
    (h : ∀ w1, w1.heap[g]? = some (.cells (splice cur.toList off cs).toArray t (0, 0)) → w.grownBy w1 (some g) → w1.heap.size = w.heap.size → K a w1) : o.wp P a w K Q := by
  unfold Oper.wp execOp
  simp only [ho, hx, hy, Instr.storeAt, Instr.sureAddr, Sem.run_bind, Sem.run_pure, Result.andThen_ok, run_storeVar_mid w g off t ty cur cs hg hi hfit h1]
  have := h (w.setRow g (splice cur.toList off cs).toArray) (setRow_heap w g _ _ t _ hg)
    ⟨rfl, rfl, rfl, by simp [World.setRow], fun k _ hne => by simp only [World.setRow, Array.getElem?_modify]; rw [if_neg (fun e => hne (by rw [e]))]⟩ (by simp [World.setRow])
  simpa [Oper.upon, Act.put, hd] using this

theorem wpList_store_mid {ops : Array Oper} {rest : List Oper} {o : Oper} {a : Act} {w : World} {Q : Exit → Act → World → Prop} (hgd : o.guard = none) (hd : o.dst = none) (ty : TypeId) (x y : Operand) (ho : o.op = .store ty x y)
    (g off : Nat) (hx : a.eval x = .pointer (some ⟨g, off, none⟩)) (cs : List Value) (hy : a.eval y = .agg cs.toArray) (t : TypeId) (cur : Array Value) (hg : w.heap[g]? = some (.cells cur t (0, 0)))
    (hi : (P.info? ty).map (·.size) = some cs.length) (hfit : off + cs.length ≤ cur.size) (h1 : ∀ v ∈ cs, v.oneCell' = true)
    (h : ∀ w1, w1.heap[g]? = some (.cells (splice cur.toList off cs).toArray t (0, 0)) → w.grownBy w1 (some g) → w1.heap.size = w.heap.size → wpList P ops Q rest a w1) : wpList P ops Q (o :: rest) a w :=
  wpList_plain hgd fun _ hK => wp_store_mid ty x y ho hd g off hx cs hy t cur hg hi hfit h1 fun w1 p q r => hK _ _ (h w1 p q r)
/-- A new variable of a type whose zero is a row of cells. -/
theorem wp_alloc_row {o : Oper} {a : Act} {w : World} {K : Act → World → Prop} {Q : Exit → Act → World → Prop} (ty : TypeId) (ho : o.op = .alloc ty) (z : Array Value)
    (hz : (P.info? ty).map (·.zero) = some (some (.agg z)))
    (h : ∀ w1, w1.heap[w.heap.size]? = some (.cells z ty (0, 0)) → w.grownBy w1 none → w1.heap.size = w.heap.size + 1 → K (a.put o.dst (.pointer (some ⟨w.heap.size, 0, none⟩))) w1) : o.wp P a w K Q := by
  have hr : (Instr.alloc ty true (.tuple #[])).run P w = .ok (.pointer (some ⟨w.heap.size, 0, none⟩)) (w.alloc (.cells z ty)) := by
    cases hq : P.info? ty with
    | none => simp [hq] at hz
    | some i =>
      have hi : i.zero = some (.agg z) := by simpa [hq] using hz
      simp [Instr.alloc, zeroValue, typeInfo, hq, hi, newVar, newRow, Value.cells, go_sem]
  unfold Oper.wp execOp
  simp only [ho, Sem.run_bind, hr, Result.andThen_ok, Sem.run_pure]
  exact h _ (heap_alloc_new w _) (World.grownBy_alloc w _ none) (by simp)

theorem wpList_alloc_row {ops : Array Oper} {rest : List Oper} {o : Oper} {a : Act} {w : World} {Q : Exit → Act → World → Prop} (hgd : o.guard = none) (ty : TypeId) (ho : o.op = .alloc ty) (z : Array Value)
    (hz : (P.info? ty).map (·.zero) = some (some (.agg z)))
    (h : ∀ w1, w1.heap[w.heap.size]? = some (.cells z ty (0, 0)) → w.grownBy w1 none → w1.heap.size = w.heap.size + 1 → wpList P ops Q rest (a.put o.dst (.pointer (some ⟨w.heap.size, 0, none⟩))) w1) : wpList P ops Q (o :: rest) a w :=
  wpList_plain hgd fun _ hK => wp_alloc_row ty ho z hz fun w1 p q r => hK _ _ (h w1 p q r)
/-- 'copy' into the middle of a row. -/
theorem wp_copy_mid {o : Oper} {a : Act} {w : World} {K : Act → World → Prop} {Q : Exit → Act → World → Prop} (d s : Operand) (dT sT : TypeId)
    (ho : o.op = .call { callee := .builtin .copy, args := #[d, s], argTypes := #[dT, sT] }) (elem : TypeId) (hu : P.underlying dT = some (.slice elem)) (hsz : (P.info? elem).map (·.size) = some 1)
    (g off dLen dCap : Nat) (hd : a.eval d = .slice (some ⟨g, off, none⟩) dLen dCap) (ad : Addr) (sLen sCap : Nat) (hs : a.eval s = .slice (some ad) sLen sCap)
    (cur : Array Value) (t : TypeId) (hg : w.heap[g]? = some (.cells cur t (0, 0))) (cs : List Value) (hn : cs.length = Nat.min sLen dLen)
    (hsrc : ∀ j v, cs[j]? = some v → w.cell? (ad.add j) = some v) (hfit : off + cs.length ≤ cur.size) (h1 : ∀ v ∈ cs, v.oneCell' = true)
    (h : ∀ w1, w1.heap[g]? = some (.cells (splice cur.toList off cs).toArray t (0, 0)) → w.grownBy w1 (some g) → w1.heap.size = w.heap.size → K (a.put o.dst (goInt cs.length)) w1) : o.wp P a w K Q := by
  have hr := run_copy_row (P := P) w dT sT o.type elem g off dLen dCap ad sLen sCap cur t cs hu hsz hg hn hsrc hfit h1
  unfold Oper.wp execOp
  simp only [ho, resolve, invoke, builtin, Sem.run_bind, Sem.run_pure, Result.andThen_ok, List.map_toArray, List.map_cons, List.map_nil, hd, hs, hr]
  have := h (w.setRow g (splice cur.toList off cs).toArray) (setRow_heap w g _ _ t _ hg)
    ⟨rfl, rfl, rfl, by simp [World.setRow], fun k _ hne => by simp only [World.setRow, Array.getElem?_modify]; rw [if_neg (fun e => hne (by rw [e]))]⟩ (by simp [World.setRow])
  rw [Oper.upon_value]
  simpa [splice] using this

theorem wpList_copy_mid {ops : Array Oper} {rest : List Oper} {o : Oper} {a : Act} {w : World} {Q : Exit → Act → World → Prop} (hgd : o.guard = none) (d s : Operand) (dT sT : TypeId)
    (ho : o.op = .call { callee := .builtin .copy, args := #[d, s], argTypes := #[dT, sT] }) (elem : TypeId) (hu : P.underlying dT = some (.slice elem)) (hsz : (P.info? elem).map (·.size) = some 1)
    (g off dLen dCap : Nat) (hd : a.eval d = .slice (some ⟨g, off, none⟩) dLen dCap) (ad : Addr) (sLen sCap : Nat) (hs : a.eval s = .slice (some ad) sLen sCap)
    (cur : Array Value) (t : TypeId) (hg : w.heap[g]? = some (.cells cur t (0, 0))) (cs : List Value) (hn : cs.length = Nat.min sLen dLen)
    (hsrc : ∀ j v, cs[j]? = some v → w.cell? (ad.add j) = some v) (hfit : off + cs.length ≤ cur.size) (h1 : ∀ v ∈ cs, v.oneCell' = true)
    (h : ∀ w1, w1.heap[g]? = some (.cells (splice cur.toList off cs).toArray t (0, 0)) → w.grownBy w1 (some g) → w1.heap.size = w.heap.size → wpList P ops Q rest (a.put o.dst (goInt cs.length)) w1) : wpList P ops Q (o :: rest) a w :=
  wpList_plain hgd fun _ hK => wp_copy_mid d s dT sT ho elem hu hsz g off dLen dCap hd ad sLen sCap hs cur t hg cs hn hsrc hfit h1 fun w1 p q r => hK _ _ (h w1 p q r)
/-- An aggregate is loaded in a region that draws its order and otherwise only reads. -/
theorem wpStill_load_mid {ops : Array Oper} {rest : List Oper} {o : Oper} {a : Act} {w : World} {Q : Act → Prop} (hgd : o.guard = none) (ty : TypeId) (x : Operand) (ho : o.op = .load ty x)
    (g off : Nat) (hx : a.eval x = .pointer (some ⟨g, off, none⟩)) (t : TypeId) (cur : Array Value) (fr : Nat × Nat) (d : TypeDesc) (cs : List Value) (hg : w.heap[g]? = some (.cells cur t fr))
    (hu : P.underlying ty = some d) (hd : (match d with | .struct _ | .array _ _ => true | _ => false) = true) (hi : (P.info? ty).map (·.size) = some cs.length)
    (hc : ∀ j v, cs[j]? = some v → cur[off + j]? = some v) (h : wpStill P ops w Q rest (a.put o.dst (.agg cs.toArray))) : wpStill P ops w Q (o :: rest) a := by
  refine wpStill_step fun K hK => ?_
  rw [if_pos (by simp [Region.wanted, hgd])]
  unfold Oper.still execOp
  simp only [ho, hx, Instr.loadAt, Instr.sureAddr, Sem.run_bind, Sem.run_pure, Result.andThen_ok, run_loadVar_mid w g off t ty cur fr d cs hg hu hd hi hc, Oper.stillUpon_value]
  exact hK _ h
end
end Go.Proofs.Yteggldplmbegfaa

/- Mem: WORDS FOR MEMORY: what a slice reads as; what may have turned between two worlds; bytes, sectors. No condition. -/
set_option linter.unusedVariables false
set_option linter.unusedSimpArgs false
namespace Go.Proofs.Yteggldplmbegfaa
open Go.RowKit

/-- A slice value of n elements (type T, sz cells each) reads as these cells. -/
def RowIs (w : World) (v : Value) (T : TypeId) (sz n : Nat) (cells : List Value) : Prop :=
  cells.length = n * sz ∧ ((n = 0 ∧ ∃ A c, v = .slice A 0 c) ∨
    ∃ g o c cur fr, v = .slice (some ⟨g, o, none⟩) n c ∧ n ≤ c ∧ w.heap[g]? = some (.cells cur T fr) ∧ ∀ j x, cells[j]? = some x → cur[o + j]? = some x)

/-- Between the worlds the listed blocks alone may have turned; new ones may have come. -/
structure Fr (w w' : World) (S : List Nat) : Prop where
  os : w'.os = w.os
  tape : w'.tape = w.tape
  output : w'.output = w.output
  size : w.heap.size ≤ w'.heap.size
  block : ∀ k, k < w.heap.size → k ∉ S → w'.heap[k]? = w.heap[k]?

theorem Fr.refl (w : World) (S : List Nat) : Fr w w S := ⟨rfl, rfl, rfl, Nat.le_refl _, fun _ _ _ => rfl⟩
theorem Fr.trans {a b c : World} {S : List Nat} (h : Fr a b S) (k : Fr b c S) : Fr a c S :=
  ⟨k.os.trans h.os, k.tape.trans h.tape, k.output.trans h.output, Nat.le_trans h.size k.size, fun i hi hn => (k.block i (Nat.lt_of_lt_of_le hi h.size) hn).trans (h.block i hi hn)⟩
theorem Fr.mono {a b : World} {S S' : List Nat} (h : Fr a b S) (hs : ∀ k ∈ S, k ∈ S') : Fr a b S' :=
  ⟨h.os, h.tape, h.output, h.size, fun i hi hn => h.block i hi (fun e => hn (hs i e))⟩
theorem Fr.grown {a b c : World} {S : List Nat} {row : Option Nat} (h : Fr a b S) (hg : b.grownBy c row) (hr : ∀ k, row = some k → k ∈ S ∨ a.heap.size ≤ k) : Fr a c S :=
  ⟨hg.os.trans h.os, hg.tape.trans h.tape, hg.output.trans h.output, Nat.le_trans h.size hg.size, fun i hi hn =>
    (hg.block i (Nat.lt_of_lt_of_le hi h.size) (fun e => by rcases hr i e.symm with h1 | h1; exact hn h1; omega)).trans (h.block i hi hn)⟩
theorem Fr.below {a b c : World} {S : List Nat} (h : Fr a b S) (hb : Below b.heap.size b c) : Fr a c S :=
  ⟨hb.os.trans h.os, hb.tape.trans h.tape, hb.output.trans h.output, Nat.le_trans h.size hb.size, fun i hi hn => (hb.block i (Nat.lt_of_lt_of_le hi h.size)).trans (h.block i hi hn)⟩
theorem Fr.below_iff {a b : World} : Fr a b [] ↔ Below a.heap.size a b :=
  ⟨fun h => ⟨h.os, h.tape, h.output, h.size, fun k hk => h.block k hk (by simp)⟩, fun h => ⟨h.os, h.tape, h.output, h.size, fun k hk _ => h.block k hk⟩⟩
theorem Fr.drew {a b : World} {S : List Nat} (h : Fr a b S) : Fr a b.drew S := ⟨h.os, h.tape, h.output, h.size, h.block⟩
theorem Fr.drewN {a b : World} {S : List Nat} (h : Fr a b S) (n : Nat) : Fr a (b.drewN n) S := ⟨h.os, h.tape, h.output, h.size, h.block⟩
/-- What is written is new, seen from the first world. -/
theorem Fr.strip {a b : World} {S S' : List Nat} (h : Fr a b S) (hs : ∀ k ∈ S, k ∈ S' ∨ a.heap.size ≤ k) : Fr a b S' :=
  ⟨h.os, h.tape, h.output, h.size, fun i hi hn => h.block i hi (fun e => by rcases hs i e with h1 | h1; exact hn h1; omega)⟩
theorem Fr.then {a b c : World} {S S' : List Nat} (h : Fr a b S) (k : Fr b c S') (hs : ∀ x ∈ S', x ∈ S ∨ a.heap.size ≤ x) : Fr a c S :=
  ⟨k.os.trans h.os, k.tape.trans h.tape, k.output.trans h.output, Nat.le_trans h.size k.size, fun i hi hn =>
    (k.block i (Nat.lt_of_lt_of_le hi h.size) (fun e => by rcases hs i e with h1 | h1; exact hn h1; omega)).trans (h.block i hi hn)⟩

theorem lt_of_heap {w : World} {k : Nat} {o : Obj} (h : w.heap[k]? = some o) : k < w.heap.size := (Array.getElem?_eq_some_iff.1 h).1
theorem Fr.keep {w w' : World} {S : List Nat} (h : Fr w w' S) {k : Nat} {o : Obj} (hk : w.heap[k]? = some o) (hn : k ∉ S) : w'.heap[k]? = some o := (h.block k (lt_of_heap hk) hn).trans hk
theorem grown_keep {w w' : World} {row : Option Nat} (h : w.grownBy w' row) {k : Nat} {o : Obj} (hk : w.heap[k]? = some o) (hn : some k ≠ row) : w'.heap[k]? = some o := (h.block k (lt_of_heap hk) hn).trans hk
/-- Blocks of unlike types are not one. -/
theorem typ_ne {w : World} {k b : Nat} {c1 c2 : Array Value} {T1 T2 : TypeId} {f1 f2 : Nat × Nat} (h1 : w.heap[k]? = some (.cells c1 T1 f1)) (h2 : w.heap[b]? = some (.cells c2 T2 f2)) (hT : T1 ≠ T2) : k ≠ b := by
  rintro rfl
  rw [h1] at h2
  simp at h2
  exact hT h2.2.1

theorem RowIs.move {w w' : World} {v : Value} {T : TypeId} {sz n : Nat} {cs : List Value} (h : RowIs w v T sz n cs)
    (hm : ∀ (g : Nat) (cur : Array Value) (fr : Nat × Nat), w.heap[g]? = some (Obj.cells cur T fr) → w'.heap[g]? = w.heap[g]?) : RowIs w' v T sz n cs := by
  refine ⟨h.1, ?_⟩
  rcases h.2 with h0 | ⟨g, o, c, cur, fr, rfl, hc, hg, hx⟩
  · exact .inl h0
  · exact .inr ⟨g, o, c, cur, fr, rfl, hc, (hm g cur fr hg).trans hg, hx⟩
theorem RowIs.grown {w w' : World} {v : Value} {T : TypeId} {sz n : Nat} {cs : List Value} (h : RowIs w v T sz n cs) (hg : w.grownBy w' none) : RowIs w' v T sz n cs :=
  h.move fun g cur fr hh => hg.block g (lt_of_heap hh) (by simp)
theorem RowIs.below {w w' : World} {v : Value} {T : TypeId} {sz n : Nat} {cs : List Value} (h : RowIs w v T sz n cs) (hb : Below w.heap.size w w') : RowIs w' v T sz n cs :=
  h.move fun g cur fr hh => hb.block g (lt_of_heap hh)
/-- Another block, of another type, is written. -/
theorem RowIs.other {w w' : World} {v : Value} {T : TypeId} {sz n : Nat} {cs : List Value} (h : RowIs w v T sz n cs) {S : List Nat} (hf : Fr w w' S)
    (hS : ∀ b ∈ S, w.heap.size ≤ b ∨ ∃ c2 T2 f2, w.heap[b]? = some (.cells c2 T2 f2) ∧ T ≠ T2) : RowIs w' v T sz n cs :=
  h.move fun g cur fr hh => hf.block g (lt_of_heap hh) (fun hm => by
    rcases hS g hm with h1 | ⟨c2, T2, f2, h2, hne⟩
    · have := lt_of_heap hh; omega
    · exact typ_ne hh h2 hne rfl)
/-- The slice's row is none of these blocks. -/
def OffB (v : Value) (n : Nat) (S : List Nat) : Prop := n = 0 ∨ ∀ (a : Addr) (m c : Nat), v = .slice (some a) m c → a.block ∉ S
theorem RowIs.apart {w w' : World} {v : Value} {T : TypeId} {sz n : Nat} {cs : List Value} (h : RowIs w v T sz n cs) {S : List Nat} (hf : Fr w w' S) (ho : OffB v n S) : RowIs w' v T sz n cs := by
  refine ⟨h.1, ?_⟩
  rcases h.2 with h0 | ⟨g, o, c, cur, fr, rfl, hc, hg, hx⟩
  · exact .inl h0
  · rcases ho with rfl | ho
    · exact .inl ⟨rfl, _, _, rfl⟩
    · exact .inr ⟨g, o, c, cur, fr, rfl, hc, hf.keep hg (ho _ _ _ rfl), hx⟩
theorem RowIs.offB {w : World} {v : Value} {T : TypeId} {sz n : Nat} {cs : List Value} (h : RowIs w v T sz n cs) {S : List Nat}
    (hS : ∀ b ∈ S, w.heap.size ≤ b ∨ ∃ c2 T2 f2, w.heap[b]? = some (.cells c2 T2 f2) ∧ T ≠ T2) : OffB v n S := by
  rcases h.2 with ⟨rfl, _⟩ | ⟨g, o, c, cur, fr, rfl, hc, hg, hx⟩
  · exact .inl rfl
  · refine .inr fun a m c' he hm => ?_
    simp only [Value.slice.injEq, Option.some.injEq] at he
    obtain ⟨rfl, _, _⟩ := he
    rcases hS _ hm with h1 | ⟨c2, T2, f2, h2, hne⟩
    · have := lt_of_heap hg; simp only at h1; omega
    · exact typ_ne hg h2 hne rfl
theorem RowIs.nil (w : World) (T : TypeId) (sz : Nat) (A : Option Addr) (c : Nat) : RowIs w (.slice A 0 c) T sz 0 [] := ⟨by simp, .inl ⟨rfl, A, c, rfl⟩⟩
theorem RowIs.shape {w : World} {v : Value} {T : TypeId} {sz n : Nat} {cs : List Value} (h : RowIs w v T sz n cs) : ∃ A c, v = .slice A n c := by
  rcases h.2 with ⟨rfl, A, c, rfl⟩ | ⟨g, o, c, cur, fr, rfl, _⟩
  · exact ⟨A, c, rfl⟩
  · exact ⟨_, c, rfl⟩

/-! ### Bytes -/
def bv (l : List UInt8) : List Value := l.map fun c => .int .u8 (c.toNat : Int)
theorem bv_length (l : List UInt8) : (bv l).length = l.length := by simp [bv]
theorem bv_one (l : List UInt8) : ∀ v ∈ bv l, v.oneCell' = true := by
  intro v hv
  simp only [bv, List.mem_map] at hv
  obtain ⟨c, _, rfl⟩ := hv
  rfl
theorem bv_get (l : List UInt8) (j : Nat) : (bv l)[j]? = (l[j]?).map fun c => .int .u8 (c.toNat : Int) := by simp [bv]
def iv (l : List Int) : List Value := l.map fun n => .int .i64 n
theorem iv_length (l : List Int) : (iv l).length = l.length := by simp [iv]

/-- The cells of a row of elements of n cells each. -/
theorem flatten_get {α : Type} (n : Nat) : ∀ (L : List (List α)), (∀ l ∈ L, l.length = n) → ∀ (i j : Nat), j < n → (L.flatten)[i * n + j]? = (L[i]?).bind (·[j]?)
  | [], _, i, j, _ => by simp
  | l :: L, h, 0, j, hj => by
    have hl := h l (by simp)
    simp [List.getElem?_append_left (by omega : j < l.length)]
  | l :: L, h, i + 1, j, hj => by
    have hl := h l (by simp)
    have e : (i + 1) * n + j = l.length + (i * n + j) := by rw [hl, Nat.add_mul]; omega
    have ih := flatten_get n L (fun x hx => h x (by simp [hx])) i j hj
    simp only [List.flatten_cons, List.getElem?_cons_succ]
    rw [e, List.getElem?_append_right (by omega), Nat.add_sub_cancel_left]
    exact ih
theorem flatten_len {α : Type} (n : Nat) : ∀ (L : List (List α)), (∀ l ∈ L, l.length = n) → L.flatten.length = L.length * n
  | [], _ => by simp
  | l :: L, h => by
    have := flatten_len n L (fun x hx => h x (by simp [hx]))
    have hl := h l (by simp)
    simp only [List.flatten_cons, List.length_append, List.length_cons, Nat.add_mul, this, hl]
    omega
/-- One element of such a row is written. -/
theorem splice_flatten {α : Type} (n : Nat) : ∀ (L : List (List α)), (∀ l ∈ L, l.length = n) → ∀ (i : Nat), i < L.length → ∀ (off : Nat) (cs : List α), off + cs.length ≤ n →
    splice L.flatten (i * n + off) cs = (L.set i (splice (L.getD i []) off cs)).flatten
  | [], _, i, hi, _, _, _ => by simp at hi
  | l :: L, h, 0, _, off, cs, ho => by
    have hl := h l (by simp)
    simp only [splice, List.flatten_cons, Nat.zero_mul, Nat.zero_add, List.set_cons_zero, List.getD_cons_zero]
    rw [List.take_append_of_le_length (by omega), List.drop_append_of_le_length (by omega)]
    simp [List.append_assoc]
  | l :: L, h, i + 1, hi, off, cs, ho => by
    have hl := h l (by simp)
    have ih := splice_flatten n L (fun x hx => h x (by simp [hx])) i (by simpa using hi) off cs ho
    have e : (i + 1) * n + off = l.length + (i * n + off) := by rw [hl, Nat.add_mul]; omega
    simp only [List.flatten_cons, List.set_cons_succ, List.getD_cons_succ]
    rw [← ih, e]
    simp only [splice]
    rw [List.take_length_add_append, Nat.add_assoc, List.drop_length_add_append]
    simp [List.append_assoc]
end Go.Proofs.Yteggldplmbegfaa

/- DevMod: THE DEVICE, as data: sectors as they surely are, writes that aren't sure, what is planned; and what each of its methods makes of it. No Go here. -/
namespace Go.Proofs.Yteggldplmbegfaa

structure Dev where
  sure : List (List UInt8)
  loose : List (Nat × List UInt8)
  left : Int
  kept : List Int
  torn : Int
  half : Int
  changes : Int
  off : Bool

def Dev.tear (kept : List Int) (torn half : Int) (k : Nat) : Nat :=
  if (k : Int) ∈ kept then 256 else if torn = k then (max 0 (min half 256)).toNat else 0
/-- One loose write at a cut, n bytes of it. -/
def Dev.lay (sure : List (List UInt8)) (p : Nat × List UInt8) (n : Nat) : List (List UInt8) := sure.set p.1 (p.2.take n ++ (sure.getD p.1 []).drop n)
def Dev.cutFrom (kept : List Int) (torn half : Int) : Nat → List (Nat × List UInt8) → List (List UInt8) → List (List UInt8)
  | _, [], s => s
  | k, p :: l, s => Dev.cutFrom kept torn half (k + 1) l (Dev.lay s p (Dev.tear kept torn half k))
def Dev.cut (D : Dev) (kept : List Int) (torn half : Int) : Dev :=
  if D.off then D else { D with sure := Dev.cutFrom kept torn half 0 D.loose D.sure, loose := [], left := -1, off := true }
def Dev.change (D : Dev) : Dev × Int :=
  if D.left < 0 then ({ D with changes := D.changes + 1 }, 0)
  else if D.left = 0 then (({ D with changes := D.changes + 1, left := -1 } : Dev).cut D.kept D.torn D.half, 6)
  else ({ D with changes := D.changes + 1, left := D.left - 1 }, 0)
def Dev.settle : List (Nat × List UInt8) → List (List UInt8) → List (List UInt8)
  | [], s => s
  | p :: l, s => Dev.settle l (s.set p.1 p.2)
def Dev.may (D : Dev) (i : Int) : Int := if D.off then 6 else if i < 0 ∨ (D.sure.length : Int) ≤ i then 2 else 0
def Dev.barrier (D : Dev) : Dev × Int :=
  if D.off then (D, 6) else if D.change.2 = 0 then ({ D.change.1 with sure := Dev.settle D.change.1.loose D.change.1.sure, loose := [] }, 0) else D.change
def Dev.write (D : Dev) (i : Int) (b : List UInt8) : Dev × Int :=
  if D.may i ≠ 0 then (D, D.may i) else if b.length ≠ 256 then (D, 1) else ({ D with loose := D.loose ++ [(i.toNat, b)] } : Dev).change
def Dev.now : List (Nat × List UInt8) → Nat → List UInt8 → List UInt8
  | [], _, s => s
  | p :: l, i, s => Dev.now l i (if p.1 = i then p.2 else s)
def Dev.plan (D : Dev) (after : Int) (kept : List Int) (torn half : Int) : Dev := { D with left := max after (-1), kept, torn, half }
/-- A sector of noughts. -/
def zsec : List UInt8 := List.replicate 256 0
theorem zsec_length : zsec.length = 256 := by unfold zsec; exact List.length_replicate
def Dev.fresh (n : Nat) : Dev := { sure := List.replicate n zsec, loose := [], left := -1, kept := [], torn := 0, half := 0, changes := 0, off := false }

/-- What holds of every device that there is. -/
structure Dev.Wf (D : Dev) : Prop where
  lo : 1 ≤ D.sure.length
  hi : D.sure.length ≤ 4096
  full : ∀ s ∈ D.sure, s.length = 256
  loose : ∀ p ∈ D.loose, p.1 < D.sure.length ∧ p.2.length = 256
  left : -1 ≤ D.left ∧ D.left ≤ 9223372036854775807
  torn : -9223372036854775808 ≤ D.torn ∧ D.torn ≤ 9223372036854775807
  half : -9223372036854775808 ≤ D.half ∧ D.half ≤ 9223372036854775807
  many : (D.loose.length : Int) ≤ D.changes + 1
  changes : 0 ≤ D.changes ∧ D.changes ≤ 1000000000

theorem Dev.lay_wf {s : List (List UInt8)} {p : Nat × List UInt8} {n : Nat} (hn : n ≤ 256) (hs : ∀ x ∈ s, x.length = 256) (hp : p.1 < s.length ∧ p.2.length = 256) :
    (Dev.lay s p n).length = s.length ∧ ∀ x ∈ Dev.lay s p n, x.length = 256 := by
  refine ⟨by simp [Dev.lay], fun x hx => ?_⟩
  rcases List.mem_or_eq_of_mem_set hx with h | rfl
  · exact hs x h
  · have := hs (s.getD p.1 []) (by rw [List.getD_eq_getElem?_getD, List.getElem?_eq_getElem hp.1]; simp)
    simp only [List.length_append, List.length_take, List.length_drop, this, hp.2]
    omega
theorem Dev.tear_le (kept : List Int) (torn half : Int) (k : Nat) : Dev.tear kept torn half k ≤ 256 := by
  unfold Dev.tear
  split
  · omega
  · split <;> omega
theorem Dev.cutFrom_wf (kept : List Int) (torn half : Int) : ∀ (l : List (Nat × List UInt8)) (k : Nat) (s : List (List UInt8)), (∀ x ∈ s, x.length = 256) → (∀ p ∈ l, p.1 < s.length ∧ p.2.length = 256) →
    (Dev.cutFrom kept torn half k l s).length = s.length ∧ ∀ x ∈ Dev.cutFrom kept torn half k l s, x.length = 256
  | [], k, s, hs, _ => ⟨rfl, hs⟩
  | p :: l, k, s, hs, hl => by
    have h1 := Dev.lay_wf (Dev.tear_le kept torn half k) hs (hl p (by simp))
    have h2 := Dev.cutFrom_wf kept torn half l (k + 1) _ h1.2 (fun q hq => by rw [h1.1]; exact hl q (by simp [hq]))
    exact ⟨h2.1.trans h1.1, h2.2⟩
theorem Dev.settle_wf : ∀ (l : List (Nat × List UInt8)) (s : List (List UInt8)), (∀ x ∈ s, x.length = 256) → (∀ p ∈ l, p.1 < s.length ∧ p.2.length = 256) →
    (Dev.settle l s).length = s.length ∧ ∀ x ∈ Dev.settle l s, x.length = 256
  | [], s, hs, _ => ⟨rfl, hs⟩
  | p :: l, s, hs, hl => by
    have hp := hl p (by simp)
    have h2 := Dev.settle_wf l (s.set p.1 p.2) (fun x hx => by rcases List.mem_or_eq_of_mem_set hx with h | rfl; exact hs x h; exact hp.2) (fun q hq => by rw [List.length_set]; exact hl q (by simp [hq]))
    exact ⟨h2.1.trans (by simp), h2.2⟩
theorem Dev.cut_wf {D : Dev} (h : D.Wf) (kept : List Int) (torn half : Int) : (D.cut kept torn half).Wf := by
  unfold Dev.cut
  split
  · exact h
  · have h1 := Dev.cutFrom_wf kept torn half D.loose 0 D.sure h.full h.loose
    have hc := h.changes
    exact ⟨by simp only [h1.1]; exact h.lo, by simp only [h1.1]; exact h.hi, h1.2, by simp, by simp, h.torn, h.half, by simp; omega, h.changes⟩
/-- A device between two calls: no more is loose than was written. -/
structure Dev.Ok (D : Dev) : Prop where
  wf : D.Wf
  many : (D.loose.length : Int) ≤ D.changes
  keptb : D.kept.length ≤ 1000000000000
theorem Dev.cut_ok {D : Dev} (h : D.Ok) (kept : List Int) (torn half : Int) : (D.cut kept torn half).Ok := by
  refine ⟨Dev.cut_wf h.wf _ _ _, ?_, ?_⟩
  · have := h.many
    have := h.wf.changes
    unfold Dev.cut
    split
    · omega
    · simp; omega
  · unfold Dev.cut
    split <;> exact h.keptb
/-- A change; that of a write counts a loose one more. -/
theorem Dev.change_ok {D : Dev} (h : D.Wf) (hc : D.changes < 1000000000) (hk : D.kept.length ≤ 1000000000000) : D.change.1.Ok := by
  have hl := h.left
  have hm := h.many
  have hg := h.changes
  unfold Dev.change
  split
  · exact ⟨⟨h.lo, h.hi, h.full, h.loose, h.left, h.torn, h.half, by first | omega | (simp only; omega), by first | omega | (simp only; omega)⟩, by first | omega | (simp only; omega), hk⟩
  · split
    · have hD : ({ D with changes := D.changes + 1, left := -1 } : Dev).Ok := ⟨⟨h.lo, h.hi, h.full, h.loose, by simp, h.torn, h.half, by simp only; omega, by simp only; omega⟩, by simp only; omega, hk⟩
      exact Dev.cut_ok hD _ _ _
    · exact ⟨⟨h.lo, h.hi, h.full, h.loose, by first | omega | (simp only; omega), h.torn, h.half, by first | omega | (simp only; omega), by first | omega | (simp only; omega)⟩, by first | omega | (simp only; omega), hk⟩
theorem Dev.may_zero {D : Dev} {i : Int} (h : D.may i = 0) : D.off = false ∧ 0 ≤ i ∧ i < D.sure.length := by
  unfold Dev.may at h
  split at h
  · simp at h
  · split at h
    · simp at h
    · rename_i h1 h2
      exact ⟨by simpa using h1, by omega, by omega⟩
theorem Dev.write_ok {D : Dev} (h : D.Ok) (hc : D.changes < 1000000000) (i : Int) (b : List UInt8) : (D.write i b).1.Ok := by
  unfold Dev.write
  split
  · exact h
  · split
    · exact h
    · rename_i h1 h2
      obtain ⟨h3, h4, h5⟩ := Dev.may_zero (by simpa using h1)
      have hm := h.many
      refine Dev.change_ok ⟨h.wf.lo, h.wf.hi, h.wf.full, fun p hp => ?_, h.wf.left, h.wf.torn, h.wf.half, by simp; omega, h.wf.changes⟩ hc h.keptb
      rcases List.mem_append.1 hp with h6 | h6
      · exact h.wf.loose p h6
      · simp at h6
        subst h6
        exact ⟨by first | omega | (simp only; omega), by simpa using h2⟩
theorem Dev.barrier_ok {D : Dev} (h : D.Ok) (hc : D.changes < 1000000000) : D.barrier.1.Ok := by
  unfold Dev.barrier
  split
  · exact h
  · have h1 := Dev.change_ok h.wf hc h.keptb
    split
    · have h2 := Dev.settle_wf D.change.1.loose D.change.1.sure h1.wf.full h1.wf.loose
      have h3 := h1.wf.changes
      exact ⟨⟨by simp only [h2.1]; exact h1.wf.lo, by simp only [h2.1]; exact h1.wf.hi, h2.2, by simp, h1.wf.left, h1.wf.torn, h1.wf.half, by simp; omega, h3⟩, by simp; omega, h1.keptb⟩
    · exact h1
theorem Dev.plan_ok {D : Dev} (h : D.Ok) (after : Int) (kept : List Int) (torn half : Int) (ha : after ≤ 9223372036854775807) (ht : -9223372036854775808 ≤ torn ∧ torn ≤ 9223372036854775807)
    (hh : -9223372036854775808 ≤ half ∧ half ≤ 9223372036854775807) (hk : kept.length ≤ 1000000000000) : (D.plan after kept torn half).Ok :=
  ⟨⟨h.wf.lo, h.wf.hi, h.wf.full, h.wf.loose, by simp only [Dev.plan]; omega, ht, hh, h.wf.many, h.wf.changes⟩, h.many, hk⟩
theorem Dev.fresh_ok (n : Nat) (h1 : 1 ≤ n) (h2 : n ≤ 4096) : (Dev.fresh n).Ok :=
  ⟨⟨by simpa [Dev.fresh] using h1, by simpa [Dev.fresh] using h2, fun s hs => by simp only [Dev.fresh, List.mem_replicate] at hs; rw [hs.2]; exact zsec_length, by simp [Dev.fresh], by simp [Dev.fresh], by simp [Dev.fresh], by simp [Dev.fresh], by simp [Dev.fresh], by simp [Dev.fresh]⟩, by simp [Dev.fresh], by simp [Dev.fresh]⟩
theorem Dev.write_calm {D : Dev} (h : D.left < 0) (ho : D.off = false) {i : Int} (h0 : 0 ≤ i) (h1 : i < D.sure.length) {b : List UInt8} (hb : b.length = 256) :
    D.write i b = ({ D with loose := D.loose ++ [(i.toNat, b)], changes := D.changes + 1 }, 0) := by
  have hm : D.may i = 0 := by simp only [Dev.may, ho]; rw [if_neg (by simp), if_neg (by omega)]
  unfold Dev.write
  rw [if_neg (by simp [hm]), if_neg (by simp [hb])]
  unfold Dev.change
  rw [if_pos (by simpa using h)]
theorem Dev.barrier_calm {D : Dev} (h : D.left < 0) (ho : D.off = false) : D.barrier = ({ D with sure := Dev.settle D.loose D.sure, loose := [], changes := D.changes + 1 }, 0) := by
  have hc : D.change = ({ D with changes := D.changes + 1 }, 0) := by unfold Dev.change; rw [if_pos h]
  unfold Dev.barrier
  rw [hc]
  simp [ho]
end Go.Proofs.Yteggldplmbegfaa

/- DevMod2: THE DEVICE, as data: how many changes, how many sectors. No Go here. -/
set_option linter.unusedVariables false
set_option linter.unusedSimpArgs false
namespace Go.Proofs.Yteggldplmbegfaa

theorem Dev.cut_changes (D : Dev) (kept : List Int) (torn half : Int) : (D.cut kept torn half).changes = D.changes := by unfold Dev.cut; split <;> rfl
theorem Dev.lay_len (s : List (List UInt8)) (p : Nat × List UInt8) (n : Nat) : (Dev.lay s p n).length = s.length := by simp [Dev.lay]
theorem Dev.cutFrom_len (kept : List Int) (torn half : Int) : ∀ (l : List (Nat × List UInt8)) (k : Nat) (s : List (List UInt8)), (Dev.cutFrom kept torn half k l s).length = s.length
  | [], _, _ => rfl
  | p :: l, k, s => (Dev.cutFrom_len kept torn half l (k + 1) _).trans (Dev.lay_len _ _ _)
theorem Dev.settle_length : ∀ (l : List (Nat × List UInt8)) (s : List (List UInt8)), (Dev.settle l s).length = s.length
  | [], _ => rfl
  | p :: l, s => (Dev.settle_length l _).trans (by simp)
theorem Dev.cut_len (D : Dev) (kept : List Int) (torn half : Int) : (D.cut kept torn half).sure.length = D.sure.length := by
  unfold Dev.cut
  split
  · rfl
  · exact Dev.cutFrom_len _ _ _ _ _ _
theorem Dev.change_changes (D : Dev) : D.change.1.changes = D.changes + 1 := by
  unfold Dev.change
  split
  · rfl
  · split
    · exact Dev.cut_changes _ _ _ _
    · rfl
theorem Dev.change_len (D : Dev) : D.change.1.sure.length = D.sure.length := by
  unfold Dev.change
  split
  · rfl
  · split
    · exact Dev.cut_len _ _ _ _
    · rfl
theorem Dev.write_changes (D : Dev) (i : Int) (b : List UInt8) : (D.write i b).1.changes ≤ D.changes + 1 := by
  unfold Dev.write
  split
  · show D.changes ≤ _; omega
  · split
    · show D.changes ≤ _; omega
    · rw [Dev.change_changes]
      exact Int.le_refl _
theorem Dev.write_len (D : Dev) (i : Int) (b : List UInt8) : (D.write i b).1.sure.length = D.sure.length := by
  unfold Dev.write
  split
  · rfl
  · split
    · rfl
    · rw [Dev.change_len]
theorem Dev.barrier_changes (D : Dev) : D.barrier.1.changes ≤ D.changes + 1 := by
  unfold Dev.barrier
  split
  · show D.changes ≤ _; omega
  · split
    · show D.change.1.changes ≤ _
      rw [Dev.change_changes]
      exact Int.le_refl _
    · rw [Dev.change_changes]
      exact Int.le_refl _
theorem Dev.barrier_len (D : Dev) : D.barrier.1.sure.length = D.sure.length := by
  unfold Dev.barrier
  split
  · rfl
  · split
    · show (Dev.settle _ _).length = _
      rw [Dev.settle_length, Dev.change_len]
    · rw [Dev.change_len]
end Go.Proofs.Yteggldplmbegfaa

/- Dev1: THE DEVICE's SMALL METHODS, walked: Off, Size, may, Loose, Changes, On; slices.Contains at []int. -/
set_option linter.unusedVariables false
set_option linter.unusedSimpArgs false
namespace Go.Proofs.Yteggldplmbegfaa
open Go.RowKit

/-- All sectors' cells, one behind the other. -/
def flat (ss : List (List UInt8)) : List Value := (ss.map bv).flatten
/-- The cells of the loose writes. -/
def lzc (p : Nat × List UInt8) : List Value := .int .i64 (p.1 : Int) :: bv p.2
def lz (ls : List (Nat × List UInt8)) : List Value := (ls.map lzc).flatten
/-- The device's own cells. -/
def devCells (bs : Nat) (D : Dev) (lv kv : Value) : Array Value :=
  #[.slice (some ⟨bs, 0, none⟩) D.sure.length D.sure.length, lv, .int .i64 D.left, kv, .int .i64 D.torn, .int .i64 D.half, .int .i64 D.changes, .bool D.off]
/-- At block b lies the device D; its sectors at block bs. -/
structure DevAt (w : World) (b bs : Nat) (D : Dev) (lv kv : Value) : Prop where
  blk : w.heap[b]? = some (.cells (devCells bs D lv kv) 106 (0, 0))
  sure : w.heap[bs]? = some (.cells (flat D.sure).toArray 109 (0, 0))
  loose : RowIs w lv 111 257 D.loose.length (lz D.loose)
  kept : RowIs w kv 3 1 D.kept.length (iv D.kept)
def DevIs (w : World) (b bs : Nat) (D : Dev) : Prop := ∃ lv kv, DevAt w b bs D lv kv

theorem DevAt.cell {w : World} {b bs : Nat} {D : Dev} {lv kv : Value} (h : DevAt w b bs D lv kv) (j : Nat) : w.cell? ⟨b, j, none⟩ = (devCells bs D lv kv)[j]? := cell_of_row w b j _ _ _ h.blk
theorem DevAt.free {w : World} {b bs : Nat} {D : Dev} {lv kv : Value} (h : DevAt w b bs D lv kv) (j : Nat) : w.frozen? ⟨b, j, none⟩ = false := frozen_of_row w b j _ _ h.blk
theorem DevAt.ne {w : World} {b bs : Nat} {D : Dev} {lv kv : Value} (h : DevAt w b bs D lv kv) : b ≠ bs := typ_ne h.blk h.sure (by decide)

set_option maxHeartbeats 400000 in
theorem dOff_any (w : World) (b bs : Nat) (D : Dev) (lv kv : Value) (h : DevAt w b bs D lv kv) :
    Calls Try.prog 50 #[.pointer (some ⟨b, 0, none⟩)] w fun e w' => e = .returned (.bool D.off) ∧ w' = w := by
  have h7 : w.cell? ⟨b, 7, none⟩ = some (.bool D.off) := h.cell 7
  go_enter Try.func50, Try.ntmps50
  go_wp2
  go_ret
  exact ⟨rfl, rfl⟩
set_option maxHeartbeats 400000 in
theorem dOff_nil (w : World) :
    Calls Try.prog 50 #[.pointer none] w fun e w' => e = .returned (.bool true) ∧ w' = w := by
  go_enter Try.func50, Try.ntmps50
  go_wp2
  go_ret
  exact ⟨rfl, rfl⟩
set_option maxHeartbeats 400000 in
theorem dSize_any (w : World) (b bs : Nat) (D : Dev) (lv kv : Value) (h : DevAt w b bs D lv kv) :
    Calls Try.prog 55 #[.pointer (some ⟨b, 0, none⟩)] w fun e w' => e = .returned (.int .i64 D.sure.length) ∧ w' = w := by
  have h7 : w.cell? ⟨b, 0, none⟩ = some (.slice (some ⟨bs, 0, none⟩) D.sure.length D.sure.length) := h.cell 0
  go_enter Try.func55, Try.ntmps55
  go_wp2
  go_ret
  exact ⟨rfl, rfl⟩
set_option maxHeartbeats 400000 in
theorem dSize_nil (w : World) :
    Calls Try.prog 55 #[.pointer none] w fun e w' => e = .returned (.int .i64 0) ∧ w' = w := by
  go_enter Try.func55, Try.ntmps55
  go_wp2
  go_ret
  exact ⟨rfl, rfl⟩
set_option maxHeartbeats 400000 in
theorem dLoose_any (w : World) (b bs : Nat) (D : Dev) (lv kv : Value) (h : DevAt w b bs D lv kv) :
    Calls Try.prog 22 #[.pointer (some ⟨b, 0, none⟩)] w fun e w' => e = .returned (.int .i64 D.loose.length) ∧ w' = w := by
  obtain ⟨A, c, rfl⟩ := h.loose.shape
  have h7 : w.cell? ⟨b, 1, none⟩ = some (.slice A D.loose.length c) := h.cell 1
  go_enter Try.func22, Try.ntmps22
  go_wp2
  go_ret
  exact ⟨rfl, rfl⟩
set_option maxHeartbeats 400000 in
theorem dChanges_any (w : World) (b bs : Nat) (D : Dev) (lv kv : Value) (h : DevAt w b bs D lv kv) :
    Calls Try.prog 30 #[.pointer (some ⟨b, 0, none⟩)] w fun e w' => e = .returned (.int .i64 D.changes) ∧ w' = w := by
  have h7 : w.cell? ⟨b, 6, none⟩ = some (.int .i64 D.changes) := h.cell 6
  go_enter Try.func30, Try.ntmps30
  go_wp2
  go_ret
  exact ⟨rfl, rfl⟩
set_option maxHeartbeats 400000 in
theorem dmay_any (w : World) (b bs : Nat) (D : Dev) (lv kv : Value) (h : DevAt w b bs D lv kv) (i : Int) :
    Calls Try.prog 51 #[.pointer (some ⟨b, 0, none⟩), .int .i64 i] w fun e w' => e = .returned (.int .i64 (D.may i)) ∧ w' = w := by
  have h0 : w.cell? ⟨b, 0, none⟩ = some (.slice (some ⟨bs, 0, none⟩) D.sure.length D.sure.length) := h.cell 0
  by_cases ho : D.off = true
  · have HO := Lib.hid (show D.may i = 6 by simp [Dev.may, ho])
    go_enter Try.func51, Try.ntmps51
    go_wp2_with (go_at_call 50; refine (dOff_any _ b bs D lv kv h).mono ?_; rintro e w' ⟨rfl, rfl⟩)
    go_ret
    exact ⟨by rw [HO.out]; rfl, rfl⟩
  · have ho' : D.off = false := by simpa using ho
    clear ho
    by_cases hi : i < 0
    · have HO := Lib.hid (show D.may i = 2 by simp [Dev.may, ho', hi])
      go_enter Try.func51, Try.ntmps51
      go_wp2_with (go_at_call 50; refine (dOff_any _ b bs D lv kv h).mono ?_; rintro e w' ⟨rfl, rfl⟩)
      go_ret
      exact ⟨by rw [HO.out]; rfl, rfl⟩
    · by_cases hj : (D.sure.length : Int) ≤ i
      · have HO := Lib.hid (show D.may i = 2 by simp [Dev.may, ho', hj])
        go_enter Try.func51, Try.ntmps51
        go_wp2_with (go_at_call 50; refine (dOff_any _ b bs D lv kv h).mono ?_; rintro e w' ⟨rfl, rfl⟩)
        go_ret
        exact ⟨by rw [HO.out]; rfl, rfl⟩
      · have HO := Lib.hid (show D.may i = 0 by simp only [Dev.may, ho']; rw [if_neg (by simp), if_neg (by omega)])
        go_enter Try.func51, Try.ntmps51
        go_wp2_with (go_at_call 50; refine (dOff_any _ b bs D lv kv h).mono ?_; rintro e w' ⟨rfl, rfl⟩)
        go_ret
        exact ⟨by rw [HO.out]; rfl, rfl⟩

theorem iv_cell {w : World} {A : Option Addr} {n c : Nat} {ks : List Int} {T : TypeId} (h : RowIs w (.slice A n c) T 1 n (iv ks)) (k : Nat) (hk : k < n) :
    ∃ g o, A = some ⟨g, o, none⟩ ∧ ∃ hx : k < ks.length, w.cell? ⟨g, o + k, none⟩ = some (.int .i64 ks[k]) := by
  have hl : ks.length = n := by simpa [iv] using h.1
  rcases h.2 with ⟨rfl, _⟩ | ⟨g, o, c', cur, fr, hv, hc, hg, hx⟩
  · omega
  · simp only [Value.slice.injEq] at hv
    obtain ⟨rfl, _, _⟩ := hv
    refine ⟨g, o, rfl, by omega, ?_⟩
    rw [cell_of_row w g (o + k) cur _ fr hg]
    exact hx k _ (by simp [iv, List.getElem?_eq_getElem (by omega : k < ks.length)])

set_option maxHeartbeats 800000 in
theorem sIndex_any (w : World) (A : Option Addr) (c : Nat) (ks : List Int) (x : Int) (T : TypeId) (h : RowIs w (.slice A ks.length c) T 1 ks.length (iv ks)) (hb : ks.length ≤ 1000000000000) :
    Calls Try.prog 86 #[.slice A ks.length c, .int .i64 x] w fun e w' => ∃ r : Int, e = .returned (.int .i64 r) ∧ (0 ≤ r ↔ x ∈ ks) ∧ w' = w := by
  go_enter Try.func86, Try.ntmps86
  go_wp2
  go_loop [8] (fun i => ∃ k : Nat, k ≤ ks.length ∧ i = .int .i64 k ∧ Hid (x ∉ ks.take k)) (fun i => ks.length - (intOf i).toNat)
  case atStart => exact ⟨0, Nat.zero_le _, rfl, by show x ∉ _; simp⟩
  case round =>
    obtain ⟨k, hk, rfl, hno⟩ := hrel
    by_cases hlt : k < ks.length
    · obtain ⟨g, o, rfl, hx, hcell⟩ := iv_cell h k hlt
      by_cases heq : ks[k] = x
      · have H1 : Hid (x ∈ ks) := by show x ∈ ks; rw [← heq]; exact List.getElem_mem hx
        have H2 : Hid (ks[k] = x) := heq
        have hb : (x == ks[k]) = true := by simpa using heq.symm
        clear heq
        go_wp2
        go_ret
        exact ⟨k, rfl, by simp [H1.out], rfl⟩
      · have hb : (x == ks[k]) = false := by simpa using fun e => heq (Eq.symm e)
        have H1 : Hid (x ∉ ks.take (k + 1)) := by
          show x ∉ _
          rw [List.take_succ_eq_append_getElem hx]
          have := hno.out
          simp only [List.mem_append, List.mem_singleton, not_or]
          exact ⟨this, fun e => heq e.symm⟩
        clear heq
        go_wp2
        go_round
        case rel => exact ⟨k + 1, by omega, by go_num, H1⟩
        case measure => simp [intOf]; omega
    · have H1 : Hid (x ∉ ks) := by
        have := hno.out
        rwa [List.take_of_length_le (by omega)] at this
      go_wp2
      go_ret
      exact ⟨-1, rfl, by simp [H1.out], rfl⟩

set_option maxHeartbeats 400000 in
theorem sContains_any (w : World) (kv : Value) (ks : List Int) (x : Int) (T : TypeId) (h : RowIs w kv T 1 ks.length (iv ks)) (hb : ks.length ≤ 1000000000000) :
    Calls Try.prog 54 #[kv, .int .i64 x] w fun e w' => e = .returned (.bool (decide (x ∈ ks))) ∧ w' = w := by
  obtain ⟨A, c, rfl⟩ := h.shape
  go_enter Try.func54, Try.ntmps54
  go_wp2_with fail
  refine (sIndex_any w A c ks x T h hb).mono ?_
  rintro e w' ⟨r, rfl, hr, rfl⟩
  have HR := Lib.hid hr
  clear hr
  go_wp2
  go_ret
  refine ⟨?_, rfl⟩
  have := HR.out
  by_cases hx : x ∈ ks <;> simp_all
end Go.Proofs.Yteggldplmbegfaa

/- Dev2: THE DEVICE's METHODS that write its own cells: On, Plan, Cut, change. -/
set_option linter.unusedVariables false
set_option linter.unusedSimpArgs false
namespace Go.Proofs.Yteggldplmbegfaa
open Go.RowKit

theorem setCell_grown (w : World) (g j : Nat) (v : Value) : w.grownBy (w.setCell ⟨g, j, none⟩ v) (some g) :=
  ⟨rfl, rfl, rfl, by simp [World.setCell], fun k _ hne => by simp only [World.setCell, Array.getElem?_modify]; rw [if_neg (fun e => hne (by rw [← e]))]⟩
/-- One of the device's own cells is written. -/
theorem DevAt.store {w : World} {b bs : Nat} {D : Dev} {lv kv : Value} (h : DevAt w b bs D lv kv) (j : Nat) (v : Value) (D' : Dev) (lv' kv' : Value)
    (hc : (devCells bs D lv kv).setIfInBounds j v = devCells bs D' lv' kv') (hs : D'.sure = D.sure)
    (hl : RowIs w lv' 111 257 D'.loose.length (lz D'.loose)) (hk : RowIs w kv' 3 1 D'.kept.length (iv D'.kept)) : DevAt (w.setCell ⟨b, j, none⟩ v) b bs D' lv' kv' := by
  have hg := setCell_grown w b j v
  have hf : Fr w (w.setCell ⟨b, j, none⟩ v) [b] := (Fr.refl w [b]).grown hg (by simp)
  have hb : ∀ x ∈ [b], w.heap.size ≤ x ∨ ∃ c2 T2 f2, w.heap[x]? = some (.cells c2 T2 f2) ∧ 111 ≠ T2 := fun x hx => by
    simp at hx; subst hx; exact .inr ⟨_, _, _, h.blk, by decide⟩
  have hb2 : ∀ x ∈ [b], w.heap.size ≤ x ∨ ∃ c2 T2 f2, w.heap[x]? = some (.cells c2 T2 f2) ∧ 3 ≠ T2 := fun x hx => by
    simp at hx; subst hx; exact .inr ⟨_, _, _, h.blk, by decide⟩
  exact ⟨by rw [← hc]; exact heap_setCell_same w b j _ _ v h.blk, by rw [hs]; exact grown_keep hg h.sure (by simp; exact h.ne.symm), hl.other hf hb, hk.other hf hb2⟩
/-- Other blocks turned. -/
theorem DevAt.move {w w' : World} {b bs : Nat} {D : Dev} {lv kv : Value} (h : DevAt w b bs D lv kv) {S : List Nat} (hf : Fr w w' S)
    (hS : ∀ x ∈ S, w.heap.size ≤ x ∨ ∃ c2 T2 f2, w.heap[x]? = some (.cells c2 T2 f2) ∧ 106 ≠ T2 ∧ 109 ≠ T2 ∧ 111 ≠ T2 ∧ 3 ≠ T2) : DevAt w' b bs D lv kv := by
  have hn : ∀ {k : Nat} {c : Array Value} {T : TypeId} {f : Nat × Nat}, w.heap[k]? = some (.cells c T f) → (T = 106 ∨ T = 109) → k ∉ S := fun {k c T f} hk hT hm => by
    rcases hS k hm with h1 | ⟨c2, T2, f2, h2, h3, h4, _⟩
    · have := lt_of_heap hk; omega
    · exact typ_ne hk h2 (by rcases hT with rfl | rfl; exact h3; exact h4) rfl
  exact ⟨hf.keep h.blk (hn h.blk (.inl rfl)), hf.keep h.sure (hn h.sure (.inr rfl)),
    h.loose.other hf (fun x hx => (hS x hx).imp_right fun ⟨c, T, f, h1, _, _, h2, _⟩ => ⟨c, T, f, h1, h2⟩),
    h.kept.other hf (fun x hx => (hS x hx).imp_right fun ⟨c, T, f, h1, _, _, _, h2⟩ => ⟨c, T, f, h1, h2⟩)⟩
theorem DevAt.below {w w' : World} {b bs : Nat} {D : Dev} {lv kv : Value} (h : DevAt w b bs D lv kv) (hb : Below w.heap.size w w') : DevAt w' b bs D lv kv :=
  h.move (Fr.below_iff.2 hb) (by simp)
theorem DevAt.grown {w w' : World} {b bs : Nat} {D : Dev} {lv kv : Value} (h : DevAt w b bs D lv kv) (hb : w.grownBy w' none) : DevAt w' b bs D lv kv :=
  h.move ((Fr.refl w []).grown hb (by simp)) (by simp)

set_option maxHeartbeats 400000 in
theorem dOn_any (w : World) (b bs : Nat) (D : Dev) (lv kv : Value) (h : DevAt w b bs D lv kv) :
    Calls Try.prog 20 #[.pointer (some ⟨b, 0, none⟩)] w fun e w' => e = .returned (.bool D.off) ∧ DevAt w' b bs { D with off := false } lv kv ∧ Fr w w' [b] := by
  have h7 : w.cell? ⟨b, 7, none⟩ = some (.bool D.off) := h.cell 7
  have f7 := h.free 7
  by_cases ho : D.off = true
  · have HD := Lib.hid (h.store 7 (.bool false) { D with off := false } lv kv rfl rfl h.loose h.kept)
    have HF := Lib.hid ((Fr.refl w [b]).grown (setCell_grown w b 7 (.bool false)) (by simp))
    go_enter Try.func20, Try.ntmps20
    go_wp2
    go_ret
    exact ⟨by rw [ho]; rfl, HD.out, HF.out⟩
  · have ho' : D.off = false := by simpa using ho
    clear ho
    have e : ({ D with off := false } : Dev) = D := by cases D; simp_all
    have HE := Lib.hid e
    clear e
    go_enter Try.func20, Try.ntmps20
    go_wp2
    go_ret
    exact ⟨by rw [ho']; rfl, by rw [HE.out]; exact h, Fr.refl _ _⟩
end Go.Proofs.Yteggldplmbegfaa

/- Dev3:  -/
/- THE DEVICE's Cut, walked. -/
set_option linter.unusedVariables false
set_option linter.unusedSimpArgs false
namespace Go.Proofs.Yteggldplmbegfaa
open Go.RowKit

/-- Where the k-th loose write lies. -/
theorem lz_at {w : World} {A : Option Addr} {n c : Nat} {ls : List (Nat × List UInt8)} (h : RowIs w (.slice A n c) 111 257 n (lz ls)) (hn : ls.length = n) (hf : ∀ p ∈ ls, p.2.length = 256) (k : Nat) (hk : k < n) :
    ∃ g o, A = some ⟨g, o, none⟩ ∧ ∃ cur fr, w.heap[g]? = some (.cells cur 111 fr) ∧ ∃ hx : k < ls.length, ∀ j x, (lzc ls[k])[j]? = some x → cur[o + k * 257 + j]? = some x := by
  rcases h.2 with ⟨rfl, _⟩ | ⟨g, o, c', cur, fr, hv, hc, hg, hx⟩
  · omega
  · simp only [Value.slice.injEq] at hv
    obtain ⟨rfl, _, _⟩ := hv
    refine ⟨g, o, rfl, cur, fr, hg, by omega, fun j x hj => ?_⟩
    have hj' : j < 257 := by
      have h2 := (List.getElem?_eq_some_iff.1 hj).1
      have h3 := hf ls[k] (List.getElem_mem _)
      simp only [lzc, List.length_cons, bv_length] at h2
      omega
    rw [Nat.add_assoc]
    refine hx _ x ?_
    unfold lz
    rw [flatten_get 257 _ (by simp only [List.mem_map]; rintro l ⟨p, hp, rfl⟩; simp [lzc, bv_length, hf p hp]) k j hj']
    simp only [List.getElem?_map, List.getElem?_eq_getElem (show k < ls.length by omega), Option.map_some, Option.bind_some]
    exact hj

theorem zero111 : (Try.prog.info? 111).map (·.size) = some 257 := by kernel_rfl
theorem zero109 : (Try.prog.info? 109).map (·.size) = some 256 := by kernel_rfl

theorem zrow111 : (Try.prog.info? 111).map (·.zero) = some (some (.agg Try.zeroCells111)) := by kernel_rfl
theorem zsize111 : Try.zeroCells111.size = 257 := by kernel_rfl
theorem zrow109 : (Try.prog.info? 109).map (·.zero) = some (some (.agg Try.zeroCells109)) := by kernel_rfl
theorem zsize109 : Try.zeroCells109.size = 256 := by kernel_rfl
theorem lzc_one (p : Nat × List UInt8) : ∀ v ∈ lzc p, v.oneCell' = true := by
  intro v hv
  simp only [lzc, List.mem_cons] at hv
  rcases hv with rfl | hv
  · rfl
  · exact bv_one _ v hv
theorem flat_length (s : List (List UInt8)) (h : ∀ x ∈ s, x.length = 256) : (flat s).length = s.length * 256 := by
  unfold flat
  rw [flatten_len 256]
  · simp
  · intro l hl
    simp only [List.mem_map] at hl
    obtain ⟨x, hx, rfl⟩ := hl
    rw [bv_length]; exact h x hx
theorem flat_set (s : List (List UInt8)) (i : Nat) (b : List UInt8) (off n : Nat) (hi : i < s.length) (h : ∀ x ∈ s, x.length = 256) (ho : off + b.length ≤ 256) :
    splice (flat s) (i * 256 + off) (bv b) = flat (s.set i (splice (s.getD i []) off b)) := by
  unfold flat
  rw [splice_flatten 256 _ (fun l hl => by simp only [List.mem_map] at hl; obtain ⟨x, hx, rfl⟩ := hl; rw [bv_length]; exact h x hx) i (by simpa using hi) off (bv b) (by rw [bv_length]; exact ho)]
  congr 1
  rw [List.map_set]
  congr 1
  rw [List.getD_eq_getElem?_getD, List.getElem?_map, List.getElem?_eq_getElem hi, List.getD_eq_getElem?_getD, List.getElem?_eq_getElem hi]
  simp [splice, bv, List.map_take, List.map_drop]
theorem flat_lay (s : List (List UInt8)) (p : Nat × List UInt8) (n : Nat) (hn : n ≤ 256) (hi : p.1 < s.length) (h : ∀ x ∈ s, x.length = 256) (hp : p.2.length = 256) :
    splice (flat s) (p.1 * 256) ((bv p.2).take n) = flat (Dev.lay s p n) := by
  have e : (bv p.2).take n = bv (p.2.take n) := by simp [bv, List.map_take]
  have := flat_set s p.1 (p.2.take n) 0 0 hi h (by simp; omega)
  rw [Nat.add_zero] at this
  rw [e, this]
  simp [Dev.lay, splice, hp, Nat.min_eq_left hn]
theorem zero5 : (Try.prog.info? 5).map (·.size) = some 1 := by kernel_rfl
theorem splice111 (p : Nat × List UInt8) (h : p.2.length = 256) : splice Try.zeroCells111.toList 0 (lzc p) = lzc p := by
  refine splice_all _ _ ?_
  have e : Try.zeroCells111.toList.length = 257 := zsize111
  rw [e]
  simp only [lzc, List.length_cons, bv_length, h]

set_option maxRecDepth 20000 in
set_option maxHeartbeats 1000000 in
theorem dCut_on (w : World) (b bs : Nat) (D : Dev) (lv kv : Value) (h : DevAt w b bs D lv kv) (hw : D.Wf) (ho : D.off = false) (kv' : Value) (kept : List Int) (torn half : Int)
    (T : TypeId) (hk : RowIs w kv' T 1 kept.length (iv kept)) (hoff : OffB kv' kept.length [bs]) (hkb : kept.length ≤ 1000000000000) :
    Calls Try.prog 19 #[.pointer (some ⟨b, 0, none⟩), .agg #[kv', .int .i64 torn, .int .i64 half]] w fun e w' =>
      e = .returned (.tuple #[]) ∧ DevAt w' b bs (D.cut kept torn half) (.slice none 0 0) kv ∧ Fr w w' [b, bs] := by
  have hloose := h.loose
  have hll : D.loose.length ≤ 1000000001 := by have := hw.many; have := hw.changes; omega
  obtain ⟨A, c, rfl⟩ := hloose.shape
  go_enter Try.func19, Try.ntmps19
  go_wp2_with fail
  have hbox : (w.alloc (.cells #[kv', .int .i64 torn, .int .i64 half] 25 (0, 0))).heap[w.heap.size]? = some (.cells #[kv', .int .i64 torn, .int .i64 half] 25 (0, 0)) := heap_alloc_new w _
  have hg := World.grownBy_alloc w (.cells #[kv', .int .i64 torn, .int .i64 half] 25 (0, 0)) none
  generalize hW : w.alloc (.cells #[kv', .int .i64 torn, .int .i64 half] 25 (0, 0)) = w1 at *
  clear hW
  have h1 := h.grown hg
  have hk1 := hk.grown hg
  have hl1 := hloose.grown hg
  have F1 := Lib.hid ((Fr.refl w [b, bs]).grown hg (by simp))
  have B0 : w1.cell? ⟨w.heap.size, 0, none⟩ = some kv' := cell_of_row _ _ _ _ _ _ hbox
  have B1 : w1.cell? ⟨w.heap.size, 1, none⟩ = some (.int .i64 torn) := cell_of_row _ _ _ _ _ _ hbox
  have B2 : w1.cell? ⟨w.heap.size, 2, none⟩ = some (.int .i64 half) := cell_of_row _ _ _ _ _ _ hbox
  refine (dOff_any _ b bs D _ kv h1).mono ?_
  rintro e w' ⟨rfl, rfl⟩
  rw [ho]
  have c1 : w'.cell? ⟨b, 1, none⟩ = some (.slice A D.loose.length c) := h1.cell 1
  go_wp2_with fail
  go_loopw [14] (fun i wr => ∃ k : Nat, ∃ s : List (List UInt8), k ≤ D.loose.length ∧ i = .int .i64 k ∧ wr.heap[bs]? = some (.cells (flat s).toArray 109 (0, 0)) ∧ Fr w' wr [bs] ∧
      Hid (Dev.cutFrom kept torn half k (D.loose.drop k) s = Dev.cutFrom kept torn half 0 D.loose D.sure ∧ s.length = D.sure.length ∧ ∀ x ∈ s, x.length = 256)) (fun i _ => D.loose.length - (intOf i).toNat)
  case atStart => exact ⟨0, D.sure, Nat.zero_le _, rfl, h1.sure, Fr.refl _ _, by show _ ∧ _ ∧ _; exact ⟨by simp, rfl, hw.full⟩⟩
  case round =>
    obtain ⟨k, s, hkl, rfl, hbs, hfr, hs⟩ := hrel
    by_cases hlt : k < D.loose.length
    · obtain ⟨g, o, rfl, cur, fr, hcur, hx, hcell⟩ := lz_at hl1 rfl (fun p hp => (hw.loose p hp).2) k hlt
      have hp := hw.loose D.loose[k] (List.getElem_mem _)
      obtain ⟨p, hp0⟩ : ∃ p, p = D.loose[k] := ⟨_, rfl⟩
      rw [← hp0] at hcell hp
      have HP := Lib.hid hp0
      clear hp0
      have hgb : g ≠ bs := typ_ne hcur h1.sure (by decide)
      have hrow := hfr.keep hcur (by simpa using hgb)
      have hz : (Try.prog.info? 111).map (·.size) = some (lzc p).length := by rw [zero111]; simp [lzc, bv_length, hp.2]
      have HC := Lib.hid hcell
      clear hcell
      have hfit := zsize111 ▸ (show 0 + (lzc p).length ≤ 257 by simp [lzc, bv_length, hp.2])
      have hone := lzc_one p
      go_upto_region 5 with (first
        | (with_reducible show wpList _ _ _ (Oper.mk _ (.load 111 _) _ _ _ _ :: _) _ _; refine wpList_load_mid rfl 111 (.tmp 17) rfl g (o + k * 257) rfl 111 cur fr _ (lzc p) hrow Try.underlying111 rfl hz HC.out ?_)
        | (with_reducible show wpList _ _ _ (Oper.mk _ (.alloc 111) _ _ _ _ :: _) _ _; refine wpList_alloc_row rfl 111 rfl _ zrow111 ?_; intro w2 hn2 hg2 hs2)
        | (with_reducible show wpList _ _ _ (Oper.mk _ (.store 111 _ _) _ _ _ _ :: _) _ _; refine wpList_store_mid rfl rfl 111 (.tmp 5) (.tmp 18) rfl wr.heap.size 0 rfl (lzc p) rfl 111 Try.zeroCells111 hn2 hz hfit hone ?_; intro w3 hn3 hg3 hs3; rw [splice111 p hp.2] at hn3; clear hn2 hfit))
      have HN3 := Lib.hid hn3
      clear hn3
      have F3 : Fr wr w3 [] := ((Fr.refl wr []).grown hg2 (by simp)).grown hg3 (by simp)
      have hne : wr.heap.size ≠ bs := by have := lt_of_heap hbs; omega
      have hb3 : w3.heap[bs]? = some (.cells (flat s).toArray 109 (0, 0)) := F3.keep hbs (by simp)
      have hfr3 : Fr w' w3 [bs] := hfr.then F3 (by simp)
      have hbx : w3.heap[w.heap.size]? = some (.cells #[kv', .int .i64 torn, .int .i64 half] 25 (0, 0)) := hfr3.keep hbox (by simpa using (typ_ne hbox h1.sure (by decide)))
      have B0 : w3.cell? ⟨w.heap.size, 0, none⟩ = some kv' := cell_of_row _ _ _ _ _ _ hbx
      have B1 : w3.cell? ⟨w.heap.size, 1, none⟩ = some (.int .i64 torn) := cell_of_row _ _ _ _ _ _ hbx
      have B2 : w3.cell? ⟨w.heap.size, 2, none⟩ = some (.int .i64 half) := cell_of_row _ _ _ _ _ _ hbx
      have hk3 : RowIs w3 kv' T 1 kept.length (iv kept) := hk1.apart hfr3 hoff
      have e0 : w3.cell? ⟨b, 0, none⟩ = some (.slice (some ⟨bs, 0, none⟩) D.sure.length D.sure.length) := by
        rw [cell_of_row _ _ _ _ _ _ (hfr3.keep h1.blk (by simpa using h1.ne))]; rfl
      have p0 : w3.cell? ⟨wr.heap.size, 0, none⟩ = some (.int .i64 p.1) := by rw [cell_of_row _ _ _ _ _ _ HN3.out]; rfl
      clear hg2 hg3 hs2 hs3 hrow hcur
      have hp1 : (p.1 : Int) < (D.sure.length : Int) := by omega
      have hp1' : p.1 < D.sure.length := hp.1
      obtain ⟨n, hn⟩ : ∃ n, n = Dev.tear kept torn half k := ⟨_, rfl⟩
      have hn256 : n ≤ 256 := by rw [hn]; exact Dev.tear_le _ _ _ _
      have HT := Lib.hid hn
      have hni : (n : Int) ≤ 256 := by omega
      have hni0 : (0 : Int) ≤ n := by omega
      have HI : (k : Int) ∈ kept → Hid ((256 : Int) = n) := fun h => by show _ = _; rw [hn]; simp [Dev.tear, h]
      have HJ : (k : Int) ∉ kept → torn = k → Hid ((if 0 < if 256 < half then 256 else half then if 256 < half then 256 else half else 0) = (n : Int)) := fun h h2 => by
        show _ = _
        rw [hn]
        simp only [Dev.tear, h, h2, if_true, if_false]
        omega
      have HK : (k : Int) ∉ kept → torn ≠ k → Hid ((0 : Int) = n) := fun h h2 => by show _ = _; rw [hn]; simp [Dev.tear, h, h2]
      clear hn
      by_cases hin : (k : Int) ∈ kept
      · have hdec : decide ((k : Int) ∈ kept) = true := by simpa using hin
        replace HI := HI hin
        clear hin HJ HK
        go_upto_region 10 with (go_at_call 54; refine (sContains_any _ kv' kept k T hk3 hkb).mono ?_; rintro e w4 ⟨rfl, rfl⟩)
        rw [HI.out]
        go_still_tail 11, (by kernel_rfl)
        change wpList _ _ _ _ _ w4.drew
        have hb4 : w4.drew.heap[bs]? = some (.cells (flat s).toArray 109 (0, 0)) := hb3
        have hn4 : w4.drew.heap[wr.heap.size]? = some (.cells (lzc p).toArray 111 (0, 0)) := HN3.out
        have F4 : Fr w' w4.drew [bs] := hfr3.drew
        generalize w4.drew = w5 at *
        refine wpList_copy_mid rfl (.tmp 39) (.tmp 41) 33 33 rfl 5 Try.underlying33 zero5 bs (p.1 * 256) n 256 rfl ⟨wr.heap.size, 1, none⟩ 256 256 rfl _ _ hb4 ((bv p.2).take n) ?_ ?_ ?_ ?_ ?_
        · rw [List.length_take, bv_length, hp.2]; exact Nat.min_comm _ _
        · intro j v hv
          rw [addr_add, cell_of_row _ _ _ _ _ _ hn4, Nat.add_comm]
          have h2 : (bv p.2)[j]? = some v := by rw [List.getElem?_take] at hv; split at hv; exact hv; exact absurd hv (by simp)
          simpa [lzc] using h2
        · rw [List.size_toArray, flat_length _ hs.out.2.2, hs.out.2.1, List.length_take, bv_length]
          have : p.1 * 256 + 256 ≤ D.sure.length * 256 := by omega
          omega
        · exact fun v hv => bv_one _ v (List.mem_of_mem_take hv)
        intro w6 hn6 hg6 hs6
        rw [List.toList_toArray, flat_lay s p n hn256 (by rw [hs.out.2.1]; exact hp1') hs.out.2.2 hp.2] at hn6
        have F6 : Fr w' w6 [bs] := F4.grown hg6 (by simp)
        have HS := Lib.hid hs.out
        have hw := Dev.lay_wf (p := p) hn256 hs.out.2.2 ⟨by rw [hs.out.2.1]; exact hp1', hp.2⟩
        clear hs hs6 hg6 hb4 hn4
        go_wp2
        go_roundw
        case rel =>
          refine ⟨k + 1, Dev.lay s p n, by omega, by go_num, hn6, F6, ?_⟩
          show _ ∧ _ ∧ _
          refine ⟨?_, hw.1.trans HS.out.2.1, hw.2⟩
          have h2 := HS.out.1
          rw [List.drop_eq_getElem_cons hx, ← HP.out] at h2
          rw [HT.out]
          exact h2
        case measure => simp [intOf]; omega
      · have hdec : decide ((k : Int) ∈ kept) = false := by simpa using hin
        replace HJ := HJ hin
        replace HK := HK hin
        clear hin HI
        by_cases ht : torn = k
        · have htb : (torn == (k : Int)) = true := by simpa using ht
          replace HJ := HJ ht
          clear ht HK
          go_upto_region 10 with (go_at_call 54; refine (sContains_any _ kv' kept k T hk3 hkb).mono ?_; rintro e w4 ⟨rfl, rfl⟩)
          rw [HJ.out]
          go_still_tail 11, (by kernel_rfl)
          change wpList _ _ _ _ _ w4.drew
          have hb4 : w4.drew.heap[bs]? = some (.cells (flat s).toArray 109 (0, 0)) := hb3
          have hn4 : w4.drew.heap[wr.heap.size]? = some (.cells (lzc p).toArray 111 (0, 0)) := HN3.out
          have F4 : Fr w' w4.drew [bs] := hfr3.drew
          generalize w4.drew = w5 at *
          refine wpList_copy_mid rfl (.tmp 39) (.tmp 41) 33 33 rfl 5 Try.underlying33 zero5 bs (p.1 * 256) n 256 rfl ⟨wr.heap.size, 1, none⟩ 256 256 rfl _ _ hb4 ((bv p.2).take n) ?_ ?_ ?_ ?_ ?_
          · rw [List.length_take, bv_length, hp.2]; exact Nat.min_comm _ _
          · intro j v hv
            rw [addr_add, cell_of_row _ _ _ _ _ _ hn4, Nat.add_comm]
            have h2 : (bv p.2)[j]? = some v := by rw [List.getElem?_take] at hv; split at hv; exact hv; exact absurd hv (by simp)
            simpa [lzc] using h2
          · rw [List.size_toArray, flat_length _ hs.out.2.2, hs.out.2.1, List.length_take, bv_length]
            have : p.1 * 256 + 256 ≤ D.sure.length * 256 := by omega
            omega
          · exact fun v hv => bv_one _ v (List.mem_of_mem_take hv)
          intro w6 hn6 hg6 hs6
          rw [List.toList_toArray, flat_lay s p n hn256 (by rw [hs.out.2.1]; exact hp1') hs.out.2.2 hp.2] at hn6
          have F6 : Fr w' w6 [bs] := F4.grown hg6 (by simp)
          have HS := Lib.hid hs.out
          have hw := Dev.lay_wf (p := p) hn256 hs.out.2.2 ⟨by rw [hs.out.2.1]; exact hp1', hp.2⟩
          clear hs hs6 hg6 hb4 hn4
          go_wp2
          go_roundw
          case rel =>
            refine ⟨k + 1, Dev.lay s p n, by omega, by go_num, hn6, F6, ?_⟩
            show _ ∧ _ ∧ _
            refine ⟨?_, hw.1.trans HS.out.2.1, hw.2⟩
            have h2 := HS.out.1
            rw [List.drop_eq_getElem_cons hx, ← HP.out] at h2
            rw [HT.out]
            exact h2
          case measure => simp [intOf]; omega
        · have htb : (torn == (k : Int)) = false := by simpa using ht
          replace HK := HK ht
          clear ht HJ
          go_upto_region 10 with (go_at_call 54; refine (sContains_any _ kv' kept k T hk3 hkb).mono ?_; rintro e w4 ⟨rfl, rfl⟩)
          rw [HK.out]
          go_still_tail 11, (by kernel_rfl)
          change wpList _ _ _ _ _ w4.drew
          have hb4 : w4.drew.heap[bs]? = some (.cells (flat s).toArray 109 (0, 0)) := hb3
          have hn4 : w4.drew.heap[wr.heap.size]? = some (.cells (lzc p).toArray 111 (0, 0)) := HN3.out
          have F4 : Fr w' w4.drew [bs] := hfr3.drew
          generalize w4.drew = w5 at *
          refine wpList_copy_mid rfl (.tmp 39) (.tmp 41) 33 33 rfl 5 Try.underlying33 zero5 bs (p.1 * 256) n 256 rfl ⟨wr.heap.size, 1, none⟩ 256 256 rfl _ _ hb4 ((bv p.2).take n) ?_ ?_ ?_ ?_ ?_
          · rw [List.length_take, bv_length, hp.2]; exact Nat.min_comm _ _
          · intro j v hv
            rw [addr_add, cell_of_row _ _ _ _ _ _ hn4, Nat.add_comm]
            have h2 : (bv p.2)[j]? = some v := by rw [List.getElem?_take] at hv; split at hv; exact hv; exact absurd hv (by simp)
            simpa [lzc] using h2
          · rw [List.size_toArray, flat_length _ hs.out.2.2, hs.out.2.1, List.length_take, bv_length]
            have : p.1 * 256 + 256 ≤ D.sure.length * 256 := by omega
            omega
          · exact fun v hv => bv_one _ v (List.mem_of_mem_take hv)
          intro w6 hn6 hg6 hs6
          rw [List.toList_toArray, flat_lay s p n hn256 (by rw [hs.out.2.1]; exact hp1') hs.out.2.2 hp.2] at hn6
          have F6 : Fr w' w6 [bs] := F4.grown hg6 (by simp)
          have HS := Lib.hid hs.out
          have hw := Dev.lay_wf (p := p) hn256 hs.out.2.2 ⟨by rw [hs.out.2.1]; exact hp1', hp.2⟩
          clear hs hs6 hg6 hb4 hn4
          go_wp2
          go_roundw
          case rel =>
            refine ⟨k + 1, Dev.lay s p n, by omega, by go_num, hn6, F6, ?_⟩
            show _ ∧ _ ∧ _
            refine ⟨?_, hw.1.trans HS.out.2.1, hw.2⟩
            have h2 := HS.out.1
            rw [List.drop_eq_getElem_cons hx, ← HP.out] at h2
            rw [HT.out]
            exact h2
          case measure => simp [intOf]; omega
    · obtain rfl : k = D.loose.length := by omega
      have hs2 : s = Dev.cutFrom kept torn half 0 D.loose D.sure := by have := hs.out.1; rwa [List.drop_length, Dev.cutFrom] at this
      have hd : DevAt wr b bs { D with sure := s } _ kv := ⟨by
        rw [hfr.keep h1.blk (by simpa using h1.ne)]; simp only [devCells, hs.out.2.1], hbs, h1.loose.other hfr (fun x hx => by simp at hx; subst hx; exact .inr ⟨_, _, _, h1.sure, by decide⟩), h1.kept.other hfr (fun x hx => by simp at hx; subst hx; exact .inr ⟨_, _, _, h1.sure, by decide⟩)⟩
      have f1 := hd.free 1
      have f2 := hd.free 2
      have f7 := hd.free 7
      have d1 : wr.cell? ⟨b, 1, none⟩ = some _ := hd.cell 1
      have d2 : wr.cell? ⟨b, 2, none⟩ = some (.int .i64 D.left) := hd.cell 2
      have d7 : wr.cell? ⟨b, 7, none⟩ = some (.bool D.off) := hd.cell 7
      have g1 := hd.store 1 (.slice none 0 0) { D with sure := s, loose := [] } (.slice none 0 0) kv rfl rfl (RowIs.nil _ _ _ _ _) hd.kept
      have g2 := g1.store 7 (.bool true) { D with sure := s, loose := [], off := true } (.slice none 0 0) kv rfl rfl (RowIs.nil _ _ _ _ _) g1.kept
      have g3 := g2.store 2 (.int .i64 (-1)) { D with sure := s, loose := [], off := true, left := -1 } (.slice none 0 0) kv rfl rfl (RowIs.nil _ _ _ _ _) g2.kept
      have e : D.cut kept torn half = { D with sure := s, loose := [], off := true, left := -1 } := by simp [Dev.cut, ho, hs2]
      rw [← e] at g3
      have HG := Lib.hid g3
      have HF := Lib.hid ((((F1.out.then hfr (by simp)).grown (setCell_grown wr b 1 (.slice none 0 0)) (by simp)).grown (setCell_grown _ b 7 (.bool true)) (by simp)).grown (setCell_grown _ b 2 (.int .i64 (-1))) (by simp))
      clear hs2 hs g1 g2 g3 e hd
      go_wp2
      go_end0
      exact ⟨rfl, HG.out, HF.out⟩
end Go.Proofs.Yteggldplmbegfaa

/- Dev4: THE DEVICE's Cut when it is off, change; slices.Clip at []loose. -/
set_option linter.unusedVariables false
set_option linter.unusedSimpArgs false
namespace Go.Proofs.Yteggldplmbegfaa
open Go.RowKit

set_option maxHeartbeats 400000 in
theorem dCut_off (w : World) (b bs : Nat) (D : Dev) (lv kv : Value) (h : DevAt w b bs D lv kv) (ho : D.off = true) (x y z : Value) :
    Calls Try.prog 19 #[.pointer (some ⟨b, 0, none⟩), .agg #[x, y, z]] w fun e w' => e = .returned (.tuple #[]) ∧ DevAt w' b bs D lv kv ∧ Fr w w' [] := by
  have hg := World.grownBy_alloc w (.cells #[x, y, z] 25 (0, 0)) none
  have h1 := h.grown hg
  have HF := Lib.hid ((Fr.refl w []).grown hg (by simp))
  go_enter Try.func19, Try.ntmps19
  go_wp2_with fail
  refine (dOff_any _ b bs D _ kv h1).mono ?_
  rintro e w' ⟨rfl, rfl⟩
  rw [ho]
  go_wp2
  refine bodyPost_ret (results_none rfl _ _ _) rfl ?_
  exact ⟨rfl, h1, HF.out⟩

theorem dCut_any (w : World) (b bs : Nat) (D : Dev) (lv kv : Value) (h : DevAt w b bs D lv kv) (hw : D.Wf) (kv' : Value) (kept : List Int) (torn half : Int)
    (T : TypeId) (hk : RowIs w kv' T 1 kept.length (iv kept)) (hoff : OffB kv' kept.length [bs]) (hkb : kept.length ≤ 1000000000000) :
    Calls Try.prog 19 #[.pointer (some ⟨b, 0, none⟩), .agg #[kv', .int .i64 torn, .int .i64 half]] w fun e w' =>
      e = .returned (.tuple #[]) ∧ (∃ lv', DevAt w' b bs (D.cut kept torn half) lv' kv) ∧ Fr w w' [b, bs] := by
  by_cases ho : D.off = true
  · refine (dCut_off w b bs D lv kv h ho _ _ _).mono ?_
    rintro e w' ⟨rfl, h1, h2⟩
    exact ⟨rfl, ⟨lv, by simpa [Dev.cut, ho] using h1⟩, h2.mono (by simp)⟩
  · refine (dCut_on w b bs D lv kv h hw (by simpa using ho) kv' kept torn half T hk hoff hkb).mono ?_
    rintro e w' ⟨rfl, h1, h2⟩
    exact ⟨rfl, ⟨_, h1⟩, h2⟩

set_option maxHeartbeats 400000 in
theorem sClip_any (w : World) (A : Option Addr) (n c : Nat) (hn : n ≤ c) (hb : n ≤ 9223372036854775807) :
    Calls Try.prog 52 #[.slice A n c] w fun e w' => e = .returned (.slice A n n) ∧ w' = w := by
  go_enter Try.func52, Try.ntmps52
  go_wp2
  go_ret
  exact ⟨rfl, rfl⟩

set_option maxHeartbeats 800000 in
theorem dchange_any (w : World) (b bs : Nat) (D : Dev) (lv kv : Value) (h : DevAt w b bs D lv kv) (hw : D.Wf) (hcl : D.changes < 1000000000) (hkb : D.kept.length ≤ 1000000000000) :
    Calls Try.prog 53 #[.pointer (some ⟨b, 0, none⟩)] w fun e w' =>
      e = .returned (.int .i64 D.change.2) ∧ (∃ lv', DevAt w' b bs D.change.1 lv' kv) ∧ Fr w w' [b, bs] := by
  have c2 : w.cell? ⟨b, 2, none⟩ = some (.int .i64 D.left) := h.cell 2
  have c6 : w.cell? ⟨b, 6, none⟩ = some (.int .i64 D.changes) := h.cell 6
  have f2 := h.free 2
  have f6 := h.free 6
  have hl := hw.left
  have hc := hw.changes
  have g1 := h.store 6 (.int .i64 (D.changes + 1)) { D with changes := D.changes + 1 } lv kv rfl rfl h.loose h.kept
  have F1 := (Fr.refl w [b, bs]).grown (setCell_grown w b 6 (.int .i64 (D.changes + 1))) (by simp)
  by_cases h0 : D.left < 0
  · have HD := Lib.hid (show D.change = ({ D with changes := D.changes + 1 }, 0) by simp [Dev.change, h0])
    have HG := Lib.hid g1
    have HF := Lib.hid F1
    clear g1 F1
    go_enter Try.func53, Try.ntmps53
    go_wp2
    go_ret
    rw [HD.out]
    exact ⟨rfl, ⟨lv, HG.out⟩, HF.out⟩
  · have g2 := g1.store 2 (.int .i64 (D.left - 1)) { D with changes := D.changes + 1, left := D.left - 1 } lv kv rfl rfl g1.loose g1.kept
    have F2 := F1.grown (setCell_grown _ b 2 (.int .i64 (D.left - 1))) (by simp)
    by_cases h1 : D.left = 0
    · have HD := Lib.hid (show D.change = (({ D with changes := D.changes + 1, left := -1 } : Dev).cut D.kept D.torn D.half, 6) by simp [Dev.change, h1])
      have c3 : w.cell? ⟨b, 3, none⟩ = some kv := h.cell 3
      have c4 : w.cell? ⟨b, 4, none⟩ = some (.int .i64 D.torn) := h.cell 4
      have c5 : w.cell? ⟨b, 5, none⟩ = some (.int .i64 D.half) := h.cell 5
      have e : ({ D with changes := D.changes + 1, left := D.left - 1 } : Dev) = { D with changes := D.changes + 1, left := -1 } := by simp [h1]
      rw [e] at g2
      have HG := Lib.hid g2
      have HF := Lib.hid F2
      have H1 := Lib.hid h1
      have hlt : D.left - 1 < 0 := by omega
      have hnl : ¬ D.left < 0 := by omega
      clear g1 F1 g2 F2 h1 e
      go_enter Try.func53, Try.ntmps53
      go_wp2_with fail
      refine (dCut_any _ b bs _ lv kv HG.out ⟨hw.lo, hw.hi, hw.full, hw.loose, by simp, hw.torn, hw.half, by have := hw.many; simp only; omega, by simp only; omega⟩ kv D.kept D.torn D.half 3 HG.out.kept (HG.out.kept.offB (fun x hx => by simp at hx; subst hx; exact .inr ⟨_, _, _, HG.out.sure, by decide⟩)) hkb).mono ?_
      rintro e w' ⟨rfl, ⟨lv', hd⟩, hf⟩
      have HD2 := Lib.hid hd
      have HF2 := Lib.hid (HF.out.trans hf)
      clear hd hf
      go_wp2
      go_ret
      rw [HD.out]
      exact ⟨rfl, ⟨lv', HD2.out⟩, HF2.out⟩
    · have HD := Lib.hid (show D.change = ({ D with changes := D.changes + 1, left := D.left - 1 }, 0) by simp [Dev.change, h0, h1])
      have HG := Lib.hid g2
      have HF := Lib.hid F2
      have hlt : ¬ D.left - 1 < 0 := by omega
      clear g1 F1 g2 F2
      go_enter Try.func53, Try.ntmps53
      go_wp2
      go_ret
      rw [HD.out]
      exact ⟨rfl, ⟨lv, HG.out⟩, HF.out⟩
end Go.Proofs.Yteggldplmbegfaa

/- Dev5:  -/
/- THE DEVICE's Barrier and Read, walked. -/
set_option linter.unusedVariables false
set_option linter.unusedSimpArgs false
namespace Go.Proofs.Yteggldplmbegfaa
open Go.RowKit

theorem lzc_tail (p : Nat × List UInt8) : ∀ (j : Nat) (v : Value), (bv p.2)[j]? = some v → (lzc p).toArray[1 + j]? = some v := by
  intro j v hv
  rw [Nat.add_comm]
  simpa [lzc] using hv
theorem flat_put (s : List (List UInt8)) (i : Nat) (b : List UInt8) (hi : i < s.length) (h : ∀ x ∈ s, x.length = 256) (hb : b.length = 256) : splice (flat s) (i * 256) (bv b) = flat (s.set i b) := by
  have := flat_set s i b 0 0 hi h (by omega)
  rw [Nat.add_zero] at this
  rw [this]
  congr 2
  have hx : (s.getD i []).length = 256 := h _ (by rw [List.getD_eq_getElem?_getD, List.getElem?_eq_getElem hi]; simp)
  simp only [splice, List.take_zero, List.nil_append, Nat.zero_add, hb]
  rw [List.drop_eq_nil_of_le (by omega), List.append_nil]
theorem hw_of_change {D : Dev} (h : D.Ok) (hc : D.changes < 1000000000) : D.change.1.Wf := (Dev.change_ok h.wf hc h.keptb).wf

set_option maxRecDepth 20000 in
set_option maxHeartbeats 1000000 in
/-- What stands behind the change in a Barrier: every loose write is laid. -/
theorem dBarrier_any (w : World) (b bs : Nat) (D : Dev) (lv kv : Value) (h : DevAt w b bs D lv kv) (hok : D.Ok) (hcl : D.changes < 1000000000) :
    Calls Try.prog 18 #[.pointer (some ⟨b, 0, none⟩)] w fun e w' =>
      e = .returned (.int .i64 D.barrier.2) ∧ (∃ lv', DevAt w' b bs D.barrier.1 lv' kv) ∧ Fr w w' [b, bs] := by
  by_cases ho : D.off = true
  · have HB := Lib.hid (show D.barrier = (D, 6) by simp [Dev.barrier, ho])
    go_enter Try.func18, Try.ntmps18
    go_wp2_with fail
    refine (dOff_any _ b bs D _ kv h).mono ?_
    rintro e w' ⟨rfl, rfl⟩
    rw [ho]
    go_wp2
    go_ret
    rw [HB.out]
    exact ⟨rfl, ⟨lv, h⟩, Fr.refl _ _⟩
  · have ho' : D.off = false := by simpa using ho
    clear ho
    have hw1 := hw_of_change hok hcl
    obtain ⟨D1, hD1⟩ : ∃ D1, D1 = D.change.1 := ⟨_, rfl⟩
    obtain ⟨c1, hc1⟩ : ∃ c1, c1 = D.change.2 := ⟨_, rfl⟩
    have hch := dchange_any w b bs D lv kv h hok.wf hcl hok.keptb
    rw [← hD1, ← hc1] at hch
    rw [← hD1] at hw1
    have hbar : D.barrier = if c1 = 0 then ({ D1 with sure := Dev.settle D1.loose D1.sure, loose := [] }, 0) else (D1, c1) := by
      unfold Dev.barrier
      rw [if_neg (by simp [ho']), ← hD1, ← hc1]
      split
      · rfl
      · rw [hD1, hc1]
    have HB := Lib.hid hbar
    have HCH := Lib.hid hch
    clear hbar hD1 hc1 hch
    have hll : D1.loose.length ≤ 1000000001 := by have := hw1.many; have := hw1.changes; omega
    by_cases hc0 : c1 = 0
    · subst hc0
      go_enter Try.func18, Try.ntmps18
      go_wp2_with fail
      refine (dOff_any _ b bs D _ kv h).mono ?_
      rintro e w' ⟨rfl, rfl⟩
      rw [ho']
      go_wp2_with fail
      refine HCH.out.mono ?_
      rintro e w' ⟨rfl, ⟨lv', h1⟩, hf1⟩
      have F1 := Lib.hid hf1
      clear hf1 HCH
      have hl1 := h1.loose
      obtain ⟨A, c, rfl⟩ := hl1.shape
      have c1 : w'.cell? ⟨b, 1, none⟩ = some (.slice A D1.loose.length c) := h1.cell 1
      go_wp2_with fail
      go_loopw [18] (fun i wr => ∃ k : Nat, ∃ s : List (List UInt8), k ≤ D1.loose.length ∧ i = .int .i64 k ∧ wr.heap[bs]? = some (.cells (flat s).toArray 109 (0, 0)) ∧ Fr w' wr [bs] ∧
          Hid (Dev.settle (D1.loose.drop k) s = Dev.settle D1.loose D1.sure ∧ s.length = D1.sure.length ∧ ∀ x ∈ s, x.length = 256)) (fun i _ => D1.loose.length - (intOf i).toNat)
      case atStart => exact ⟨0, D1.sure, Nat.zero_le _, rfl, h1.sure, Fr.refl _ _, by show _ ∧ _ ∧ _; exact ⟨by simp, rfl, hw1.full⟩⟩
      case round =>
        obtain ⟨k, s, hkl, rfl, hbs, hfr, hs⟩ := hrel
        by_cases hlt : k < D1.loose.length
        · obtain ⟨g, o, rfl, cur, fr, hcur, hx, hcell⟩ := lz_at hl1 rfl (fun p hp => (hw1.loose p hp).2) k hlt
          have hp := hw1.loose D1.loose[k] (List.getElem_mem _)
          have hgb : g ≠ bs := typ_ne hcur h1.sure (by decide)
          have hrow := hfr.keep hcur (by simpa using hgb)
          obtain ⟨p, hp0⟩ : ∃ p, p = D1.loose[k] := ⟨_, rfl⟩
          rw [← hp0] at hcell hp
          have HP := Lib.hid hp0
          clear hp0
          have hz : (Try.prog.info? 111).map (·.size) = some (lzc p).length := by rw [zero111]; simp [lzc, bv_length, hp.2]
          have HC := Lib.hid hcell
          clear hcell
          have hfit := zsize111 ▸ (show 0 + (lzc p).length ≤ 257 by simp [lzc, bv_length, hp.2])
          have hone := lzc_one p
          go_upto_region 9 with (first
            | (with_reducible show wpList _ _ _ (Oper.mk _ (.load 111 _) _ _ _ _ :: _) _ _; refine wpList_load_mid rfl 111 (.tmp 20) rfl g (o + k * 257) rfl 111 cur fr _ (lzc p) hrow Try.underlying111 rfl hz HC.out ?_)
            | (with_reducible show wpList _ _ _ (Oper.mk _ (.alloc 111) _ _ _ _ :: _) _ _; refine wpList_alloc_row rfl 111 rfl _ zrow111 ?_; intro w2 hn2 hg2 hs2)
            | (with_reducible show wpList _ _ _ (Oper.mk _ (.store 111 _ _) _ _ _ _ :: _) _ _; refine wpList_store_mid rfl rfl 111 (.tmp 5) (.tmp 21) rfl wr.heap.size 0 rfl (lzc p) rfl 111 Try.zeroCells111 hn2 hz hfit hone ?_; intro w3 hn3 hg3 hs3; rw [splice111 p hp.2] at hn3; clear hn2 hfit)
            )
          have HN3 := Lib.hid hn3
          clear hn3
          have F3 : Fr wr w3 [] := ((Fr.refl wr []).grown hg2 (by simp)).grown hg3 (by simp)
          have hne : wr.heap.size ≠ bs := by have := lt_of_heap hbs; omega
          have hb3 : w3.heap[bs]? = some (.cells (flat s).toArray 109 (0, 0)) := F3.keep hbs (by simp)
          have hfr3 : Fr w' w3 [bs] := hfr.then F3 (by simp)
          have e0 : w3.cell? ⟨b, 0, none⟩ = some (.slice (some ⟨bs, 0, none⟩) D1.sure.length D1.sure.length) := by
            rw [cell_of_row _ _ _ _ _ _ (hfr3.keep h1.blk (by simpa using h1.ne))]; rfl
          have p0 : w3.cell? ⟨wr.heap.size, 0, none⟩ = some (.int .i64 p.1) := by rw [cell_of_row _ _ _ _ _ _ HN3.out]; rfl
          clear hg2 hg3 hs2 hs3 hrow hcur
          have hp1 : (p.1 : Int) < (D1.sure.length : Int) := by omega
          have hp1' : p.1 < D1.sure.length := hp.1
          refine wp_region_still_tail 9 (by kernel_rfl) (by kernel_rfl) ?_
          simp only [List.take_succ_cons, List.take_zero, List.drop_succ_cons, List.drop_zero]
          iterate 7 still_step
          refine wpStill_load_mid rfl 109 (.tmp 28) rfl wr.heap.size 1 rfl 111 _ _ _ (bv p.2) HN3.out Try.underlying109 rfl (by rw [zero109, bv_length, hp.2]) (lzc_tail p) ?_
          still_step
          refine wpStill_nil ?_
          change wpList _ _ _ _ _ w3.drew
          have hb4 : w3.drew.heap[bs]? = some (.cells (flat s).toArray 109 (0, 0)) := hb3
          have F4 : Fr w' w3.drew [bs] := hfr3.drew
          generalize w3.drew = w5 at *
          refine wpList_store_mid rfl rfl 109 (.tmp 30) (.tmp 29) rfl bs (p.1 * 256) rfl (bv p.2) rfl 109 _ hb4 (by rw [zero109, bv_length, hp.2]) ?_ (bv_one _) ?_
          · rw [List.size_toArray, flat_length _ hs.out.2.2, hs.out.2.1, bv_length]
            have : p.1 * 256 + 256 ≤ D1.sure.length * 256 := by omega
            omega
          intro w6 hn6 hg6 hs6
          rw [List.toList_toArray, flat_put s p.1 p.2 (by rw [hs.out.2.1]; exact hp1') hs.out.2.2 hp.2] at hn6
          have F6 : Fr w' w6 [bs] := F4.grown hg6 (by simp)
          have HS := Lib.hid hs.out
          clear hs hs6 hg6 hb4
          go_wp2
          go_roundw
          case rel =>
            refine ⟨k + 1, s.set p.1 p.2, by omega, by go_num, hn6, F6, ?_⟩
            show _ ∧ _ ∧ _
            refine ⟨?_, by rw [List.length_set]; exact HS.out.2.1, fun x hx => ?_⟩
            · have h2 := HS.out.1
              rw [List.drop_eq_getElem_cons hx, ← HP.out] at h2
              exact h2
            · rcases List.mem_or_eq_of_mem_set hx with h2 | rfl
              · exact HS.out.2.2 x h2
              · exact hp.2
          case measure => simp [intOf]; omega
        · obtain rfl : k = D1.loose.length := by omega
          have hs2 : s = Dev.settle D1.loose D1.sure := by have := hs.out.1; rwa [List.drop_length, Dev.settle] at this
          have hd : DevAt wr b bs { D1 with sure := s } _ kv := ⟨by
            rw [hfr.keep h1.blk (by simpa using h1.ne)]; simp only [devCells, hs.out.2.1], hbs, h1.loose.other hfr (fun x hx => by simp at hx; subst hx; exact .inr ⟨_, _, _, h1.sure, by decide⟩), h1.kept.other hfr (fun x hx => by simp at hx; subst hx; exact .inr ⟨_, _, _, h1.sure, by decide⟩)⟩
          have f1 := hd.free 1
          have d1 : wr.cell? ⟨b, 1, none⟩ = some _ := hd.cell 1
          have g1 := hd.store 1 (.slice none 0 0) { D1 with sure := s, loose := [] } (.slice none 0 0) kv rfl rfl (RowIs.nil _ _ _ _ _) hd.kept
          rw [hs2] at g1
          have HG := Lib.hid g1
          have HF := Lib.hid ((F1.out.then hfr (by simp)).grown (setCell_grown wr b 1 (.slice none 0 0)) (by simp))
          clear hs2 hs g1 hd
          go_wp2
          go_ret
          rw [HB.out]
          exact ⟨rfl, ⟨_, HG.out⟩, HF.out⟩
    · have hne : (c1 == 0) = false := by simpa using hc0
      have hne' : (c1 != 0) = true := by simpa using hc0
      rw [if_neg hc0] at HB
      clear hc0
      go_enter Try.func18, Try.ntmps18
      go_wp2_with fail
      refine (dOff_any _ b bs D _ kv h).mono ?_
      rintro e w' ⟨rfl, rfl⟩
      rw [ho']
      go_wp2_with fail
      refine HCH.out.mono ?_
      rintro e w' ⟨rfl, ⟨lv', h1⟩, hf1⟩
      have F1 := Lib.hid hf1
      clear hf1 HCH
      go_wp2
      go_ret
      rw [HB.out]
      exact ⟨rfl, ⟨_, h1⟩, F1.out⟩
end Go.Proofs.Yteggldplmbegfaa

/- Dev6:  -/
/- THE DEVICE's Read, walked. -/
set_option linter.unusedVariables false
set_option linter.unusedSimpArgs false
namespace Go.Proofs.Yteggldplmbegfaa
open Go.RowKit

theorem splice109 (b : List UInt8) (h : b.length = 256) : splice Try.zeroCells109.toList 0 (bv b) = bv b := by
  refine splice_all _ _ ?_
  have e : Try.zeroCells109.toList.length = 256 := zsize109
  rw [e, bv_length, h]
theorem flat_cell (s : List (List UInt8)) (h : ∀ x ∈ s, x.length = 256) (i : Nat) (hi : i < s.length) (j : Nat) (v : Value) (hv : (bv s[i])[j]? = some v) : (flat s).toArray[i * 256 + j]? = some v := by
  have hj : j < 256 := by
    have h2 := (List.getElem?_eq_some_iff.1 hv).1
    rw [bv_length, h _ (List.getElem_mem _)] at h2
    exact h2
  rw [List.getElem?_toArray]
  unfold flat
  rw [flatten_get 256 _ (fun l hl => by simp only [List.mem_map] at hl; obtain ⟨x, hx, rfl⟩ := hl; rw [bv_length]; exact h x hx) i j hj, List.getElem?_map, List.getElem?_eq_getElem hi]
  exact hv
/-- What a sector holds, as it was written last. -/
def Dev.at_ (D : Dev) (i : Int) : List UInt8 := Dev.now D.loose i.toNat (D.sure.getD i.toNat [])
theorem now_len : ∀ (l : List (Nat × List UInt8)) (i : Nat) (s : List UInt8), s.length = 256 → (∀ p ∈ l, p.2.length = 256) → (Dev.now l i s).length = 256
  | [], _, _, h, _ => h
  | p :: l, i, s, h, hl => now_len l i _ (by split; exact hl p (by simp); exact h) (fun q hq => hl q (by simp [hq]))

theorem dRead_no (w : World) (b bs : Nat) (D : Dev) (lv kv : Value) (h : DevAt w b bs D lv kv) (i : Int) (hm : D.may i ≠ 0) :
    Calls Try.prog 21 #[.pointer (some ⟨b, 0, none⟩), .int .i64 i] w fun e w' => e = .returned (.tuple #[.slice none 0 0, .int .i64 (D.may i)]) ∧ w' = w := by
  have hb : (D.may i != 0) = true := by simpa using hm
  obtain ⟨m, hm'⟩ : ∃ m, m = D.may i := ⟨_, rfl⟩
  have hc := dmay_any w b bs D lv kv h i
  rw [← hm'] at hc hb ⊢
  have HC := Lib.hid hc
  clear hc hm hm'
  go_enter Try.func21, Try.ntmps21
  go_wp2_with fail
  refine HC.out.mono ?_
  rintro e w' ⟨rfl, rfl⟩
  go_wp2
  go_ret2
  exact ⟨rfl, rfl⟩

set_option maxRecDepth 20000 in
set_option maxHeartbeats 1000000 in
theorem dRead_yes (w : World) (b bs : Nat) (D : Dev) (lv kv : Value) (h : DevAt w b bs D lv kv) (hw : D.Wf) (i : Int) (hm : D.may i = 0) :
    Calls Try.prog 21 #[.pointer (some ⟨b, 0, none⟩), .int .i64 i] w fun e w' => ∃ g, e = .returned (.tuple #[.slice (some ⟨g, 0, none⟩) 256 256, .int .i64 0]) ∧
      w'.heap[g]? = some (.cells (bv (D.at_ i)).toArray 109 (0, 0)) ∧ w.heap.size ≤ g ∧ Below w.heap.size w w' := by
  obtain ⟨ho, hi0, hi1⟩ := Dev.may_zero hm
  obtain ⟨j, rfl⟩ := Int.eq_ofNat_of_zero_le hi0
  have hj : j < D.sure.length := by omega
  have hc := dmay_any w b bs D lv kv h j
  rw [hm] at hc
  have HC0 := Lib.hid hc
  have hll : D.loose.length ≤ 1000000001 := by have := hw.many; have := hw.changes; omega
  have hl1 := h.loose
  obtain ⟨A, c, rfl⟩ := hl1.shape
  have c0 : w.cell? ⟨b, 0, none⟩ = some (.slice (some ⟨bs, 0, none⟩) D.sure.length D.sure.length) := h.cell 0
  have c1 : w.cell? ⟨b, 1, none⟩ = some (.slice A D.loose.length c) := h.cell 1
  have hs0 : (D.sure[j]).length = 256 := hw.full _ (List.getElem_mem _)
  obtain ⟨s0, hs1⟩ : ∃ s0, s0 = D.sure[j] := ⟨_, rfl⟩
  have hat : D.at_ j = Dev.now D.loose j s0 := by rw [hs1]; simp [Dev.at_, List.getElem?_eq_getElem hj]
  rw [hat]
  rw [← hs1] at hs0
  have hcell0 : ∀ (q : Nat) (v : Value), (bv s0)[q]? = some v → (flat D.sure).toArray[j * 256 + q]? = some v := fun q v hq => flat_cell _ hw.full j hj q v (by rw [← hs1]; exact hq)
  have HCELL := Lib.hid hcell0
  have hz9 : (Try.prog.info? 109).map (·.size) = some (bv s0).length := by rw [zero109, bv_length, hs0]
  have hfit9 := zsize109 ▸ (show 0 + (bv s0).length ≤ 256 by rw [bv_length, hs0]; omega)
  have hone9 := bv_one s0
  clear hc hm ho hat hs1 hcell0
  go_enter Try.func21, Try.ntmps21
  go_wp2_with fail
  refine HC0.out.mono ?_
  rintro e w' ⟨rfl, rfl⟩
  clear HC0
  go_upto_region 5 with (first
    | (with_reducible show wpList _ _ _ (Oper.mk _ (.load 109 _) _ _ _ _ :: _) _ _; refine wpList_load_mid rfl 109 (.tmp 21) rfl bs (j * 256) rfl 109 _ _ _ (bv s0) h.sure Try.underlying109 rfl hz9 HCELL.out ?_)
    | (with_reducible show wpList _ _ _ (Oper.mk _ (.alloc 109) _ _ _ _ :: _) _ _; refine wpList_alloc_row rfl 109 rfl _ zrow109 ?_; intro v2 hn2 hg2 hs2)
    | (with_reducible show wpList _ _ _ (Oper.mk _ (.store 109 _ _) _ _ _ _ :: _) _ _; refine wpList_store_mid rfl rfl 109 (.tmp 7) (.tmp 22) rfl w'.heap.size 0 rfl (bv s0) rfl 109 Try.zeroCells109 hn2 hz9 hfit9 hone9 ?_; intro v3 hn3 hg3 hs3; rw [splice109 s0 hs0] at hn3; clear hn2 hfit9))
  have F3 : Below w'.heap.size w' v3 := Fr.below_iff.1 (((Fr.refl w' []).grown hg2 (by simp)).grown hg3 (by simp))
  have h3 := h.below F3
  have hl3 := hl1.below F3
  have c1 : v3.cell? ⟨b, 1, none⟩ = some (.slice A D.loose.length c) := h3.cell 1
  have hsz : w'.heap.size < v3.heap.size := lt_of_heap hn3
  have HN3 := Lib.hid hn3
  have HF3 := Lib.hid F3
  clear hg2 hg3 hs2 hs3 hn3 F3 c0 HCELL hone9 hz9
  go_wp2_with fail
  go_loopw [28] (fun i wr => ∃ k : Nat, ∃ s : List UInt8, k ≤ D.loose.length ∧ i = .int .i64 k ∧ wr.heap[w'.heap.size]? = some (.cells (bv s).toArray 109 (0, 0)) ∧ Fr v3 wr [w'.heap.size] ∧
      Hid (Dev.now (D.loose.drop k) j s = Dev.now D.loose j s0 ∧ s.length = 256)) (fun i _ => D.loose.length - (intOf i).toNat)
  case atStart => exact ⟨0, s0, Nat.zero_le _, rfl, HN3.out, Fr.refl _ _, by show _ ∧ _; exact ⟨by simp, hs0⟩⟩
  case round =>
    obtain ⟨k, s, hkl, rfl, hbs, hfr, hs⟩ := hrel
    by_cases hlt : k < D.loose.length
    · obtain ⟨g, o, rfl, cur, fr, hcur, hx, hcell⟩ := lz_at hl3 rfl (fun p hp => (hw.loose p hp).2) k hlt
      have hp := hw.loose D.loose[k] (List.getElem_mem _)
      have hgb : g ≠ w'.heap.size := typ_ne hcur HN3.out (by decide)
      have hrow := hfr.keep hcur (by simpa using hgb)
      obtain ⟨p, hp0⟩ : ∃ p, p = D.loose[k] := ⟨_, rfl⟩
      rw [← hp0] at hcell hp
      have HP := Lib.hid hp0
      clear hp0
      have hz : (Try.prog.info? 111).map (·.size) = some (lzc p).length := by rw [zero111]; simp [lzc, bv_length, hp.2]
      have HC := Lib.hid hcell
      clear hcell
      have hfit := zsize111 ▸ (show 0 + (lzc p).length ≤ 257 by simp [lzc, bv_length, hp.2])
      have hone := lzc_one p
      go_upto_region 8 with (first
        | (with_reducible show wpList _ _ _ (Oper.mk _ (.load 111 _) _ _ _ _ :: _) _ _; refine wpList_load_mid rfl 111 (.tmp 30) rfl g (o + k * 257) rfl 111 cur fr _ (lzc p) hrow Try.underlying111 rfl hz HC.out ?_)
        | (with_reducible show wpList _ _ _ (Oper.mk _ (.alloc 111) _ _ _ _ :: _) _ _; refine wpList_alloc_row rfl 111 rfl _ zrow111 ?_; intro w2 hn2 hg2 hs2)
        | (with_reducible show wpList _ _ _ (Oper.mk _ (.store 111 _ _) _ _ _ _ :: _) _ _; refine wpList_store_mid rfl rfl 111 (.tmp 9) (.tmp 31) rfl wr.heap.size 0 rfl (lzc p) rfl 111 Try.zeroCells111 hn2 hz hfit hone ?_; intro w3 hn3 hg3 hs3; rw [splice111 p hp.2] at hn3; clear hn2 hfit)
        )
      have HN4 := Lib.hid hn3
      clear hn3
      have F4 : Fr wr w3 [] := ((Fr.refl wr []).grown hg2 (by simp)).grown hg3 (by simp)
      have hb4 : w3.heap[w'.heap.size]? = some (.cells (bv s).toArray 109 (0, 0)) := F4.keep hbs (by simp)
      have hfr4 : Fr v3 w3 [w'.heap.size] := hfr.then F4 (by simp)
      have p0 : w3.cell? ⟨wr.heap.size, 0, none⟩ = some (.int .i64 p.1) := by rw [cell_of_row _ _ _ _ _ _ HN4.out]; rfl
      have hnow : Dev.now (D.loose.drop (k + 1)) j (if p.1 = j then p.2 else s) = Dev.now D.loose j s0 := by
        have h2 := hs.out.1
        rw [List.drop_eq_getElem_cons hx, ← HP.out] at h2
        exact h2
      have hslen := hs.out.2
      clear hg2 hg3 hs2 hs3 hrow hcur hs
      by_cases heq : p.1 = j
      · have hbq : ((p.1 : Int) == (j : Int)) = true := beq_iff_eq.2 (by omega)
        rw [if_pos heq] at hnow
        have HNOW := Lib.hid hnow
        clear heq hnow
        have hz9 : (Try.prog.info? 109).map (·.size) = some (bv p.2).length := by rw [zero109, bv_length, hp.2]
        have hfit9 : 0 + (bv p.2).length ≤ (bv s).toArray.size := by rw [List.size_toArray, bv_length, bv_length, hp.2, hslen]; omega
        go_upto_region 10 with (first
          | (with_reducible show wpList _ _ _ (Oper.mk _ (.load 109 _) _ _ _ _ :: _) _ _; refine wpList_load_mid rfl 109 (.tmp 36) rfl wr.heap.size 1 rfl 111 _ _ _ (bv p.2) HN4.out Try.underlying109 rfl hz9 (lzc_tail p) ?_)
          | (with_reducible show wpList _ _ _ (Oper.mk _ (.store 109 _ _) _ _ _ _ :: _) _ _; refine wpList_store_mid rfl rfl 109 (.tmp 7) (.tmp 37) rfl w'.heap.size 0 rfl (bv p.2) rfl 109 (bv s).toArray hb4 hz9 hfit9 (bv_one _) ?_; intro w5 hn5 hg5 hs5))
        rw [List.toList_toArray, splice_all _ _ (by rw [bv_length, bv_length, hp.2, hslen])] at hn5
        have F5 := hfr4.grown hg5 (by simp)
        clear hg5 hs5 hb4
        go_wp2
        go_roundw
        case rel =>
          refine ⟨k + 1, p.2, by omega, by go_num, hn5, F5, ?_⟩
          show _ ∧ _
          exact ⟨HNOW.out, hp.2⟩
        case measure => simp [intOf]; omega
      · have hbq : ((p.1 : Int) == (j : Int)) = false := beq_eq_false_iff_ne.2 (by omega)
        rw [if_neg heq] at hnow
        have HNOW := Lib.hid hnow
        clear heq hnow
        go_wp2
        go_roundw
        case rel =>
          refine ⟨k + 1, s, by omega, by go_num, hb4, hfr4, ?_⟩
          show _ ∧ _
          exact ⟨HNOW.out, hslen⟩
        case measure => simp [intOf]; omega
    · obtain rfl : k = D.loose.length := by omega
      have hs2 : s = Dev.now D.loose j s0 := by have := hs.out.1; rwa [List.drop_length, Dev.now] at this
      rw [hs2] at hbs
      have HF4 := Lib.hid (Fr.below_iff.1 (((Fr.below_iff.2 HF3.out).then hfr (by simp))))
      clear hs2 hs
      go_wp2
      go_ret2
      exact ⟨w'.heap.size, rfl, hbs, Nat.le_refl _, HF4.out⟩
end Go.Proofs.Yteggldplmbegfaa

/- Grow: A REGION THAT DRAWS ITS ORDER, whose operations read, call and make memory (nothing that was there turns), and whose last ones come in one forced order: one goal an operation, whatever the order. No condition. -/
set_option linter.unusedVariables false
set_option linter.unusedSimpArgs false
namespace Go.Proofs.Yteggldplmbegfaa
open Go.RowKit

/-- The frame in which those operations have yielded that b names. -/
def fillFrom (b : Nat → Bool) (vs : Nat → Value) : Nat → List Oper → Act → Act
  | _, [], a => a
  | k, o :: l, a => fillFrom b vs (k + 1) l (if b k then a.put o.dst (vs k) else a)

theorem size_put (a : Act) (d : Option Tmp) (v : Value) : (a.put d v).tmps.size = a.tmps.size := by cases d <;> simp [Act.put]
theorem eval_put_same (a a' : Act) (d : Tmp) (v : Value) (hs : a.tmps.size = a'.tmps.size) (h : a.eval (.tmp d) = a'.eval (.tmp d)) : (a.put (some d) v).eval (.tmp d) = (a'.put (some d) v).eval (.tmp d) := by
  simp only [Act.eval, Act.put] at *
  by_cases hd : d < a.tmps.size
  · have hd' : d < a'.tmps.size := by rw [← hs]; exact hd
    simp [hd, hd']
  · rw [Array.setIfInBounds_eq_of_size_le (Nat.le_of_not_lt hd), Array.setIfInBounds_eq_of_size_le (by rw [← hs]; exact Nat.le_of_not_lt hd)]
    exact h
theorem fill_eval {b b' : Nat → Bool} {vs vs' : Nat → Value} (x : Operand) : ∀ (l : List Oper) (k : Nat) (a a' : Act), a.tmps.size = a'.tmps.size → a.eval x = a'.eval x →
    (∀ j o, l[j]? = some o → ∀ d, o.dst = some d → x = .tmp d → b (k + j) = true ∧ b' (k + j) = true ∧ vs (k + j) = vs' (k + j)) → (fillFrom b vs k l a).eval x = (fillFrom b' vs' k l a').eval x
  | [], _, _, _, _, h, _ => h
  | o :: l, k, a, a', hs, h, hh => by
    refine fill_eval x l (k + 1) _ _ ?_ ?_ (fun j o' hj d hd hx => by have := hh (j + 1) o' (by simpa using hj) d hd hx; rwa [show k + 1 + j = k + (j + 1) by omega])
    · split <;> split <;> simp [size_put, hs]
    · by_cases hx : ∃ d, o.dst = some d ∧ x = .tmp d
      · obtain ⟨d, hd, rfl⟩ := hx
        obtain ⟨h1, h2, h3⟩ := hh 0 o rfl d hd rfl
        simp only [Nat.add_zero] at h1 h2 h3
        rw [if_pos h1, if_pos h2, h3, hd]
        exact eval_put_same a a' d _ hs h
      · have hn : ∀ d, o.dst = some d → x ≠ .tmp d := fun d hd e => hx ⟨d, hd, e⟩
        have e1 : ∀ (c : Act) (v : Value), (c.put o.dst v).eval x = c.eval x := fun c v => Act.eval_put hn
        split <;> split <;> simp only [e1, h]
theorem fill_comm {b : Nat → Bool} {vs : Nat → Value} (dst : Option Tmp) (v : Value) : ∀ (l : List Oper) (k : Nat) (a : Act), (∀ (j : Nat) (o : Oper), l[j]? = some o → ∀ d, dst = some d → o.dst ≠ some d) →
    fillFrom b vs k l (a.put dst v) = (fillFrom b vs k l a).put dst v
  | [], _, _, _ => rfl
  | o :: l, k, a, h => by
    have ih := fun c => fill_comm (b := b) (vs := vs) dst v l (k + 1) c (fun j o' hj => h (j + 1) o' (by simpa using hj))
    simp only [fillFrom]
    by_cases hb : b k = true
    · simp only [hb, if_true]
      rw [Act.put_comm a v (vs k) (h 0 o rfl)]
      exact ih _
    · simp only [hb]
      exact ih _
theorem fill_congr {b b' : Nat → Bool} {vs vs' : Nat → Value} : ∀ (l : List Oper) (k : Nat) (a : Act), (∀ j, j < l.length → b (k + j) = b' (k + j) ∧ (b (k + j) = true → vs (k + j) = vs' (k + j))) → fillFrom b vs k l a = fillFrom b' vs' k l a
  | [], _, _, _ => rfl
  | o :: l, k, a, h => by
    have h0 := h 0 (by simp)
    simp only [Nat.add_zero] at h0
    have ih := fun c => fill_congr (b := b) (b' := b') (vs := vs) (vs' := vs') l (k + 1) c (fun j hj => by have := h (j + 1) (by simpa using hj); rwa [show k + 1 + j = k + (j + 1) by omega])
    simp only [fillFrom]
    rw [ih, ← h0.1]
    by_cases hb : b k = true
    · rw [if_pos hb, if_pos hb, h0.2 hb]
    · rw [if_neg hb, if_neg hb]
theorem fill_list {b : Nat → Bool} {vs : Nat → Value} (v : Value) : ∀ (l : List Oper) (k i : Nat) (o : Oper) (a : Act), l[i]? = some o → b (k + i) = false → (∀ j o', l[j]? = some o' → j ≠ i → ∀ d, o.dst = some d → o'.dst ≠ some d) →
    fillFrom (fun j => b j || j == k + i) (fun j => if j = k + i then v else vs j) k l a = (fillFrom b vs k l a).put o.dst v
  | [], _, i, _, _, hi, _, _ => by simp at hi
  | o' :: l, k, 0, o, a, hi, hb, hd => by
    obtain rfl : o' = o := by simpa using hi
    simp only [Nat.add_zero] at hb ⊢
    simp only [fillFrom, hb, Bool.false_or, beq_self_eq_true, if_true]
    rw [if_neg (by simp)]
    rw [← fill_comm o'.dst v l (k + 1) a (fun j o2 hj => hd (j + 1) o2 (by simpa using hj) (by omega))]
    exact fill_congr l (k + 1) _ (fun j hj => ⟨by simp; omega, fun _ => by rw [if_neg (by omega)]⟩)
  | o' :: l, k, i + 1, o, a, hi, hb, hd => by
    have e : k + (i + 1) = k + 1 + i := by omega
    rw [e] at hb ⊢
    simp only [fillFrom]
    have h1 : (b k || k == k + 1 + i) = b k := by simp; omega
    rw [h1, if_neg (show ¬ k = k + 1 + i by omega)]
    exact fill_list v l (k + 1) i o _ (by simpa using hi) hb (fun j o2 hj hne => hd (j + 1) o2 (by simpa using hj) (by omega))

/-- An operation, carried out if its guard says so; it must not panic. -/
def Oper.wpG (P : Program) (ops : Array Oper) (o : Oper) (a : Act) (w : World) (K : Act → World → Prop) : Prop :=
  match o.guard with
  | none => o.wp P a w K (fun _ _ _ => False)
  | some g => if yielded ops a.tmps g.1 = some g.2 then o.wp P a w K (fun _ _ _ => False) else K (a.put o.dst undef) w
theorem tmps_eval {a c : Act} {t : Tmp} (hs : a.tmps.size = c.tmps.size) (h : a.eval (.tmp t) = c.eval (.tmp t)) : a.tmps[t]? = c.tmps[t]? := by
  simp only [Act.eval] at h
  by_cases ht : t < a.tmps.size
  · have ht' : t < c.tmps.size := by rw [← hs]; exact ht
    simp [ht, ht'] at h ⊢
    exact h
  · rw [Array.getElem?_eq_none (Nat.le_of_not_lt ht), Array.getElem?_eq_none (by rw [← hs]; exact Nat.le_of_not_lt ht)]

/-- What an operation of the head looks at among the region's own slots, it waits for; no two of them write one slot; none is guarded. -/
def growB (ops : Array Oper) (n : Nat) : Bool :=
  (List.range n).all fun i => match ops[i]? with
    | none => true
    | some o => (o.after.all fun e => !Region.binds .any e || decide (e.on < i)) && (match o.op with | .select .. => false | _ => true) &&
      ((o.looksAt ops).all fun t => (List.range n).all fun j => match ops[j]? with | some oj => oj.dst != some t || Region.waitsFor .any ops i j | none => true) &&
      (List.range n).all fun j => j == i || (match ops[j]?, o.dst with | some oj, some d => oj.dst != some d | _, _ => true)
def headDone (n m : Nat) : Array Bool := (List.replicate n true ++ List.replicate m false).toArray
def growAll (ops : Array Oper) (n : Nat) : Bool :=
  growB ops n && decide (n < ops.size) && Region.sinkB .any ops n && Region.chainB .any ops n && Region.seqB .any ops (ops.size - n) n (headDone n (ops.size - n))
/-- Which operations an operation waits for. -/
def waitsOn (ops : Array Oper) (i : Nat) : List Nat := (List.range ops.size).filter fun j => Region.waitsFor .any ops i j

section
variable {P : Program}

theorem put_inj {a c : Act} {d : Option Tmp} {u v : Value} (hs : a.tmps.size = c.tmps.size) (h : c.put d v = c.put d u) : a.put d u = a.put d v := by
  cases d with
  | none => rfl
  | some d =>
    simp only [Act.put, Act.mk.injEq, and_true] at h ⊢
    by_cases hd : d < c.tmps.size
    · have h2 := congrArg (fun t => t[d]?) h
      simp [hd] at h2
      rw [h2]
    · rw [Array.setIfInBounds_eq_of_size_le (by rw [hs]; exact Nat.le_of_not_lt hd), Array.setIfInBounds_eq_of_size_le (by rw [hs]; exact Nat.le_of_not_lt hd)]

theorem size_fill {b : Nat → Bool} {vs : Nat → Value} : ∀ (l : List Oper) (k : Nat) (a : Act), (fillFrom b vs k l a).tmps.size = a.tmps.size
  | [], _, _ => rfl
  | o :: l, k, a => by
    simp only [fillFrom]
    rw [size_fill l (k + 1)]
    split <;> simp [size_put]

theorem wp_region_turn {id : Nat} {l : List Oper} {Q : Exit → Act → World → Prop} {a0 : Act} {w0 : World} (n : Nat) (hm : P.follows .mixedOrders = true) (hB : growAll l.toArray n = true)
    (C : World → Prop) (G : World → World → Prop) (V : Nat → Value → World → Prop) (hC0 : C { w0 with drawn := w0.drawn + 1 }) (hV : ∀ j v w w', V j v w → G w w' → V j v w')
    (hstep : ∀ i o, i < n → l[i]? = some o → ∀ (vs : Nat → Value) (w : World), C w → (∀ j ∈ waitsOn l.toArray i, V j (vs j) w) → ∀ K : Act → World → Prop,
      (∀ v w', C w' → G w w' → V i v w' → K ((fillFrom (fun _ => true) vs 0 (l.take n) a0).put o.dst v) w') → Oper.wpG P l.toArray o (fillFrom (fun _ => true) vs 0 (l.take n) a0) w K)
    (hfin : ∀ (vs : Nat → Value) (w : World), C w → (∀ j, j < n → V j (vs j) w) → wpList P l.toArray Q (l.drop n) (fillFrom (fun _ => true) vs 0 (l.take n) a0) w) :
    (Code.region id l.toArray true).wp P Q a0 w0 := by
  simp only [growAll, Bool.and_eq_true, decide_eq_true_eq] at hB
  obtain ⟨⟨⟨⟨hg, hn⟩, hs⟩, hc⟩, hq⟩ := hB
  have hn' : n < l.length := by simpa using hn
  have htl : (l.take n).length = n := by simp; omega
  have htk : ∀ i o, i < n → l[i]? = some o → (l.take n)[i]? = some o := fun i o hi ho => by rw [List.getElem?_take, if_pos hi, ho]
  have hgB : ∀ i o, i < n → l[i]? = some o → (∀ e ∈ o.after, Region.binds .any e = true → e.on < i) ∧ (∀ cs b, o.op ≠ .select cs b) ∧ (∀ t ∈ o.looksAt l.toArray, ∀ j oj, j < n → l[j]? = some oj → oj.dst = some t → Region.waitsFor .any l.toArray i j = true) ∧
      ∀ j oj, j < n → l[j]? = some oj → j ≠ i → ∀ d, o.dst = some d → oj.dst ≠ some d := fun i o hi ho => by
    have h1 := List.all_eq_true.1 hg i (by simpa using hi)
    have ho' : l.toArray[i]? = some o := by simpa using ho
    simp only [ho', Bool.and_eq_true, List.all_eq_true] at h1
    obtain ⟨⟨⟨h20, h3⟩, h4⟩, h5⟩ := h1
    refine ⟨fun e he hb => by have h7 := Array.all_eq_true'.1 h20 e he; simpa [hb] using h7, fun cs b e => by rw [e] at h3; simp at h3, fun t ht j oj hj hoj hd => ?_, fun j oj hj hoj hne d hd e => ?_⟩
    · have h6 := h4 t ht j (by simpa using hj)
      have hoj' : l.toArray[j]? = some oj := by simpa using hoj
      simp only [hoj', hd, bne_self_eq_false, Bool.false_or] at h6
      exact h6
    · have h6 := h5 j (by simpa using hj)
      have hoj' : l.toArray[j]? = some oj := by simpa using hoj
      simp only [hoj', hd, e, bne_self_eq_false, Bool.or_false, beq_iff_eq] at h6
      exact hne h6
  refine wp_region_any hm ?_
  have main : ∀ (f : Nat) (listed : Array Bool) (vs : Nat → Value) (w : World), HeadInv .any l.toArray n listed → ((List.range n).filter fun j => !listed.getD j true).length = f → C w →
      (∀ j, j < n → listed.getD j false = true → V j (vs j) w) → wpAny P .any l.toArray Q (f + (l.length - n)) listed (fillFrom (fun j => listed.getD j false) vs 0 (l.take n) a0) w := by
    intro f
    induction f with
    | zero =>
      intro listed vs w inv hf hw hv
      have hall : ∀ j, j < n → listed.getD j false = true := fun j hj => by
        have h1 := List.eq_nil_of_length_eq_zero hf
        have h2 := (List.filter_eq_nil_iff.1 h1) j (by simpa using hj)
        have hlt : j < listed.size := by rw [inv.size]; simp; omega
        simp [hlt] at h2 ⊢
        exact h2
      have hl : listed = headDone n (l.toArray.size - n) := by
        refine Array.ext' ?_
        refine List.ext_getElem? fun j => ?_
        simp only [headDone, Array.getElem?_toList]
        by_cases hj : j < n
        · have h1 := hall j hj
          have hlt : j < listed.size := by rw [inv.size]; simp; omega
          rw [List.getElem?_append_left (by simpa using hj), List.getElem?_replicate, if_pos hj, Array.getElem?_eq_getElem hlt]
          simp [hlt] at h1
          rw [h1]
        · rw [List.getElem?_append_right (by simp; omega), List.getElem?_replicate]
          by_cases hj2 : j < l.toArray.size
          · have h1 := inv.tail j (by omega) hj2
            have hlt : j < listed.size := by rw [inv.size]; exact hj2
            simp only [List.length_replicate]
            rw [if_pos (by omega), Array.getElem?_eq_getElem hlt]
            simp [hlt] at h1
            rw [h1]
          · simp only [List.length_replicate]
            rw [if_neg (by omega), Array.getElem?_eq_none (by rw [inv.size]; omega)]
      have e : fillFrom (fun j => listed.getD j false) vs 0 (l.take n) a0 = fillFrom (fun _ => true) vs 0 (l.take n) a0 :=
        fill_congr _ _ _ (fun j hj => ⟨by simp only [Nat.zero_add]; exact hall j (by rw [htl] at hj; exact hj), fun _ => rfl⟩)
      rw [e, Nat.zero_add]
      have hd : (l.drop n).length = l.length - n := by simp
      have := wpAny_of_seq (md := .any) (Q' := Q) (l.drop n) n listed _ w (fun j => by simp [List.getElem?_drop]) (by rw [hd, hl]; simpa using hq) (hfin vs w hw (fun j hj => hv j hj (hall j hj)))
      rwa [hd] at this
    | succ f ih =>
      intro listed vs w inv hf hw hv
      have hex : ∃ j, j < n ∧ listed.getD j true = false := by
        have : ((List.range n).filter fun j => !listed.getD j true) ≠ [] := fun e => by rw [e] at hf; simp at hf
        obtain ⟨j, hj⟩ := List.exists_mem_of_ne_nil _ this
        simp only [List.mem_filter, List.mem_range, Bool.not_eq_true'] at hj
        exact ⟨j, hj.1, hj.2⟩
      obtain ⟨j0, hj0, hl0⟩ := hex
      have hwait := tail_waits hs hc hn inv (n - j0) j0 rfl hj0 hl0
      rw [show f + 1 + (l.length - n) = (f + (l.length - n)) + 1 by omega]
      -- an operation of the head is ready: the first that isn't listed
      have hready : ∀ i ∈ Region.ready .any l.toArray listed, i < n := fun i hi => by
        rcases Nat.lt_or_ge i n with h | h
        · exact h
        · exact absurd hi (hwait i h)
      have hmin : ∃ i, i < n ∧ listed.getD i true = false ∧ ∀ j, j < i → listed.getD j true = true := by
        have : ∀ m j, j ≤ m → j < n → listed.getD j true = false → ∃ i, i < n ∧ listed.getD i true = false ∧ ∀ q, q < i → listed.getD q true = true := by
          intro m
          induction m with
          | zero => intro j hjm hj hl; exact ⟨j, hj, hl, fun q hq => by omega⟩
          | succ m ihm =>
            intro j hjm hj hl
            by_cases hq : ∃ q, q < j ∧ listed.getD q true = false
            · obtain ⟨q, hq1, hq2⟩ := hq
              exact ihm q (by omega) (by omega) hq2
            · exact ⟨j, hj, hl, fun q hq' => by
                cases h : listed.getD q true with
                | true => rfl
                | false => exact absurd ⟨q, hq', h⟩ hq⟩
        exact this j0 j0 (Nat.le_refl _) hj0 hl0
      obtain ⟨i0, hi0, hli0, hlt0⟩ := hmin
      have hin : i0 ∈ Region.ready .any l.toArray listed := by
        refine mem_ready.2 ⟨hli0, l[i0]'(by omega), by simp [show i0 < l.length by omega], fun e he hb => ?_⟩
        have h1 := (hgB i0 _ hi0 (List.getElem?_eq_getElem (show i0 < l.length by omega))).1 e he hb
        have h2 := hlt0 e.on h1
        have hlt : e.on < listed.size := by rw [inv.size]; simp; omega
        simp [hlt] at h2 ⊢
        exact h2
      refine ⟨fun h0 => (by rw [h0] at hin; cases hin), fun i hi => ?_⟩
      have hin' := hready i hi
      obtain ⟨hlf, o, ho, hpre⟩ := mem_ready.1 hi
      have ho' : l[i]? = some o := by simpa using ho
      obtain ⟨hback, hsel, hdep, hdst⟩ := hgB i o hin' ho'
      unfold wpOp
      simp only [ho]
      have hlo : listed.getD i false = false := getD_both hlf
      have hVp : ∀ j ∈ waitsOn l.toArray i, V j (vs j) w := fun j hj => by
        have h1 : Region.waitsFor .any l.toArray i j = true := by simpa using (List.mem_filter.1 hj).2
        obtain ⟨oj, hoj, e, he, hb, rfl⟩ := Region.waitsFor_spec h1
        have : oj = o := Option.some.inj (hoj.symm.trans ho)
        subst this
        exact hv _ (by have := hback e he hb; omega) (hpre e he hb)
      have hlook : ∀ d ∈ o.looksAt l.toArray, (fillFrom (fun j => listed.getD j false) vs 0 (l.take n) a0).eval (.tmp d) = (fillFrom (fun _ => true) vs 0 (l.take n) a0).eval (.tmp d) := fun d hd => by
        refine fill_eval (.tmp d) _ _ _ _ rfl rfl (fun j oj hj d' hd' hxd => ?_)
        have hj2 : j < n := by have := (List.getElem?_eq_some_iff.1 hj).1; rwa [htl] at this
        have hoj : l[j]? = some oj := by rw [List.getElem?_take, if_pos hj2] at hj; exact hj
        have hdd : d' = d := by injection hxd with h1; exact h1.symm
        subst hdd
        have hw1 := hdep d' hd j oj hj2 hoj hd'
        obtain ⟨oi, hoi, e, he, hb, hej⟩ := Region.waitsFor_spec hw1
        have : oi = o := Option.some.inj (hoi.symm.trans ho)
        subst this
        have := hpre e he hb
        rw [hej] at this
        exact ⟨by simpa using this, rfl, rfl⟩
      have hex : execOp (fillFrom (fun j => listed.getD j false) vs 0 (l.take n) a0).eval o = execOp (fillFrom (fun _ => true) vs 0 (l.take n) a0).eval o := by
        refine execOp_congr o hsel fun x hx => ?_
        cases x with
        | tmp d => exact hlook d (List.mem_append_left _ (List.mem_filterMap.2 ⟨.tmp d, by simpa using hx, rfl⟩))
        | _ => rfl
      have hwant : ∀ g, o.guard = some g → yielded l.toArray (fillFrom (fun j => listed.getD j false) vs 0 (l.take n) a0).tmps g.1 = yielded l.toArray (fillFrom (fun _ => true) vs 0 (l.take n) a0).tmps g.1 := fun g hg => by
        unfold yielded
        cases ht : (l.toArray[g.1]?).bind (·.dst) with
        | none => rfl
        | some t =>
          have h1 := hlook t (List.mem_append_right _ (by rw [hg]; simp only [ht]; simp))
          simp only [Option.bind_some, tmps_eval (by rw [size_fill, size_fill]) h1]
      have H := hstep i o hin' ho' vs w hw hVp (fun a' w' => (∃ v, a' = (fillFrom (fun _ => true) vs 0 (l.take n) a0).put o.dst v) ∧ ∀ v, a' = (fillFrom (fun _ => true) vs 0 (l.take n) a0).put o.dst v →
        wpAny P .any l.toArray Q (f + (l.length - n)) (listed.setIfInBounds i true) ((fillFrom (fun j => listed.getD j false) vs 0 (l.take n) a0).put o.dst v) w') ?_
      · -- from the full frame to the frame as it stands
        have out : o.wp P (fillFrom (fun _ => true) vs 0 (l.take n) a0) w (fun a' w' => (∃ v, a' = (fillFrom (fun _ => true) vs 0 (l.take n) a0).put o.dst v) ∧ ∀ v, a' = (fillFrom (fun _ => true) vs 0 (l.take n) a0).put o.dst v →
            wpAny P .any l.toArray Q (f + (l.length - n)) (listed.setIfInBounds i true) ((fillFrom (fun j => listed.getD j false) vs 0 (l.take n) a0).put o.dst v) w') (fun _ _ _ => False) →
            o.wp P (fillFrom (fun j => listed.getD j false) vs 0 (l.take n) a0) w (wpAny P .any l.toArray Q (f + (l.length - n)) (listed.setIfInBounds i true)) Q := fun H => by
          unfold Oper.wp at H ⊢
          rw [hex]
          generalize (execOp (fillFrom (fun _ => true) vs 0 (l.take n) a0).eval o).run P w = r at H ⊢
          cases r with
          | ok nx w' =>
            cases nx with
            | value v => exact H.2 v rfl
            | skip => exact H.2 undef rfl
            | enter fn args => exact Calls.mono H (fun e w'' he => by
                cases e with
                | returned v => exact he.2 v rfl
                | panicked c => exact he.elim
                | outgrown => obtain ⟨_, _, h1⟩ := he; exact h1.elim)
            | row rw_ args => exact Rows.mono H (fun v w'' he => he.2 v rfl)
            | defer d =>
              obtain ⟨v, hv⟩ := H.1
              have h1 := congrArg (fun a => a.defers.length) hv
              cases hd : o.dst <;> simp [Act.put, hd] at h1
            | _ => exact H.elim
          | halt x w' => cases x <;> exact H.elim
        cases hg : o.guard with
        | none =>
          rw [if_pos (by simp [Region.wanted, hg])]
          unfold Oper.wpG at H
          rw [hg] at H
          exact .inl (out H)
        | some g =>
          unfold Oper.wpG at H
          rw [hg] at H
          simp only at H
          by_cases hy : yielded l.toArray (fillFrom (fun _ => true) vs 0 (l.take n) a0).tmps g.1 = some g.2
          · rw [if_pos hy] at H
            rw [if_pos (by simp only [Region.wanted, hg, hwant g hg, hy, beq_self_eq_true])]
            exact .inl (out H)
          · rw [if_neg hy] at H
            rw [if_neg (by simp only [Region.wanted, hg, hwant g hg, beq_iff_eq]; exact hy)]
            exact H.2 undef rfl
      · intro v w' hCw hb hVi
        refine ⟨⟨v, rfl⟩, fun u hu => ?_⟩
        have e1 : (fillFrom (fun j => listed.getD j false) vs 0 (l.take n) a0).put o.dst u = (fillFrom (fun j => listed.getD j false) vs 0 (l.take n) a0).put o.dst v := put_inj (by rw [size_fill, size_fill]) hu
        rw [e1]
        have e2 := fill_list (b := fun j => listed.getD j false) (vs := vs) v (l.take n) 0 i o a0 (htk i o hin' ho') (by simpa using hlo) (fun j oj hj hne d hd => by
          have hj2 : j < n := by have := (List.getElem?_eq_some_iff.1 hj).1; rwa [htl] at this
          exact hdst j oj hj2 (by rw [List.getElem?_take, if_pos hj2] at hj; exact hj) hne d hd)
        simp only [Nat.zero_add] at e2
        rw [← e2]
        have hlt : i < listed.size := by rw [inv.size]; simp; omega
        have e3 : (fun j => listed.getD j false || j == i) = fun j => (listed.setIfInBounds i true).getD j false := by
          funext j
          by_cases hj : j = i
          · subst hj; simp [hlt]
          · rw [getD_set_ne false (fun e => hj e.symm)]; simp [hj]
        rw [e3]
        refine ih _ _ w' (inv.set hi hin') ?_ hCw (fun j hj hl => ?_)
        · have h1 : ((List.range n).filter fun j => !(listed.setIfInBounds i true).getD j true) = ((List.range n).filter fun j => !listed.getD j true).erase i := by
            rw [List.Nodup.erase_eq_filter (List.Pairwise.filter _ List.nodup_range)]
            rw [List.filter_filter]
            refine List.filter_congr fun j hj => ?_
            by_cases hji : j = i
            · subst hji; simp [hlt]
            · rw [getD_set_ne true (fun e => hji e.symm)]; simp [hji]
          rw [h1, List.length_erase_of_mem (by simp only [List.mem_filter, List.mem_range, Bool.not_eq_true']; exact ⟨hin', hlf⟩), hf]
          rfl
        · by_cases hji : j = i
          · subst hji; simpa using hVi
          · rw [if_neg hji]
            rw [getD_set_ne false (fun e => hji e.symm)] at hl
            exact hV j _ _ _ (hv j hj hl) hb
  have h0 := main n (Array.replicate l.toArray.size false) (fun _ => undef) { w0 with drawn := w0.drawn + 1 }
    ⟨by simp, fun j oj _ hl => (by rw [getD_replicate_false] at hl; cases hl), fun t _ ht => getD_in (by simpa using ht) (getD_replicate_false _ _)⟩
    (by rw [List.filter_eq_self.2 (fun j hj => by rw [getD_in (by simp at hj ⊢; omega) (getD_replicate_false _ _)]; rfl)]; simp) hC0
    (fun j hj hl => by rw [getD_replicate_false] at hl; cases hl)
  have e0 : fillFrom (fun j => (Array.replicate l.toArray.size false).getD j false) (fun _ => undef) 0 (l.take n) a0 = a0 := by
    have : ∀ (L : List Oper) (k : Nat) (a : Act), fillFrom (fun j => (Array.replicate l.toArray.size false).getD j false) (fun _ => undef) k L a = a := by
      intro L
      induction L with
      | nil => intros; rfl
      | cons o L ih => intro k a; simp only [fillFrom]; rw [if_neg (by rw [getD_replicate_false]; simp)]; exact ih _ _
    exact this _ _ _
  rw [e0, show n + (l.length - n) = l.length by omega] at h0
  simpa using h0
/-- One claim an operation, in the order of the text. -/
def stepsAll (S : Nat → Oper → Prop) : Nat → List Oper → Prop
  | _, [] => True
  | k, o :: l => S k o ∧ stepsAll S (k + 1) l
theorem stepsAll_at {S : Nat → Oper → Prop} : ∀ (l : List Oper) (k i : Nat) (o : Oper), stepsAll S k l → l[i]? = some o → S (k + i) o
  | [], _, _, _, _, h => by simp at h
  | o' :: l, k, 0, o, h, hi => by
    obtain rfl : o' = o := by simpa using hi
    exact h.1
  | o' :: l, k, i + 1, o, h, hi => by
    have := stepsAll_at l (k + 1) i o h.2 (by simpa using hi)
    rwa [show k + 1 + i = k + (i + 1) by omega] at this

/-- The goal of one operation: what it waits for has yielded what V says; it yields such a value, and nothing that was there has turned. -/
def GrowStep (P : Program) (l : List Oper) (n : Nat) (a0 : Act) (w0 : World) (V : Nat → Value → World → Prop) (i : Nat) (o : Oper) : Prop :=
  ∀ (vs : Nat → Value) (w : World), Below w0.heap.size w0 w → (∀ j ∈ waitsOn l.toArray i, V j (vs j) w) → ∀ K : Act → World → Prop,
    (∀ v w', Below w.heap.size w w' → V i v w' → K ((fillFrom (fun _ => true) vs 0 (l.take n) a0).put o.dst v) w') → Oper.wpG P l.toArray o (fillFrom (fun _ => true) vs 0 (l.take n) a0) w K

/-- The same where something that was there may turn: C holds throughout, each step is a G. -/
def TurnStep (P : Program) (l : List Oper) (n : Nat) (a0 : Act) (C : World → Prop) (G : World → World → Prop) (V : Nat → Value → World → Prop) (i : Nat) (o : Oper) : Prop :=
  ∀ (vs : Nat → Value) (w : World), C w → (∀ j ∈ waitsOn l.toArray i, V j (vs j) w) → ∀ K : Act → World → Prop,
    (∀ v w', C w' → G w w' → V i v w' → K ((fillFrom (fun _ => true) vs 0 (l.take n) a0).put o.dst v) w') → Oper.wpG P l.toArray o (fillFrom (fun _ => true) vs 0 (l.take n) a0) w K
theorem wp_region_turns {id : Nat} {l : List Oper} {Q : Exit → Act → World → Prop} {a0 : Act} {w0 : World} (n : Nat) (hm : P.follows .mixedOrders = true) (hB : growAll l.toArray n = true)
    (C : World → Prop) (G : World → World → Prop) (V : Nat → Value → World → Prop) (hC0 : C w0.drew) (hV : ∀ j v w w', V j v w → G w w' → V j v w')
    (hstep : stepsAll (TurnStep P l n a0 C G V) 0 (l.take n))
    (hfin : ∀ (vs : Nat → Value) (w : World), C w → (∀ j, j < n → V j (vs j) w) → wpList P l.toArray Q (l.drop n) (fillFrom (fun _ => true) vs 0 (l.take n) a0) w) :
    (Code.region id l.toArray true).wp P Q a0 w0 :=
  wp_region_turn n hm hB C G V hC0 hV (fun i o hi ho vs w hw hp K hK => by
    have h := stepsAll_at (l.take n) 0 i o hstep (by rw [List.getElem?_take, if_pos hi, ho])
    rw [Nat.zero_add] at h
    exact h vs w hw hp K hK) hfin
theorem wp_region_grows {id : Nat} {l : List Oper} {Q : Exit → Act → World → Prop} {a0 : Act} {w0 : World} (n : Nat) (hm : P.follows .mixedOrders = true) (hB : growAll l.toArray n = true)
    (V : Nat → Value → World → Prop) (hV : ∀ j v w w', V j v w → Below w.heap.size w w' → V j v w')
    (hstep : stepsAll (GrowStep P l n a0 w0 V) 0 (l.take n))
    (hfin : ∀ (vs : Nat → Value) (w : World), Below w0.heap.size w0 w → (∀ j, j < n → V j (vs j) w) → wpList P l.toArray Q (l.drop n) (fillFrom (fun _ => true) vs 0 (l.take n) a0) w) :
    (Code.region id l.toArray true).wp P Q a0 w0 :=
  wp_region_turn n hm hB (fun w => Below w0.heap.size w0 w) (fun w w' => Below w.heap.size w w') V ⟨rfl, rfl, rfl, Nat.le_refl _, fun _ _ => rfl⟩ hV (fun i o hi ho vs w hw hp K hK => by
    have h := stepsAll_at (l.take n) 0 i o hstep (by rw [List.getElem?_take, if_pos hi, ho])
    rw [Nat.zero_add] at h
    exact h vs w hw hp K (fun v w' hb hv => hK v w' (hw.trans (hb.mono hw.size)) hb hv)) hfin
/-- An operation that yields a value. -/
theorem wp_value {o : Oper} {a : Act} {w w' : World} {K : Act → World → Prop} {Q : Exit → Act → World → Prop} {v : Value} (hx : (execOp a.eval o).run P w = .ok (.value v) w') (h : K (a.put o.dst v) w') : o.wp P a w K Q := by
  unfold Oper.wp
  rw [hx]
  exact h
/-- An operation that calls. -/
theorem wp_calls {o : Oper} {a : Act} {w w' : World} {K : Act → World → Prop} {Q : Exit → Act → World → Prop} {f : FuncId} {args : Array Value} (hx : (execOp a.eval o).run P w = .ok (.enter f args) w')
    (h : Calls P f args w' fun e w'' => ∃ v, e = .returned v ∧ K (a.put o.dst v) w'') : o.wp P a w K Q := by
  unfold Oper.wp
  rw [hx]
  exact Calls.mono h (fun e w'' ⟨v, he, hk⟩ => by subst he; exact hk)
end
end Go.Proofs.Yteggldplmbegfaa

/- App: APPEND AND SLICE LITERALS, told by what their slices read as. No condition. -/
set_option linter.unusedVariables false
set_option linter.unusedSimpArgs false
namespace Go.Proofs.Yteggldplmbegfaa
open Go.RowKit

theorem RowIs.of_owns {w : World} {base : Nat} {e : TypeId} {size n : Nat} {v : Value} {xs : List Value} (h : w.ownsRow base e size v n xs) : RowIs w v e size n xs := by
  refine ⟨h.1, ?_⟩
  rcases h.2 with ⟨rfl, rfl⟩ | ⟨g, cap, cur, rfl, _, hh, hn, _, hs, ht⟩
  · exact .inl ⟨rfl, none, 0, rfl⟩
  · refine .inr ⟨g, 0, cap, cur, (0, 0), rfl, hn, hh, fun j x hj => ?_⟩
    rw [Nat.zero_add, ← Array.getElem?_toList]
    rw [← ht, List.getElem?_take] at hj
    split at hj
    · exact hj
    · cases hj
theorem RowIs.cells {w : World} {A : Option Addr} {T : TypeId} {sz n c : Nat} {cs : List Value} (h : RowIs w (.slice A n c) T sz n cs) : ∀ b, A = some b → ∀ j u, cs[j]? = some u → w.cell? (b.add j) = some u := by
  rintro b rfl j u hj
  rcases h.2 with ⟨rfl, _⟩ | ⟨g, o, c', cur, fr, hv, hc, hg, hx⟩
  · have h1 := (List.getElem?_eq_some_iff.1 hj).1
    have h2 := h.1
    rw [Nat.zero_mul] at h2
    omega
  · simp only [Value.slice.injEq, Option.some.injEq] at hv
    obtain ⟨rfl, _, _⟩ := hv
    rw [addr_add, cell_of_row _ _ _ _ _ _ hg]
    exact hx j u hj
theorem RowIs.nonempty {w : World} {A : Option Addr} {T : TypeId} {sz n c : Nat} {cs : List Value} (h : RowIs w (.slice A n c) T sz n cs) (hn : n ≠ 0) : ∃ b, A = some b := by
  rcases h.2 with ⟨h0, _⟩ | ⟨g, o, c', cur, fr, hv, _⟩
  · exact absurd h0 hn
  · simp only [Value.slice.injEq] at hv
    exact ⟨_, hv.1⟩

theorem RowIs.le {w : World} {A : Option Addr} {T : TypeId} {sz n c : Nat} {cs : List Value} (h : RowIs w (.slice A n c) T sz n cs) : n ≤ c := by
  rcases h.2 with ⟨rfl, _⟩ | ⟨g, o, c', cur, fr, hv, hc, _⟩
  · omega
  · simp only [Value.slice.injEq] at hv
    omega
/-- The capacity cut down. -/
theorem RowIs.clip {w : World} {A : Option Addr} {T : TypeId} {sz n c c2 : Nat} {cs : List Value} (h : RowIs w (.slice A n c) T sz n cs) (hc : n ≤ c2) : RowIs w (.slice A n c2) T sz n cs := by
  refine ⟨h.1, ?_⟩
  rcases h.2 with ⟨rfl, _⟩ | ⟨g, o, c', cur, fr, hv, _, hg, hx⟩
  · exact .inl ⟨rfl, A, c2, rfl⟩
  · simp only [Value.slice.injEq] at hv
    obtain ⟨rfl, _, _⟩ := hv
    exact .inr ⟨g, o, c2, cur, fr, rfl, hc, hg, hx⟩

section
variable {P : Program}
/-- An append that must make a new row. -/
theorem wp_append_grow {o : Oper} {a : Act} {w : World} {K : Act → World → Prop} {Q : Exit → Act → World → Prop} (hg : o.guard = none) (s x : Operand) (t : TypeId)
    (hop : o.op = Op.call { callee := Callee.builtin Builtin.append, args := #[s, x], argTypes := #[t, t] })
    (e : TypeId) (i : TypeInfo) (z : Value) (size bytes : Nat) (h1 : P.underlying t = some (.slice e)) (h2 : P.info? e = some i) (h3 : i.zero = some z) (h4 : i.size = size) (h5 : i.bytes = bytes) (h6 : z.cells.size = size) (h7 : 0 < size)
    (ao : Option Addr) (n cap : Nat) (olds : List Value) (hs : a.eval s = .slice ao n cap) (hnone : ao = none → n = 0 ∧ cap = 0) (hold : RowIs w (.slice ao n cap) e size n olds)
    (ad : Addr) (m c : Nat) (news : List Value) (hx : a.eval x = .slice (some ad) m c) (hn : news.length = m * size) (hc : ∀ j u, news[j]? = some u → w.cell? (ad.add j) = some u) (h1c : ∀ u ∈ news, u.oneCell' = true)
    (hfull : cap < n + m) (b1 : n + m ≤ maxLen) (b2 : (n + m) * bytes ≤ 140737488355328)
    (hK : ∀ v' w', RowIs w' v' e size (n + m) (olds ++ news) → w.grownBy w' none → K (a.put o.dst v') w') : o.wp P a w K Q := by
  have := step_append_grows (P := P) (ops := #[]) (o := o) (a := a) (w := w) (K := K) (Q := Q) (E := False) hg s x t hop e i z size bytes h1 h2 h3 h4 h5 h6 h7 ao n cap olds hs hnone hold.1 hold.cells ad m c news hx hn hc h1c hfull b1 b2
    (fun v' w' hown hgr => hK v' w' (RowIs.of_owns hown) hgr)
  rwa [if_pos (by simp [Region.wanted, hg])] at this

theorem foldl_set : ∀ (L : List Value) (k off : Nat) (A : Array Value), off + k + L.length ≤ A.size →
    (L.zipIdx k).foldl (fun (cs : Array Value) (p : Value × Nat) => cs.setIfInBounds (off + p.2) p.1) A = (splice A.toList (off + k) L).toArray
  | [], k, off, A, _ => by simp [splice]
  | v :: L, k, off, A, h => by
    simp only [List.length_cons] at h
    have hl : A.toList.length = A.size := Array.length_toList
    rw [List.zipIdx_cons, List.foldl_cons, foldl_set L (k + 1) off _ (by simp; omega)]
    congr 1
    refine List.ext_getElem? fun j => ?_
    rw [splice_get _ _ _ (by simp; omega), splice_get _ _ _ (by simp; omega)]
    simp only [Array.toList_setIfInBounds, List.length_cons]
    rcases Nat.lt_trichotomy j (off + k) with hj | hj | hj
    · rw [if_neg (by omega), if_neg (by omega), List.getElem?_set_ne (by omega)]
    · subst hj
      rw [if_neg (by omega), if_pos (by omega), List.getElem?_set_self (by omega), Nat.sub_self]
      rfl
    · by_cases h2 : j < off + k + (L.length + 1)
      · rw [if_pos (by omega), if_pos (by omega), show j - (off + k) = (j - (off + (k + 1))) + 1 by omega, List.getElem?_cons_succ]
      · rw [if_neg (by omega), if_neg (by omega), List.getElem?_set_ne (by omega)]

theorem run_buildSlice_one (w : World) (T elem : TypeId) (i : TypeInfo) (z : Value) (cs : Array Value) (hu : P.underlying T = some (.slice elem)) (hi : P.info? elem = some i) (hz : i.zero = some z) (hs : i.size = cs.size) (hp : 0 < cs.size) (hb : cs.size ≤ 16777216) :
    (Instr.buildSlice T 1 #[(0, .agg cs)]).run P w = .ok (.slice (some ⟨w.heap.size, 0, none⟩) 1 1) (w.alloc (.cells cs elem (0, 0))) := by
  have hf : ∀ (A : Array Value), A.size = cs.size → Array.foldl (fun (cs : Array Value) (x : Value × Nat) => cs.setIfInBounds x.2 x.1) A cs.zipIdx = cs := fun A hA => by
    have := foldl_set cs.toList 0 0 A (by rw [Array.length_toList, hA]; omega)
    rw [← Array.foldl_toList, Array.toList_zipIdx]
    simp only [Nat.zero_add] at this
    rw [this, splice_all _ _ (by rw [Array.length_toList, Array.length_toList, hA])]
  have hne : ¬ cs = #[] := by rintro rfl; simp at hp
  have hfit : ¬ (16777216 < cs.size) := by omega
  simp [Instr.buildSlice, run_underlying hu, sizeOf, typeInfo, hi, hs, hz, zeroValue, hne, hfit, newRow, go_sem]
  congr 2
  have h2 := hf (Array.map (fun x => (match z with | Value.agg cs => cs | v => #[v])[x % (match z with | Value.agg cs => cs | v => #[v]).size]!) (Array.range cs.size)) (by simp)
  rw [Array.size_zipIdx] at h2
  exact h2
theorem wp_buildSlice_one {o : Oper} {a : Act} {w : World} {K : Act → World → Prop} {Q : Exit → Act → World → Prop} (T elem : TypeId) (x : Operand) (ho : o.op = .buildSlice T 1 #[(0, x)]) (i : TypeInfo) (z : Value) (cs : List Value) (hx : a.eval x = .agg cs.toArray)
    (hu : P.underlying T = some (.slice elem)) (hi : P.info? elem = some i) (hz : i.zero = some z) (hs : i.size = cs.length) (hp : 0 < cs.length) (hb : cs.length ≤ 16777216)
    (hK : ∀ w1, w1.heap[w.heap.size]? = some (.cells cs.toArray elem (0, 0)) → w.grownBy w1 none → K (a.put o.dst (.slice (some ⟨w.heap.size, 0, none⟩) 1 1)) w1) : o.wp P a w K Q := by
  have hr := run_buildSlice_one (P := P) w T elem i z cs.toArray hu hi hz (by simpa using hs) (by simpa using hp) (by simpa using hb)
  unfold Oper.wp execOp
  simp only [ho, List.map_toArray, List.map_cons, List.map_nil, hx, Sem.run_bind, hr, Result.andThen_ok, Sem.run_pure]
  exact hK _ (heap_alloc_new w _) (World.grownBy_alloc w _ none)
end
end Go.Proofs.Yteggldplmbegfaa

/- Dev7: THE DEVICE's Write, walked. -/
set_option linter.unusedVariables false
set_option linter.unusedSimpArgs false
namespace Go.Proofs.Yteggldplmbegfaa
open Go.RowKit

theorem info111 : (Try.prog.info? 111).map (fun i => (i.zero, i.size, i.bytes)) = some (some (.agg Try.zeroCells111), 257, 264) := by kernel_rfl
theorem lz_length (ls : List (Nat × List UInt8)) (h : ∀ p ∈ ls, p.2.length = 256) : (lz ls).length = ls.length * 257 := by
  unfold lz
  rw [flatten_len 257 _ (by simp only [List.mem_map]; rintro l ⟨p, hp, rfl⟩; simp [lzc, bv_length, h p hp])]
  simp
/-- The cells of a loose write of noughts at place i. -/
def z111 (i : Int) : List Value := .int .i64 i :: List.replicate 256 (.int .u8 0)
theorem z111_eq (i : Int) : Try.zeroCells111.setIfInBounds 0 (.int .i64 i) = (z111 i).toArray := by kernel_rfl
theorem build111 (i : Int) (w : World) : (Instr.build 111 #[(0, .int .i64 i)]).run Try.prog w = .ok (.agg (z111 i).toArray) w := by rw [← z111_eq]; kernel_rfl
theorem z111_length (i : Int) : (z111 i).length = 257 := by simp only [z111, List.length_cons, List.length_replicate]
theorem z111_one (i : Int) : ∀ v ∈ z111 i, v.oneCell' = true := by
  intro v hv
  simp only [z111, List.mem_cons, List.mem_replicate] at hv
  rcases hv with rfl | ⟨_, rfl⟩ <;> rfl
theorem splice_z (i : Int) : splice Try.zeroCells111.toList 0 (z111 i) = z111 i := by
  refine splice_all _ _ ?_
  have e : Try.zeroCells111.toList.length = 257 := zsize111
  rw [e, z111_length]
theorem splice_b (j : Nat) (bb : List UInt8) (hb : bb.length = 256) : splice (z111 j) 1 (bv bb) = lzc (j, bb) := by
  simp only [splice, z111, lzc, List.take_succ_cons, List.take_zero, bv_length, hb]
  rw [show 1 + 256 = 256 + 1 from rfl, List.drop_succ_cons, List.drop_eq_nil_of_le (by rw [List.length_replicate]; exact Nat.le_refl _)]
  simp

set_option maxRecDepth 20000 in
set_option maxHeartbeats 1000000 in
theorem dWrite_yes (w : World) (b bs : Nat) (D : Dev) (lv kv : Value) (h : DevAt w b bs D lv kv) (hok : D.Ok) (hcl : D.changes < 1000000000) (i : Int) (T : TypeId) (bval : Value) (bb : List UInt8)
    (hb : RowIs w bval T 1 bb.length (bv bb)) (hm : D.may i = 0) (hbl : bb.length = 256) :
    Calls Try.prog 17 #[.pointer (some ⟨b, 0, none⟩), .int .i64 i, bval] w fun e w' =>
      e = .returned (.int .i64 (D.write i bb).2) ∧ (∃ lv', DevAt w' b bs (D.write i bb).1 lv' kv) ∧ Fr w w' [b, bs] := by
  have hWD : D.write i bb = ({ D with loose := D.loose ++ [(i.toNat, bb)] } : Dev).change := by simp [Dev.write, hm, hbl]
  have hc := dmay_any w b bs D lv kv h i
  rw [hm] at hc
  have HC0 := Lib.hid hc
  have hi0 := (Dev.may_zero hm).2.1
  have hi1 := (Dev.may_zero hm).2.2
  obtain ⟨j, rfl⟩ := Int.eq_ofNat_of_zero_le hi0
  have hw1 : ({ D with loose := D.loose ++ [(j, bb)] } : Dev).Wf := by
    have hm2 := hok.many
    refine ⟨hok.wf.lo, hok.wf.hi, hok.wf.full, fun p hp => ?_, hok.wf.left, hok.wf.torn, hok.wf.half, by simp; omega, hok.wf.changes⟩
    rcases List.mem_append.1 hp with h6 | h6
    · exact hok.wf.loose p h6
    · simp at h6
      subst h6
      exact ⟨by simp only; omega, hbl⟩
  have HWD := Lib.hid hWD
  clear hc hm hWD
  rw [hbl] at hb
  have hll : D.loose.length ≤ 1000000001 := by have := hok.many; have := hok.wf.changes; omega
  rcases hb.2 with ⟨h0, _⟩ | ⟨g0, o0, c0, cur0, fr0, rfl, hc0, hg0, hx0⟩
  · omega
  have hbld := build111 j
  have hz : (Try.prog.info? 111).map (·.size) = some (z111 j).length := by rw [zero111, z111_length]
  have hfit := zsize111 ▸ (show 0 + (z111 j).length ≤ 257 by rw [z111_length]; omega)
  have hone := z111_one j
  have hll2 := h.loose
  obtain ⟨A, c, rfl⟩ := hll2.shape
  go_enter Try.func17, Try.ntmps17
  go_wp2_with fail
  refine HC0.out.mono ?_
  rintro e w' ⟨rfl, rfl⟩
  clear HC0
  go_upto_region 7 with (first
    | (with_reducible show wpList _ _ _ (Oper.mk _ (.alloc 111) _ _ _ _ :: _) _ _; refine wpList_alloc_row rfl 111 rfl _ zrow111 ?_; intro v2 hn2 hg2 hs2)
    | (with_reducible show wpList _ _ _ (Oper.mk _ (.store 111 _ _) _ _ _ _ :: _) _ _; refine wpList_store_mid rfl rfl 111 (.tmp 8) (.tmp 19) rfl w'.heap.size 0 rfl (z111 j) rfl 111 Try.zeroCells111 hn2 hz hfit hone ?_; intro v3 hn3 hg3 hs3; rw [splice_z] at hn3; clear hn2 hfit hbld))
  have F3 : Fr w' v3 [] := ((Fr.refl w' []).grown hg2 (by simp)).grown hg3 (by simp)
  have hg0' := F3.keep hg0 (by simp)
  clear hg2 hg3 hz hone
  go_upto_region 8 with (first
    | (with_reducible show wpList _ _ _ (Oper.mk _ (.call _) _ _ _ _ :: _) _ _; refine wpList_copy_mid rfl (.tmp 21) (.tmp 22) 33 33 rfl 5 Try.underlying33 zero5 w'.heap.size 1 256 256 rfl ⟨g0, o0, none⟩ 256 c0 rfl _ _ hn3 (bv bb) ?c1 ?c2 ?c3 (bv_one _) ?_; rotate_right; intro v4 hn4 hg4 hs4))
  case c1 => rw [bv_length, hbl]; rfl
  case c2 => intro j v hv; rw [addr_add, cell_of_row _ _ _ _ _ _ hg0']; exact hx0 j v hv
  case c3 => rw [bv_length, hbl, List.size_toArray, z111_length]; omega
  rw [List.toList_toArray, splice_b j bb hbl] at hn4
  have F4 : Fr w' v4 [] := F3.strip (S := []) (by simp) |>.grown hg4 (by simp)
  have h4 := h.below (Fr.below_iff.1 F4)
  have hl4 := h4.loose
  have c1 : v4.cell? ⟨b, 1, none⟩ = some (.slice A D.loose.length c) := h4.cell 1
  clear hn3 hg4 hs4 hg0 hg0' F3 hs2 hs3
  refine wp_region_grows 11 (by kernel_rfl) (by kernel_rfl) (fun q v w' => match q with
    | 0 => v = .pointer (some ⟨b, 0, none⟩) | 1 => v = .pointer (some ⟨b, 0, none⟩) | 2 => v = .pointer (some ⟨b, 0, none⟩) | 3 => v = .pointer (some ⟨b, 1, none⟩)
    | 4 => v = .slice A D.loose.length c | 5 => v = .slice A D.loose.length D.loose.length | 6 => v = .agg (lzc (j, bb)).toArray
    | 7 => ∃ g, v = .slice (some ⟨g, 0, none⟩) 1 1 ∧ w'.heap[g]? = some (.cells (lzc (j, bb)).toArray 111 (0, 0))
    | 8 => RowIs w' v 111 257 (D.loose.length + 1) (lz (D.loose ++ [(j, bb)]))
    | 9 => v = .pointer (some ⟨b, 0, none⟩) | 10 => v = .pointer (some ⟨b, 1, none⟩) | _ => True) ?hV ?hstep ?hfin
  case hV =>
    intro q v w w' hv hb
    match q, hv with
    | 0, hv => exact hv
    | 1, hv => exact hv
    | 2, hv => exact hv
    | 3, hv => exact hv
    | 4, hv => exact hv
    | 5, hv => exact hv
    | 6, hv => exact hv
    | 7, ⟨g, h1, h2⟩ => exact ⟨g, h1, (hb.block g (lt_of_heap h2)).trans h2⟩
    | 8, hv => exact hv.below hb
    | 9, hv => exact hv
    | 10, hv => exact hv
    | q + 11, hv => trivial
  case hstep =>
    simp only [List.take_succ_cons, List.take_zero, stepsAll, and_true, GrowStep, Oper.wpG, fillFrom, Nat.zero_add, Nat.reduceAdd, if_true, Act.put, List.setIfInBounds_toArray, List.set_cons_succ, List.set_cons_zero]
    refine ⟨?_, ?_, ?_, ?_, ?_, ?_, ?_, ?_, ?_, ?_, ?_⟩
    all_goals
      intro vs w5 hb5 hp K hK
    · go_step
      exact hK _ _ (Below.refl _ _) rfl
    · go_step
      exact hK _ _ (Below.refl _ _) rfl
    · have v1 : vs 1 = _ := hp 1 (by decide +kernel)
      go_step
      exact hK _ _ (Below.refl _ _) rfl
    · have v1 : vs 2 = _ := hp 2 (by decide +kernel)
      go_step
      exact hK _ _ (Below.refl _ _) rfl
    · have v1 : vs 3 = _ := hp 3 (by decide +kernel)
      have c5 := (hb5.cell (p := ⟨b, 1, none⟩) (lt_of_heap h4.blk)).trans c1
      go_step
      exact hK _ _ (Below.refl _ _) rfl
    · have v1 : vs 4 = _ := hp 4 (by decide +kernel)
      go_step
      refine (sClip_any _ A D.loose.length c hl4.le (by omega)).mono ?_
      rintro e w6 ⟨rfl, rfl⟩
      exact hK _ _ (Below.refl _ _) rfl
    · refine wp_load_mid 111 (.tmp 8) rfl w'.heap.size 0 rfl 111 _ _ _ (lzc (j, bb)) ((hb5.block _ (lt_of_heap hn4)).trans hn4) Try.underlying111 rfl (by rw [zero111]; simp [lzc, bv_length, hbl]) (fun q v hq => by rw [Nat.zero_add, List.getElem?_toArray]; exact hq) ?_
      exact hK _ _ (Below.refl _ _) rfl
    · have v1 : vs 6 = _ := hp 6 (by decide +kernel)
      obtain ⟨i0, hi, hz0, hz1, hz2⟩ := info_parts info111
      refine wp_buildSlice_one 104 111 (.tmp 30) rfl i0 _ (lzc (j, bb)) v1 Try.underlying104 hi hz0 (by rw [hz1]; simp [lzc, bv_length, hbl]) (by simp [lzc]) (by simp [lzc, bv_length, hbl]) ?_
      intro w6 hn6 hg6
      exact hK _ _ (Fr.below_iff.1 ((Fr.refl w5 []).grown hg6 (by simp))) ⟨_, rfl, hn6⟩
    · have v5 : vs 5 = _ := hp 5 (by decide +kernel)
      obtain ⟨g, v7, hg7⟩ : ∃ g, vs 7 = _ ∧ _ := hp 7 (by decide +kernel)
      obtain ⟨i0, hi, hz0, hz1, hz2⟩ := info_parts info111
      have hro : RowIs w5 (.slice A D.loose.length D.loose.length) 111 257 D.loose.length (lz D.loose) := (hl4.below hb5).clip (Nat.le_refl _)
      refine wp_append_grow rfl (.tmp 29) (.tmp 31) 104 rfl 111 i0 _ 257 264 Try.underlying104 hi hz0 hz1 hz2 zsize111 (by omega) A D.loose.length D.loose.length (lz D.loose) v5 ?_ hro ⟨g, 0, none⟩ 1 1 (lzc (j, bb)) v7 (by simp [lzc, bv_length, hbl]) ?_ (lzc_one _) (by omega) (by unfold maxLen; omega) (by omega) ?_
      · rintro rfl
        by_cases h0 : D.loose.length = 0
        · exact ⟨h0, h0⟩
        · obtain ⟨x, hx⟩ := hl4.nonempty h0
          cases hx
      · intro q u hq
        rw [addr_add, cell_of_row _ _ _ _ _ _ hg7, Nat.zero_add, List.getElem?_toArray]
        exact hq
      intro v' w6 hr6 hg6
      refine hK _ _ (Fr.below_iff.1 ((Fr.refl w5 []).grown hg6 (by simp))) ?_
      show RowIs _ _ _ _ _ _
      rw [show lz (D.loose ++ [(j, bb)]) = lz D.loose ++ lzc (j, bb) by simp [lz]]
      exact hr6
    · have v1 : vs 0 = _ := hp 0 (by decide +kernel)
      go_step
      exact hK _ _ (Below.refl _ _) rfl
    · have v1 : vs 9 = _ := hp 9 (by decide +kernel)
      go_step
      exact hK _ _ (Below.refl _ _) rfl
  case hfin =>
    intro vs w5 hb5 hv
    have v8 := hv 8 (by omega)
    have v10 : vs 10 = _ := hv 10 (by omega)
    have v8' : RowIs w5 (vs 8) 111 257 (D.loose.length + 1) (lz (D.loose ++ [(j, bb)])) := v8
    obtain ⟨A8, c8, e8⟩ := v8'.shape
    rw [e8] at v8'
    have h5 := h4.below hb5
    have hst := h5.store 1 (.slice A8 (D.loose.length + 1) c8) { D with loose := D.loose ++ [(j, bb)] } (.slice A8 (D.loose.length + 1) c8) kv rfl rfl (by simpa using v8') h5.kept
    have HST := Lib.hid hst
    have HF := Lib.hid ((((Fr.below_iff.2 (Fr.below_iff.1 F4)).below hb5).mono (S' := [b, bs]) (by simp)).grown (setCell_grown w5 b 1 (.slice A8 (D.loose.length + 1) c8)) (by simp))
    have f1 := h5.free 1
    have d1 : w5.cell? ⟨b, 1, none⟩ = some _ := h5.cell 1
    clear hst v8 v8' hv h5 hl4 c1 h4 h hll2
    simp only [List.take_succ_cons, List.take_zero, List.drop_succ_cons, List.drop_zero, fillFrom, Nat.zero_add, Nat.reduceAdd, if_true, Act.put, List.setIfInBounds_toArray, List.set_cons_succ, List.set_cons_zero]
    go_wp2_with fail
    refine (dchange_any _ b bs _ _ kv HST.out hw1 hcl hok.keptb).mono ?_
    rintro e w6 ⟨rfl, ⟨lv', hd⟩, hf⟩
    have HD2 := Lib.hid hd
    have HF2 := Lib.hid (HF.out.trans hf)
    clear hd hf
    go_wp2
    go_ret
    rw [HWD.out]
    exact ⟨rfl, ⟨lv', HD2.out⟩, HF2.out⟩
end Go.Proofs.Yteggldplmbegfaa

/- Dev8: THE DEVICE: New, Plan, Write where it may not be; slices.Clone at []int. -/
set_option linter.unusedVariables false
set_option linter.unusedSimpArgs false
namespace Go.Proofs.Yteggldplmbegfaa
open Go.RowKit

theorem dWrite_no (w : World) (b bs : Nat) (D : Dev) (lv kv : Value) (h : DevAt w b bs D lv kv) (i : Int) (bval : Value) (hm : D.may i ≠ 0) :
    Calls Try.prog 17 #[.pointer (some ⟨b, 0, none⟩), .int .i64 i, bval] w fun e w' => e = .returned (.int .i64 (D.may i)) ∧ w' = w := by
  have hb : (D.may i != 0) = true := by simpa using hm
  obtain ⟨m, hm'⟩ : ∃ m, m = D.may i := ⟨_, rfl⟩
  have hc := dmay_any w b bs D lv kv h i
  rw [← hm'] at hc hb ⊢
  have HC := Lib.hid hc
  clear hc hm hm'
  go_enter Try.func17, Try.ntmps17
  go_wp2_with fail
  refine HC.out.mono ?_
  rintro e w' ⟨rfl, rfl⟩
  go_wp2
  go_ret
  exact ⟨rfl, rfl⟩

theorem info109 : (Try.prog.info? 109).map (fun i => (i.zero, i.size, i.bytes)) = some (some (.agg Try.zeroCells109), 256, 256) := by kernel_rfl
theorem zeros109 : Try.zeroCells109 = (List.replicate 256 (Value.int .u8 0)).toArray := by kernel_rfl
theorem made109 (n : Nat) : (madeCells Try.zeroCells109 (n * 256)).toList = flat (List.replicate n zsec) := by
  have hall : ∀ s ∈ (List.replicate n zsec), s.length = 256 := fun s hs => by rw [List.eq_of_mem_replicate hs]; exact zsec_length
  refine List.ext_getElem ?_ fun i h1 h2 => ?_
  · rw [Array.length_toList, size_madeCells, flat_length _ hall, List.length_replicate]
  · have hs : Try.zeroCells109.size = 256 := zsize109
    have hi : i < n * 256 := by rw [Array.length_toList, size_madeCells] at h1; exact h1
    have e1 : (madeCells Try.zeroCells109 (n * 256)).toList[i] = .int .u8 0 := by
      rw [Array.getElem_toList]
      simp only [madeCells, Array.getElem_map, Array.getElem_range, hs]
      rw [getElem!_pos _ _ (by rw [hs]; exact Nat.mod_lt _ (by omega))]
      have : ∀ j (hj : j < Try.zeroCells109.size), Try.zeroCells109[j] = .int .u8 0 := by
        rw [zeros109]
        intro j hj
        simp only [List.getElem_toArray, List.getElem_replicate]
      exact this _ _
    rw [e1]
    have hj : i / 256 < n := by omega
    have e2 : (flat (List.replicate n zsec))[i / 256 * 256 + i % 256]? = some (.int .u8 0) := by
      unfold flat
      rw [flatten_get 256 _ (by simp only [List.mem_map]; rintro l ⟨x, hx, rfl⟩; rw [bv_length]; exact hall x hx) _ _ (Nat.mod_lt _ (by omega))]
      rw [List.getElem?_map, List.getElem?_replicate, if_pos hj]
      simp only [Option.map_some, Option.bind_some, bv_get, zsec]
      rw [List.getElem?_replicate, if_pos (Nat.mod_lt _ (by omega))]
      rfl
    rw [show i / 256 * 256 + i % 256 = i by omega] at e2
    rw [List.getElem?_eq_getElem h2] at e2
    exact (Option.some.inj e2).symm
theorem owns_row {w : World} {base : Nat} {e : TypeId} {size n g c : Nat} {xs : List Value} (h : w.ownsRow base e size (.slice (some ⟨g, 0, none⟩) n c) n xs) (hc : c = n) : w.heap[g]? = some (.cells xs.toArray e (0, 0)) := by
  rcases h.2 with ⟨h0, _⟩ | ⟨g', cap, cur, hv, _, hh, _, _, hs, ht⟩
  · cases h0
  · simp only [Value.slice.injEq, Option.some.injEq, Addr.mk.injEq] at hv
    obtain ⟨⟨rfl, _⟩, _, rfl⟩ := hv
    rw [hh, ← ht, List.take_of_length_le (by rw [Array.length_toList, hs, hc]; exact Nat.le_refl _)]

set_option maxRecDepth 20000 in
set_option maxHeartbeats 400000 in
theorem dNew_any (w : World) (n : Nat) (h1 : 1 ≤ n) (h2 : n ≤ 4096) :
    Calls Try.prog 15 #[.int .i64 n] w fun e w' => ∃ b bs, e = .returned (.tuple #[.pointer (some ⟨b, 0, none⟩), .int .i64 0]) ∧ DevAt w' b bs (Dev.fresh n) (.slice none 0 0) (.slice none 0 0) ∧ w.heap.size ≤ b ∧ w.heap.size ≤ bs ∧ Below w.heap.size w w' := by
  obtain ⟨i0, hi, hz0, hz1, hz2⟩ := info_parts info109
  go_enter Try.func15, Try.ntmps15
  go_wp2_with (at_make; refine wpList_make_full _ rfl _ _ 103 rfl w.heap.size 109 i0 _ 256 Try.underlying103 hi hz0 hz1 .i64 .i64 n n n rfl rfl rfl rfl ?c1 ?c2 ?c3 ?_; rotate_right; intro w1 hown hgr)
  case c1 => rw [hz2]; omega
  case c2 => unfold maxLen; omega
  case c3 => exact Nat.le_refl _
  have hro := owns_row hown rfl
  simp only [Value.cells] at hro
  rw [made109] at hro
  have hb1 : Below w.heap.size w w1 := Fr.below_iff.1 ((Fr.refl w []).grown hgr (by simp))
  go_ret2
  refine ⟨w1.heap.size, w.heap.size, rfl, ⟨?_, ?_, RowIs.nil _ _ _ _ _, RowIs.nil _ _ _ _ _⟩, hb1.size, Nat.le_refl _, hb1.alloc hb1.size _⟩
  · rw [heap_alloc_new]
    simp [devCells, Dev.fresh]
  · rw [heap_alloc_old _ _ (lt_of_heap hro)]
    exact hro

theorem info3 : (Try.prog.info? 3).map (fun i => (i.zero, i.size, i.bytes)) = some (some (.int .i64 0), 1, 8) := by kernel_rfl
theorem iv_one (l : List Int) : ∀ v ∈ iv l, v.oneCell' = true := by
  intro v hv
  simp only [iv, List.mem_map] at hv
  obtain ⟨c, _, rfl⟩ := hv
  rfl
theorem owns_empty (w : World) (e : TypeId) (size : Nat) (o : Obj) (ho : o = .cells #[] e (0, 0)) (base : Nat) (hb : base ≤ w.heap.size) : (w.alloc o).ownsRow base e size (.slice (some ⟨w.heap.size, 0, none⟩) 0 0) 0 [] := by
  subst ho
  exact ⟨by simp, .inr ⟨w.heap.size, 0, #[], rfl, hb, heap_alloc_new w _, by omega, by unfold maxLen; omega, by simp, by simp⟩⟩

set_option maxHeartbeats 400000 in
theorem sCloneI_any (w : World) (kv : Value) (ks : List Int) (T : TypeId) (h : RowIs w kv T 1 ks.length (iv ks)) (hb : ks.length ≤ 1000000000000) :
    Calls Try.prog 66 #[kv] w fun e w' => ∃ v, e = .returned v ∧ RowIs w' v 3 1 ks.length (iv ks) ∧ Below w.heap.size w w' := by
  obtain ⟨A, c, rfl⟩ := h.shape
  cases A with
  | none =>
    have h0 : ks.length = 0 := by
      by_cases h0 : ks.length = 0
      · exact h0
      · obtain ⟨b, hb⟩ := h.nonempty h0
        cases hb
    have hk : ks = [] := List.eq_nil_of_length_eq_zero h0
    subst hk
    have hnil := fun (l c : Nat) (w : World) => Lib.run_eql_slice_nil (P := Try.prog) w 23 3 none l c 0 0 Try.underlying23
    go_enter Try.func66, Try.ntmps66
    go_wp2
    go_ret
    exact ⟨_, rfl, RowIs.nil _ _ _ _ _, Below.refl _ _⟩
  | some ad =>
    obtain ⟨i0, hi, hz0, hz1, hz2⟩ := info_parts info3
    have hcell := h.cells ad rfl
    have HC := Lib.hid hcell
    have hl : (iv ks).length = ks.length * 1 := by simp [iv]
    have hnil := fun (l c : Nat) (w : World) => Lib.run_eql_slice_nil (P := Try.prog) w 23 3 (some ad) l c 0 0 Try.underlying23
    clear hcell
    have hbs : ∀ w : World, (Instr.buildSlice 23 0 #[]).run Try.prog w = .ok (.slice (some ⟨w.heap.size, 0, none⟩) 0 0) (w.alloc (.cells #[] 3 (0, 0))) := fun w => by kernel_rfl
    have hown := owns_empty w 3 1 _ rfl w.heap.size (Nat.le_refl _)
    have hg1 := World.grownBy_alloc w (.cells #[] 3 (0, 0)) none
    have hcell1 : ∀ j u, (iv ks)[j]? = some u → (w.alloc (.cells #[] 3 (0, 0))).cell? (ad.add j) = some u := (h.grown hg1).cells ad rfl
    have HC1 := Lib.hid hcell1
    have hb1 : Below w.heap.size w (w.alloc (.cells #[] 3 (0, 0))) := Fr.below_iff.1 ((Fr.refl w []).grown hg1 (by simp))
    have HB1 := Lib.hid hb1
    have hone := iv_one ks
    clear hcell1 hg1 hb1
    go_enter Try.func66, Try.ntmps66
    go_wp2_with (at_builtin; refine wpList_append_own _ rfl (.tmp 5) (.tmp 6) 23 rfl w.heap.size 3 i0 _ 1 8 Try.underlying23 hi hz0 hz1 hz2 rfl (by decide) (.slice (some ⟨w.heap.size, 0, none⟩) 0 0) 0 [] rfl hown ad ks.length c (iv ks) rfl hl HC1.out hone ?c1 ?c2 ?c3 ?_; rotate_right; intro v' w1 hown' hgr _)
    case c1 => unfold maxLen; omega
    case c2 => omega
    case c3 => simp
    have hr := RowIs.of_owns hown'
    rw [Nat.zero_add, List.nil_append] at hr
    have HR := Lib.hid hr
    have hown2 : ∀ k, (Value.slice (some ⟨w.heap.size, 0, none⟩) 0 0).ownBlock = some k → k ∈ ([] : List Nat) ∨ w.heap.size ≤ k := fun k hk => by
      have : w.heap.size = k := by simpa [Value.ownBlock] using hk
      exact .inr (by omega)
    have HG := Lib.hid (Fr.below_iff.1 ((Fr.below_iff.2 HB1.out).grown hgr hown2))
    clear hown' hgr hr hown
    go_wp2
    go_ret
    exact ⟨v', rfl, HR.out, HG.out⟩
end Go.Proofs.Yteggldplmbegfaa

/- Dev9: THE DEVICE: Plan. -/
set_option linter.unusedVariables false
set_option linter.unusedSimpArgs false
namespace Go.Proofs.Yteggldplmbegfaa
open Go.RowKit

set_option maxRecDepth 20000 in
set_option maxHeartbeats 1000000 in
theorem dPlan_any (w : World) (b bs : Nat) (D : Dev) (lv kv : Value) (h : DevAt w b bs D lv kv) (after : Int) (kv' : Value) (kept : List Int) (torn half : Int)
    (T : TypeId) (hk : RowIs w kv' T 1 kept.length (iv kept)) (hoff : OffB kv' kept.length [b]) (hkb : kept.length ≤ 1000000000000) :
    Calls Try.prog 35 #[.pointer (some ⟨b, 0, none⟩), .int .i64 after, .agg #[kv', .int .i64 torn, .int .i64 half]] w fun e w' =>
      e = .returned (.tuple #[]) ∧ (∃ kv2, DevAt w' b bs (D.plan after kept torn half) lv kv2) ∧ Fr w w' [b] := by
  have hbox := heap_alloc_new w (.cells #[kv', .int .i64 torn, .int .i64 half] 25 (0, 0))
  have hg := World.grownBy_alloc w (.cells #[kv', .int .i64 torn, .int .i64 half] 25 (0, 0)) none
  obtain ⟨w1, hw1⟩ : ∃ w1, w1 = w.alloc (.cells #[kv', .int .i64 torn, .int .i64 half] 25 (0, 0)) := ⟨_, rfl⟩
  rw [← hw1] at hbox hg
  go_enter Try.func35, Try.ntmps35
  go_wp2_with fail
  rw [← hw1]
  clear hw1
  have h1 := h.grown hg
  have hk1 := hk.grown hg
  have B0 : w1.cell? ⟨w.heap.size, 0, none⟩ = some kv' := cell_of_row _ _ _ _ _ _ hbox
  have hF1 := (Fr.refl w [b]).grown hg (by simp)
  clear hg hk h
  refine wp_region_turns 15 (by kernel_rfl) (by kernel_rfl)
    (fun w' => (DevAt w' b bs D lv kv ∨ DevAt w' b bs { D with left := max after (-1) } lv kv) ∧ Fr w1 w' [b])
    (fun w' w'' => (∀ (k : Nat) (c : Array Value) (T : TypeId) (f : Nat × Nat), w'.heap[k]? = some (Obj.cells c T f) → T ≠ 106 → w''.heap[k]? = w'.heap[k]?) ∧
      (DevAt w' b bs { D with left := max after (-1) } lv kv → DevAt w'' b bs { D with left := max after (-1) } lv kv))
    (fun q v w' => match q with
    | 0 => v = .pointer (some ⟨b, 0, none⟩) | 1 => v = .pointer (some ⟨b, 0, none⟩) | 2 => v = .int .i64 after | 3 => v = .int .i64 (max after (-1))
    | 4 => v = .pointer (some ⟨w.heap.size, 0, none⟩) | 5 => v = kv' | 6 => RowIs w' v 3 1 kept.length (iv kept)
    | 7 => v = .pointer (some ⟨w.heap.size, 1, none⟩) | 8 => v = .int .i64 torn | 9 => v = .pointer (some ⟨w.heap.size, 2, none⟩) | 10 => v = .int .i64 half
    | 11 => ∃ u, v = .agg #[u, .int .i64 torn, .int .i64 half] ∧ RowIs w' u 3 1 kept.length (iv kept)
    | 12 => v = .pointer (some ⟨b, 0, none⟩) | 13 => v = .pointer (some ⟨b, 2, none⟩) | 14 => DevAt w' b bs { D with left := max after (-1) } lv kv | _ => True) ?hC ?hV ?hstep ?hfin
  case hC => exact ⟨.inl (h1.below ⟨rfl, rfl, rfl, Nat.le_refl _, fun _ _ => rfl⟩), (Fr.refl _ _).drew⟩
  case hV =>
    intro q v w w' hv hb
    match q, hv with
    | 0, hv => exact hv
    | 1, hv => exact hv
    | 2, hv => exact hv
    | 3, hv => exact hv
    | 4, hv => exact hv
    | 5, hv => exact hv
    | 6, hv => exact hv.move fun g cur fr hh => hb.1 g cur _ fr hh (by decide)
    | 7, hv => exact hv
    | 8, hv => exact hv
    | 9, hv => exact hv
    | 10, hv => exact hv
    | 11, ⟨u, h1, h2⟩ => exact ⟨u, h1, h2.move fun g cur fr hh => hb.1 g cur _ fr hh (by decide)⟩
    | 12, hv => exact hv
    | 13, hv => exact hv
    | 14, hv => exact hb.2 hv
    | q + 15, hv => trivial
  case hstep =>
    have GR : ∀ w' : World, (∀ (k : Nat) (c : Array Value) (T : TypeId) (f : Nat × Nat), w'.heap[k]? = some (Obj.cells c T f) → T ≠ 106 → w'.heap[k]? = w'.heap[k]?) ∧
      (DevAt w' b bs { D with left := max after (-1) } lv kv → DevAt w' b bs { D with left := max after (-1) } lv kv) := fun w' => ⟨fun _ _ _ _ _ _ => rfl, fun h => h⟩
    simp only [List.take_succ_cons, List.take_zero, stepsAll, and_true, TurnStep, Oper.wpG, fillFrom, Nat.zero_add, Nat.reduceAdd, if_true, Act.put, List.setIfInBounds_toArray, List.set_cons_succ, List.set_cons_zero]
    refine ⟨?_, ?_, ?_, ?_, ?_, ?_, ?_, ?_, ?_, ?_, ?_, ?_, ?_, ?_, ?_⟩
    all_goals
      intro vs w5 hC hp K hK
    · go_step
      exact hK _ _ hC (GR _) rfl
    · go_step
      exact hK _ _ hC (GR _) rfl
    · go_step
      exact hK _ _ hC (GR _) rfl
    · have v1 : vs 2 = _ := hp 2 (by decide +kernel)
      go_step
      refine hK _ _ hC (GR _) ?_
      show _ = _
      congr 1
      omega
    · go_step
      exact hK _ _ hC (GR _) rfl
    · have v1 : vs 4 = _ := hp 4 (by decide +kernel)
      have hb5 := hC.2.keep hbox (by simpa using typ_ne hbox h1.blk (by decide))
      have c5 : w5.cell? ⟨w.heap.size, 0, none⟩ = some kv' := cell_of_row _ _ _ _ _ _ hb5
      go_step
      exact hK _ _ hC (GR _) rfl
    · have v1 : vs 5 = _ := hp 5 (by decide +kernel)
      have hk5 : RowIs w5 kv' T 1 kept.length (iv kept) := hk1.apart hC.2 hoff
      go_step
      refine (sCloneI_any _ kv' kept T hk5 hkb).mono ?_
      rintro e w6 ⟨v, rfl, hr, hb⟩
      refine hK _ _ ⟨hC.1.imp (fun h => h.below hb) (fun h => h.below hb), hC.2.below hb⟩ ⟨fun k c T f hk _ => hb.block k (lt_of_heap hk), fun h => h.below hb⟩ hr
    · go_step
      exact hK _ _ hC (GR _) rfl
    · have v1 : vs 7 = _ := hp 7 (by decide +kernel)
      have hb5 := hC.2.keep hbox (by simpa using typ_ne hbox h1.blk (by decide))
      have c5 : w5.cell? ⟨w.heap.size, 1, none⟩ = some (.int .i64 torn) := cell_of_row _ _ _ _ _ _ hb5
      go_step
      exact hK _ _ hC (GR _) rfl
    · go_step
      exact hK _ _ hC (GR _) rfl
    · have v1 : vs 9 = _ := hp 9 (by decide +kernel)
      have hb5 := hC.2.keep hbox (by simpa using typ_ne hbox h1.blk (by decide))
      have c5 : w5.cell? ⟨w.heap.size, 2, none⟩ = some (.int .i64 half) := cell_of_row _ _ _ _ _ _ hb5
      go_step
      exact hK _ _ hC (GR _) rfl
    · have v6 : RowIs w5 (vs 6) 3 1 kept.length (iv kept) := hp 6 (by decide +kernel)
      have v8 : vs 8 = _ := hp 8 (by decide +kernel)
      have v10 : vs 10 = _ := hp 10 (by decide +kernel)
      obtain ⟨A6, c6, e6⟩ := v6.shape
      rw [e6] at v6
      go_step
      exact hK _ _ hC (GR _) ⟨_, rfl, v6⟩
    · have v1 : vs 0 = _ := hp 0 (by decide +kernel)
      go_step
      exact hK _ _ hC (GR _) rfl
    · have v1 : vs 12 = _ := hp 12 (by decide +kernel)
      go_step
      exact hK _ _ hC (GR _) rfl
    · have v1 : vs 13 = _ := hp 13 (by decide +kernel)
      have v3 : vs 3 = _ := hp 3 (by decide +kernel)
      obtain ⟨l5, h5, hl5⟩ : ∃ l5, DevAt w5 b bs { D with left := l5 } lv kv ∧ True := by
        rcases hC.1 with h | h
        · exact ⟨D.left, h, trivial⟩
        · exact ⟨_, h, trivial⟩
      have d2 : w5.cell? ⟨b, 2, none⟩ = some (.int .i64 l5) := h5.cell 2
      have f2 := h5.free 2
      have hst := h5.store 2 (.int .i64 (max after (-1))) { D with left := max after (-1) } lv kv rfl rfl h5.loose h5.kept
      have HST := Lib.hid hst
      have hgc := setCell_grown w5 b 2 (.int .i64 (max after (-1)))
      have HF := Lib.hid (hC.2.grown hgc (by simp))
      have HG := Lib.hid (show ∀ (k : Nat) (c : Array Value) (T : TypeId) (f : Nat × Nat), w5.heap[k]? = some (Obj.cells c T f) → T ≠ 106 → (w5.setCell ⟨b, 2, none⟩ (.int .i64 (max after (-1)))).heap[k]? = w5.heap[k]? from
        fun k c T f hk hT => hgc.block k (lt_of_heap hk) (fun e => by
          have : k = b := by simpa using e
          exact typ_ne hk h5.blk hT this))
      clear hst hgc
      go_step
      exact hK undef _ ⟨.inr HST.out, HF.out⟩ ⟨HG.out, fun _ => HST.out⟩ HST.out
  case hfin =>
    intro vs w5 hC hv
    have h5 : DevAt w5 b bs { D with left := max after (-1) } lv kv := hv 14 (by omega)
    obtain ⟨u, e11, hu⟩ : ∃ u, vs 11 = .agg #[u, .int .i64 torn, .int .i64 half] ∧ RowIs w5 u 3 1 kept.length (iv kept) := hv 11 (by omega)
    have v1 : vs 1 = .pointer (some ⟨b, 0, none⟩) := hv 1 (by omega)
    obtain ⟨A6, c6, rfl⟩ := hu.shape
    have hF5 := hF1.trans hC.2
    have g1 := h5.store 3 (.slice A6 kept.length c6) { D with left := max after (-1), kept := kept } lv (.slice A6 kept.length c6) rfl rfl h5.loose hu
    have g2 := g1.store 4 (.int .i64 torn) { D with left := max after (-1), kept := kept, torn := torn } lv _ rfl rfl g1.loose g1.kept
    have g3 := g2.store 5 (.int .i64 half) (D.plan after kept torn half) lv _ rfl rfl g2.loose g2.kept
    have HG := Lib.hid g3
    have HF := Lib.hid (((hF5.grown (setCell_grown _ b 3 (.slice A6 kept.length c6)) (by simp)).grown (setCell_grown _ b 4 (.int .i64 torn)) (by simp)).grown (setCell_grown _ b 5 (.int .i64 half)) (by simp))
    have f3 := h5.free 3
    have f4 := h5.free 4
    have f5 := h5.free 5
    have d3 : w5.cell? ⟨b, 3, none⟩ = some kv := h5.cell 3
    have d4 : w5.cell? ⟨b, 4, none⟩ = some (.int .i64 D.torn) := h5.cell 4
    have d5 : w5.cell? ⟨b, 5, none⟩ = some (.int .i64 D.half) := h5.cell 5
    clear g1 g2 g3 hF5 hv h5 hC hu
    simp only [List.take_succ_cons, List.take_zero, List.drop_succ_cons, List.drop_zero, fillFrom, Nat.zero_add, Nat.reduceAdd, if_true, Act.put, List.setIfInBounds_toArray, List.set_cons_succ, List.set_cons_zero]
    go_wp2
    go_end0
    exact ⟨rfl, ⟨_, HG.out⟩, HF.out⟩
end Go.Proofs.Yteggldplmbegfaa

/- Conv: BYTES AND STRINGS, told by what they read as. No condition. -/
set_option linter.unusedVariables false
set_option linter.unusedSimpArgs false
namespace Go.Proofs.Yteggldplmbegfaa
open Go.RowKit

/-- The string of bytes. -/
def str (l : List UInt8) : ByteArray := ⟨l.toArray⟩
theorem str_toList (l : List UInt8) : (str l).data.toList = l := by simp [str]
theorem str_size (l : List UInt8) : (str l).size = l.length := by simp [str, ByteArray.size]
theorem str_toListE : (⟨#[]⟩ : ByteArray).data.toList = [] := rfl
theorem str_of (s : ByteArray) : str s.data.toList = s := by simp [str]
theorem str_inj {a b : List UInt8} (h : str a = str b) : a = b := by rw [← str_toList a, h, str_toList]
theorem strOfNums_bytes (l : List UInt8) : strOfNums (l.map fun c => (c.toNat : Int)) = str l := by
  unfold strOfNums str
  congr 1
  rw [List.map_map]
  have : ((fun n : Int => UInt8.ofNat n.toNat) ∘ fun c : UInt8 => (c.toNat : Int)) = id := by funext c; simp
  rw [this, List.map_id]

section
variable {P : Program}
theorem run_bytes_str (w : World) (src dst e : TypeId) (hs : P.underlying src = some (.slice e)) (he : P.underlying e = some (.int .u8)) (hd : P.underlying dst = some .string) (A : Option Addr) (n c : Nat) (T : TypeId) (l : List UInt8)
    (hl : l.length = n) (h : RowIs w (.slice A n c) T 1 n (bv l)) : (convert src dst (.slice A n c)).run P w = .ok (.string (str l)) w := by
  cases A with
  | none =>
    have h0 : n = 0 := by
      by_cases h0 : n = 0
      · exact h0
      · obtain ⟨b, hb⟩ := h.nonempty h0
        cases hb
    subst h0
    obtain rfl := List.eq_nil_of_length_eq_zero hl
    exact run_convert_bytes_nil w src e hs he 0 c dst hd
  | some a =>
    have hc := h.cells a rfl
    have hload : (loadCells a n).run P w = .ok ((l.map fun c => (c.toNat : Int)).map (Value.int .u8)).toArray w := by
      have := run_loadCells_list (P := P) w a (bv l) hc
      rw [bv_length, hl] at this
      rw [this]
      congr 2
      simp [bv]
    rw [run_convert_bytes_string w src dst e _ n c hs he hd, run_bytesToString w _ n c _ hload, foldl_push_bytes]
    rw [← strOfNums_bytes]
    simp [strOfNums, ByteArray.empty, ByteArray.emptyWithCapacity]
    rfl
/-- .. at the operation. -/
theorem wp_bytes_str {o : Oper} {a : Act} {w : World} {K : Act → World → Prop} {Q : Exit → Act → World → Prop} (src dst e : TypeId) (x : Operand) (ho : o.op = .convert src dst x)
    (hs : P.underlying src = some (.slice e)) (he : P.underlying e = some (.int .u8)) (hd : P.underlying dst = some .string) (A : Option Addr) (n c : Nat) (T : TypeId) (l : List UInt8)
    (hx : a.eval x = .slice A n c) (hl : l.length = n) (h : RowIs w (.slice A n c) T 1 n (bv l)) (hK : K (a.put o.dst (.string (str l))) w) : o.wp P a w K Q := by
  have hr := run_bytes_str (P := P) w src dst e hs he hd A n c T l hl h
  unfold Oper.wp execOp
  simp only [ho, hx, Sem.run_bind, hr, Result.andThen_ok, Sem.run_pure]
  exact hK
theorem wpList_bytes_str {ops : Array Oper} {rest : List Oper} {o : Oper} {a : Act} {w : World} {Q : Exit → Act → World → Prop} (hgd : o.guard = none) (src dst e : TypeId) (x : Operand) (ho : o.op = .convert src dst x)
    (hs : P.underlying src = some (.slice e)) (he : P.underlying e = some (.int .u8)) (hd : P.underlying dst = some .string) (A : Option Addr) (n c : Nat) (T : TypeId) (l : List UInt8)
    (hx : a.eval x = .slice A n c) (hl : l.length = n) (h : RowIs w (.slice A n c) T 1 n (bv l)) (hK : wpList P ops Q rest (a.put o.dst (.string (str l))) w) : wpList P ops Q (o :: rest) a w :=
  wpList_plain hgd fun _ hk => wp_bytes_str src dst e x ho hs he hd A n c T l hx hl h (hk _ _ hK)
end

theorem row_at {w : World} {g n c : Nat} {T : TypeId} {fr : Nat × Nat} {l : List UInt8} (h : w.heap[g]? = some (.cells (bv l).toArray T fr)) (hn : l.length = n) (hc : n ≤ c) : RowIs w (.slice (some ⟨g, 0, none⟩) n c) T 1 n (bv l) :=
  ⟨by rw [bv_length, hn, Nat.mul_one], .inr ⟨g, 0, c, _, fr, rfl, hc, h, fun j x hj => by rw [Nat.zero_add, List.getElem?_toArray]; exact hj⟩⟩

section
variable {P : Program}
/-- '[]byte(s)': a new row that reads as the text. -/
theorem wp_str_bytes {o : Oper} {a : Act} {w : World} {K : Act → World → Prop} {Q : Exit → Act → World → Prop} (src dst e : TypeId) (x : Operand) (ho : o.op = .convert src dst x)
    (hs : P.underlying src = some .string) (hd : P.underlying dst = some (.slice e)) (he : P.underlying e = some (.int .u8)) (s : ByteArray) (hx : a.eval x = .string s)
    (hK : ∀ w1 c, RowIs w1 (.slice (some ⟨w.heap.size, 0, none⟩) s.size c) e 1 s.size (bv s.data.toList) → w.grownBy w1 none → w1.heap.size = w.heap.size + 1 → K (a.put o.dst (.slice (some ⟨w.heap.size, 0, none⟩) s.size c)) w1) : o.wp P a w K Q := by
  have hr := run_bytes_of_string (P := P) w src dst e s hs hd he
  unfold Oper.wp execOp
  simp only [ho, hx, Sem.run_bind, hr, Result.andThen_ok, Sem.run_pure]
  refine hK _ _ ⟨by rw [bv_length, Nat.mul_one]; rfl, .inr ⟨w.heap.size, 0, _, _, _, rfl, grownCap_ge _ _ _ _, heap_alloc_new w.drew _, fun j v hj => ?_⟩⟩ ⟨rfl, rfl, rfl, by simp, fun k hk _ => heap_alloc_old w.drew _ hk⟩ (by simp)
  have hj2 : j < s.data.size := by
    have := (List.getElem?_eq_some_iff.1 hj).1
    rw [bv_length] at this
    simpa using this
  rw [Nat.zero_add, bytesRow_at s _ j hj2]
  rw [bv_get, Array.getElem?_toList, Array.getElem?_eq_getElem hj2] at hj
  simpa using hj
theorem wpList_str_bytes {ops : Array Oper} {rest : List Oper} {o : Oper} {a : Act} {w : World} {Q : Exit → Act → World → Prop} (hgd : o.guard = none) (src dst e : TypeId) (x : Operand) (ho : o.op = .convert src dst x)
    (hs : P.underlying src = some .string) (hd : P.underlying dst = some (.slice e)) (he : P.underlying e = some (.int .u8)) (s : ByteArray) (hx : a.eval x = .string s)
    (h : ∀ w1 c, RowIs w1 (.slice (some ⟨w.heap.size, 0, none⟩) s.size c) e 1 s.size (bv s.data.toList) → w.grownBy w1 none → w1.heap.size = w.heap.size + 1 → wpList P ops Q rest (a.put o.dst (.slice (some ⟨w.heap.size, 0, none⟩) s.size c)) w1) :
    wpList P ops Q (o :: rest) a w :=
  wpList_plain hgd fun K hK => wp_str_bytes src dst e x ho hs hd he s hx fun w1 c h1 h2 h3 => hK _ _ (h w1 c h1 h2 h3)
end
end Go.Proofs.Yteggldplmbegfaa

/- Dev10: THE DEVICE's CONTRACTS, in one form each: DevIs w b bs D. -/
set_option linter.unusedVariables false
set_option linter.unusedSimpArgs false
namespace Go.Proofs.Yteggldplmbegfaa
open Go.RowKit

theorem DevIs.move {w w' : World} {b bs : Nat} {D : Dev} (h : DevIs w b bs D) {S : List Nat} (hf : Fr w w' S)
    (hS : ∀ x ∈ S, w.heap.size ≤ x ∨ ∃ c2 T2 f2, w.heap[x]? = some (.cells c2 T2 f2) ∧ 106 ≠ T2 ∧ 109 ≠ T2 ∧ 111 ≠ T2 ∧ 3 ≠ T2) : DevIs w' b bs D := by
  obtain ⟨lv, kv, h⟩ := h
  exact ⟨lv, kv, h.move hf hS⟩
theorem DevIs.below {w w' : World} {b bs : Nat} {D : Dev} (h : DevIs w b bs D) (hb : Below w.heap.size w w') : DevIs w' b bs D := by
  obtain ⟨lv, kv, h⟩ := h
  exact ⟨lv, kv, h.below hb⟩
theorem DevIs.grown {w w' : World} {b bs : Nat} {D : Dev} (h : DevIs w b bs D) (hb : w.grownBy w' none) : DevIs w' b bs D := by
  obtain ⟨lv, kv, h⟩ := h
  exact ⟨lv, kv, h.grown hb⟩
theorem DevIs.drew {w : World} {b bs : Nat} {D : Dev} (h : DevIs w b bs D) : DevIs w.drew b bs D := h.below (Fr.below_iff.1 (Fr.refl w []).drew)
theorem DevIs.lt {w : World} {b bs : Nat} {D : Dev} (h : DevIs w b bs D) : b < w.heap.size ∧ bs < w.heap.size := by
  obtain ⟨lv, kv, h⟩ := h
  exact ⟨lt_of_heap h.blk, lt_of_heap h.sure⟩
theorem DevIs.blk {w : World} {b bs : Nat} {D : Dev} (h : DevIs w b bs D) : ∃ c, w.heap[b]? = some (.cells c 106 (0, 0)) := by
  obtain ⟨lv, kv, h⟩ := h
  exact ⟨_, h.blk⟩
theorem DevIs.sure {w : World} {b bs : Nat} {D : Dev} (h : DevIs w b bs D) : ∃ c, w.heap[bs]? = some (.cells c 109 (0, 0)) := by
  obtain ⟨lv, kv, h⟩ := h
  exact ⟨_, h.sure⟩

theorem wNew (w : World) (n : Nat) (N : Int) (hN : N = n) (h1 : 1 ≤ n) (h2 : n ≤ 4096) :
    Calls Try.prog 15 #[.int .i64 N] w fun e w' => ∃ b bs, e = .returned (.tuple #[.pointer (some ⟨b, 0, none⟩), .int .i64 0]) ∧ DevIs w' b bs (Dev.fresh n) ∧ w.heap.size ≤ b ∧ w.heap.size ≤ bs ∧ Below w.heap.size w w' := by
  subst hN
  refine (dNew_any w n h1 h2).mono ?_
  rintro e w' ⟨b, bs, rfl, hd, h3, h4, h5⟩
  exact ⟨b, bs, rfl, ⟨_, _, hd⟩, h3, h4, h5⟩
theorem wWrite (w : World) (b bs : Nat) (D : Dev) (h : DevIs w b bs D) (hok : D.Ok) (hcl : D.changes < 1000000000) (i : Int) (T : TypeId) (bval : Value) (bb : List UInt8)
    (hb : RowIs w bval T 1 256 (bv bb)) (hbl : bb.length = 256) :
    Calls Try.prog 17 #[.pointer (some ⟨b, 0, none⟩), .int .i64 i, bval] w fun e w' =>
      e = .returned (.int .i64 (D.write i bb).2) ∧ DevIs w' b bs (D.write i bb).1 ∧ Fr w w' [b, bs] := by
  obtain ⟨lv, kv, h⟩ := h
  by_cases hm : D.may i = 0
  · refine (dWrite_yes w b bs D lv kv h hok hcl i T bval bb (by rw [hbl]; exact hb) hm hbl).mono ?_
    rintro e w' ⟨rfl, ⟨lv', h1⟩, h2⟩
    exact ⟨rfl, ⟨_, _, h1⟩, h2⟩
  · have e : D.write i bb = (D, D.may i) := by unfold Dev.write; rw [if_pos hm]
    refine (dWrite_no w b bs D lv kv h i bval hm).mono ?_
    rintro e w' ⟨rfl, rfl⟩
    rw [e]
    exact ⟨rfl, ⟨lv, kv, h⟩, Fr.refl _ _⟩
theorem wBarrier (w : World) (b bs : Nat) (D : Dev) (h : DevIs w b bs D) (hok : D.Ok) (hcl : D.changes < 1000000000) :
    Calls Try.prog 18 #[.pointer (some ⟨b, 0, none⟩)] w fun e w' => e = .returned (.int .i64 D.barrier.2) ∧ DevIs w' b bs D.barrier.1 ∧ Fr w w' [b, bs] := by
  obtain ⟨lv, kv, h⟩ := h
  refine (dBarrier_any w b bs D lv kv h hok hcl).mono ?_
  rintro e w' ⟨rfl, ⟨lv', h1⟩, h2⟩
  exact ⟨rfl, ⟨_, _, h1⟩, h2⟩
theorem wCut (w : World) (b bs : Nat) (D : Dev) (h : DevIs w b bs D) (hok : D.Ok) (kv' : Value) (kept : List Int) (torn half : Int)
    (T : TypeId) (hk : RowIs w kv' T 1 kept.length (iv kept)) (hoff : OffB kv' kept.length [bs]) (hkb : kept.length ≤ 1000000000000) :
    Calls Try.prog 19 #[.pointer (some ⟨b, 0, none⟩), .agg #[kv', .int .i64 torn, .int .i64 half]] w fun e w' =>
      e = .returned (.tuple #[]) ∧ DevIs w' b bs (D.cut kept torn half) ∧ Fr w w' [b, bs] := by
  obtain ⟨lv, kv, h⟩ := h
  refine (dCut_any w b bs D lv kv h hok.wf kv' kept torn half T hk hoff hkb).mono ?_
  rintro e w' ⟨rfl, ⟨lv', h1⟩, h2⟩
  exact ⟨rfl, ⟨_, _, h1⟩, h2⟩
theorem wOn (w : World) (b bs : Nat) (D : Dev) (h : DevIs w b bs D) :
    Calls Try.prog 20 #[.pointer (some ⟨b, 0, none⟩)] w fun e w' => e = .returned (.bool D.off) ∧ DevIs w' b bs { D with off := false } ∧ Fr w w' [b] := by
  obtain ⟨lv, kv, h⟩ := h
  refine (dOn_any w b bs D lv kv h).mono ?_
  rintro e w' ⟨rfl, h1, h2⟩
  exact ⟨rfl, ⟨_, _, h1⟩, h2⟩
theorem wOff (w : World) (b bs : Nat) (D : Dev) (h : DevIs w b bs D) :
    Calls Try.prog 50 #[.pointer (some ⟨b, 0, none⟩)] w fun e w' => e = .returned (.bool D.off) ∧ w' = w := by
  obtain ⟨lv, kv, h⟩ := h
  exact dOff_any w b bs D lv kv h
theorem wSize (w : World) (b bs : Nat) (D : Dev) (h : DevIs w b bs D) :
    Calls Try.prog 55 #[.pointer (some ⟨b, 0, none⟩)] w fun e w' => e = .returned (.int .i64 D.sure.length) ∧ w' = w := by
  obtain ⟨lv, kv, h⟩ := h
  exact dSize_any w b bs D lv kv h
theorem wLoose (w : World) (b bs : Nat) (D : Dev) (h : DevIs w b bs D) :
    Calls Try.prog 22 #[.pointer (some ⟨b, 0, none⟩)] w fun e w' => e = .returned (.int .i64 D.loose.length) ∧ w' = w := by
  obtain ⟨lv, kv, h⟩ := h
  exact dLoose_any w b bs D lv kv h
theorem wChanges (w : World) (b bs : Nat) (D : Dev) (h : DevIs w b bs D) :
    Calls Try.prog 30 #[.pointer (some ⟨b, 0, none⟩)] w fun e w' => e = .returned (.int .i64 D.changes) ∧ w' = w := by
  obtain ⟨lv, kv, h⟩ := h
  exact dChanges_any w b bs D lv kv h
theorem wPlan (w : World) (b bs : Nat) (D : Dev) (h : DevIs w b bs D) (after : Int) (kv' : Value) (kept : List Int) (torn half : Int)
    (T : TypeId) (hk : RowIs w kv' T 1 kept.length (iv kept)) (hoff : OffB kv' kept.length [b]) (hkb : kept.length ≤ 1000000000000) :
    Calls Try.prog 35 #[.pointer (some ⟨b, 0, none⟩), .int .i64 after, .agg #[kv', .int .i64 torn, .int .i64 half]] w fun e w' =>
      e = .returned (.tuple #[]) ∧ DevIs w' b bs (D.plan after kept torn half) ∧ Fr w w' [b] := by
  obtain ⟨lv, kv, h⟩ := h
  refine (dPlan_any w b bs D lv kv h after kv' kept torn half T hk hoff hkb).mono ?_
  rintro e w' ⟨rfl, ⟨kv2, h1⟩, h2⟩
  exact ⟨rfl, ⟨_, _, h1⟩, h2⟩
theorem wRead_yes (w : World) (b bs : Nat) (D : Dev) (h : DevIs w b bs D) (hok : D.Ok) (i : Int) (hm : D.may i = 0) :
    Calls Try.prog 21 #[.pointer (some ⟨b, 0, none⟩), .int .i64 i] w fun e w' => ∃ g, e = .returned (.tuple #[.slice (some ⟨g, 0, none⟩) 256 256, .int .i64 0]) ∧
      w'.heap[g]? = some (.cells (bv (D.at_ i)).toArray 109 (0, 0)) ∧ w.heap.size ≤ g ∧ Below w.heap.size w w' := by
  obtain ⟨lv, kv, h⟩ := h
  exact dRead_yes w b bs D lv kv h hok.wf i hm
theorem wRead_no (w : World) (b bs : Nat) (D : Dev) (h : DevIs w b bs D) (i : Int) (hm : D.may i ≠ 0) :
    Calls Try.prog 21 #[.pointer (some ⟨b, 0, none⟩), .int .i64 i] w fun e w' => e = .returned (.tuple #[.slice none 0 0, .int .i64 (D.may i)]) ∧ w' = w := by
  obtain ⟨lv, kv, h⟩ := h
  exact dRead_no w b bs D lv kv h i hm
theorem Dev.at_len {D : Dev} (h : D.Wf) {i : Int} (hm : D.may i = 0) : (D.at_ i).length = 256 := by
  obtain ⟨_, h0, h1⟩ := Dev.may_zero hm
  refine now_len _ _ _ (h.full _ ?_) (fun p hp => (h.loose p hp).2)
  rw [List.getD_eq_getElem?_getD, List.getElem?_eq_getElem (by omega)]
  simp
end Go.Proofs.Yteggldplmbegfaa
