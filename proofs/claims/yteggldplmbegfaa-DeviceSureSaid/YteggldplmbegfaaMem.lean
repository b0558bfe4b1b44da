/- WORDS FOR MEMORY: what a slice reads as; what may have turned between two worlds; bytes, sectors. No condition. -/
import Derived.Test.YteggldplmbegfaaLaws
set_option linter.unusedVariables false
set_option linter.unusedSimpArgs false
namespace Go.Proofs.Yteggldplmbegfaa
open Go.RowKit

/-- A slice value of n elements (type T, sz cells each) reads as these cells. -/
def RowIs (w : World) (v : Value) (T : TypeId) (sz n : Nat) (cells : List Value) : Prop :=
  cells.length = n * sz ∧ ((n = 0 ∧ ∃ A c, v = .slice A 0 c) ∨
    ∃ g o c cur fr, v = .slice (some ⟨g, o, none⟩) n c ∧ n ≤ c ∧ w.heap[g]? = some (.cells cur T fr) ∧ ∀ j x, cells[j]? = some x → cur[o + j]? = some x)

/-- Between the worlds the listed blocks alone may have turned; new ones may have come. -/
structure Fr (w w' : World) (S : List Nat) : Prop where
  os : w'.os = w.os
  tape : w'.tape = w.tape
  output : w'.output = w.output
  size : w.heap.size ≤ w'.heap.size
  block : ∀ k, k < w.heap.size → k ∉ S → w'.heap[k]? = w.heap[k]?

theorem Fr.refl (w : World) (S : List Nat) : Fr w w S := ⟨rfl, rfl, rfl, Nat.le_refl _, fun _ _ _ => rfl⟩
theorem Fr.trans {a b c : World} {S : List Nat} (h : Fr a b S) (k : Fr b c S) : Fr a c S :=
  ⟨k.os.trans h.os, k.tape.trans h.tape, k.output.trans h.output, Nat.le_trans h.size k.size, fun i hi hn => (k.block i (Nat.lt_of_lt_of_le hi h.size) hn).trans (h.block i hi hn)⟩
theorem Fr.mono {a b : World} {S S' : List Nat} (h : Fr a b S) (hs : ∀ k ∈ S, k ∈ S') : Fr a b S' :=
  ⟨h.os, h.tape, h.output, h.size, fun i hi hn => h.block i hi (fun e => hn (hs i e))⟩
theorem Fr.grown {a b c : World} {S : List Nat} {row : Option Nat} (h : Fr a b S) (hg : b.grownBy c row) (hr : ∀ k, row = some k → k ∈ S ∨ a.heap.size ≤ k) : Fr a c S :=
  ⟨hg.os.trans h.os, hg.tape.trans h.tape, hg.output.trans h.output, Nat.le_trans h.size hg.size, fun i hi hn =>
    (hg.block i (Nat.lt_of_lt_of_le hi h.size) (fun e => by rcases hr i e.symm with h1 | h1; exact hn h1; omega)).trans (h.block i hi hn)⟩
theorem Fr.below {a b c : World} {S : List Nat} (h : Fr a b S) (hb : Below b.heap.size b c) : Fr a c S :=
  ⟨hb.os.trans h.os, hb.tape.trans h.tape, hb.output.trans h.output, Nat.le_trans h.size hb.size, fun i hi hn => (hb.block i (Nat.lt_of_lt_of_le hi h.size)).trans (h.block i hi hn)⟩
theorem Fr.below_iff {a b : World} : Fr a b [] ↔ Below a.heap.size a b :=
  ⟨fun h => ⟨h.os, h.tape, h.output, h.size, fun k hk => h.block k hk (by simp)⟩, fun h => ⟨h.os, h.tape, h.output, h.size, fun k hk _ => h.block k hk⟩⟩
theorem Fr.drew {a b : World} {S : List Nat} (h : Fr a b S) : Fr a b.drew S := ⟨h.os, h.tape, h.output, h.size, h.block⟩
theorem Fr.drewN {a b : World} {S : List Nat} (h : Fr a b S) (n : Nat) : Fr a (b.drewN n) S := ⟨h.os, h.tape, h.output, h.size, h.block⟩
/-- What is written is new, seen from the first world. -/
theorem Fr.strip {a b : World} {S S' : List Nat} (h : Fr a b S) (hs : ∀ k ∈ S, k ∈ S' ∨ a.heap.size ≤ k) : Fr a b S' :=
  ⟨h.os, h.tape, h.output, h.size, fun i hi hn => h.block i hi (fun e => by rcases hs i e with h1 | h1; exact hn h1; omega)⟩
theorem Fr.then {a b c : World} {S S' : List Nat} (h : Fr a b S) (k : Fr b c S') (hs : ∀ x ∈ S', x ∈ S ∨ a.heap.size ≤ x) : Fr a c S :=
  ⟨k.os.trans h.os, k.tape.trans h.tape, k.output.trans h.output, Nat.le_trans h.size k.size, fun i hi hn =>
    (k.block i (Nat.lt_of_lt_of_le hi h.size) (fun e => by rcases hs i e with h1 | h1; exact hn h1; omega)).trans (h.block i hi hn)⟩

theorem lt_of_heap {w : World} {k : Nat} {o : Obj} (h : w.heap[k]? = some o) : k < w.heap.size := (Array.getElem?_eq_some_iff.1 h).1
theorem Fr.keep {w w' : World} {S : List Nat} (h : Fr w w' S) {k : Nat} {o : Obj} (hk : w.heap[k]? = some o) (hn : k ∉ S) : w'.heap[k]? = some o := (h.block k (lt_of_heap hk) hn).trans hk
theorem grown_keep {w w' : World} {row : Option Nat} (h : w.grownBy w' row) {k : Nat} {o : Obj} (hk : w.heap[k]? = some o) (hn : some k ≠ row) : w'.heap[k]? = some o := (h.block k (lt_of_heap hk) hn).trans hk
/-- Blocks of unlike types are not one. -/
theorem typ_ne {w : World} {k b : Nat} {c1 c2 : Array Value} {T1 T2 : TypeId} {f1 f2 : Nat × Nat} (h1 : w.heap[k]? = some (.cells c1 T1 f1)) (h2 : w.heap[b]? = some (.cells c2 T2 f2)) (hT : T1 ≠ T2) : k ≠ b := by
  rintro rfl
  rw [h1] at h2
  simp at h2
  exact hT h2.2.1

theorem RowIs.move {w w' : World} {v : Value} {T : TypeId} {sz n : Nat} {cs : List Value} (h : RowIs w v T sz n cs)
    (hm : ∀ (g : Nat) (cur : Array Value) (fr : Nat × Nat), w.heap[g]? = some (Obj.cells cur T fr) → w'.heap[g]? = w.heap[g]?) : RowIs w' v T sz n cs := by
  refine ⟨h.1, ?_⟩
  rcases h.2 with h0 | ⟨g, o, c, cur, fr, rfl, hc, hg, hx⟩
  · exact .inl h0
  · exact .inr ⟨g, o, c, cur, fr, rfl, hc, (hm g cur fr hg).trans hg, hx⟩
theorem RowIs.grown {w w' : World} {v : Value} {T : TypeId} {sz n : Nat} {cs : List Value} (h : RowIs w v T sz n cs) (hg : w.grownBy w' none) : RowIs w' v T sz n cs :=
  h.move fun g cur fr hh => hg.block g (lt_of_heap hh) (by simp)
theorem RowIs.below {w w' : World} {v : Value} {T : TypeId} {sz n : Nat} {cs : List Value} (h : RowIs w v T sz n cs) (hb : Below w.heap.size w w') : RowIs w' v T sz n cs :=
  h.move fun g cur fr hh => hb.block g (lt_of_heap hh)
/-- Another block, of another type, is written. -/
theorem RowIs.other {w w' : World} {v : Value} {T : TypeId} {sz n : Nat} {cs : List Value} (h : RowIs w v T sz n cs) {S : List Nat} (hf : Fr w w' S)
    (hS : ∀ b ∈ S, w.heap.size ≤ b ∨ ∃ c2 T2 f2, w.heap[b]? = some (.cells c2 T2 f2) ∧ T ≠ T2) : RowIs w' v T sz n cs :=
  h.move fun g cur fr hh => hf.block g (lt_of_heap hh) (fun hm => by
    rcases hS g hm with h1 | ⟨c2, T2, f2, h2, hne⟩
    · have := lt_of_heap hh; omega
    · exact typ_ne hh h2 hne rfl)
/-- The slice's row is none of these blocks. -/
def OffB (v : Value) (n : Nat) (S : List Nat) : Prop := n = 0 ∨ ∀ (a : Addr) (m c : Nat), v = .slice (some a) m c → a.block ∉ S
theorem RowIs.apart {w w' : World} {v : Value} {T : TypeId} {sz n : Nat} {cs : List Value} (h : RowIs w v T sz n cs) {S : List Nat} (hf : Fr w w' S) (ho : OffB v n S) : RowIs w' v T sz n cs := by
  refine ⟨h.1, ?_⟩
  rcases h.2 with h0 | ⟨g, o, c, cur, fr, rfl, hc, hg, hx⟩
  · exact .inl h0
  · rcases ho with rfl | ho
    · exact .inl ⟨rfl, _, _, rfl⟩
    · exact .inr ⟨g, o, c, cur, fr, rfl, hc, hf.keep hg (ho _ _ _ rfl), hx⟩
theorem RowIs.offB {w : World} {v : Value} {T : TypeId} {sz n : Nat} {cs : List Value} (h : RowIs w v T sz n cs) {S : List Nat}
    (hS : ∀ b ∈ S, w.heap.size ≤ b ∨ ∃ c2 T2 f2, w.heap[b]? = some (.cells c2 T2 f2) ∧ T ≠ T2) : OffB v n S := by
  rcases h.2 with ⟨rfl, _⟩ | ⟨g, o, c, cur, fr, rfl, hc, hg, hx⟩
  · exact .inl rfl
  · refine .inr fun a m c' he hm => ?_
    simp only [Value.slice.injEq, Option.some.injEq] at he
    obtain ⟨rfl, _, _⟩ := he
    rcases hS _ hm with h1 | ⟨c2, T2, f2, h2, hne⟩
    · have := lt_of_heap hg; simp only at h1; omega
    · exact typ_ne hg h2 hne rfl
theorem RowIs.nil (w : World) (T : TypeId) (sz : Nat) (A : Option Addr) (c : Nat) : RowIs w (.slice A 0 c) T sz 0 [] := ⟨by simp, .inl ⟨rfl, A, c, rfl⟩⟩
theorem RowIs.shape {w : World} {v : Value} {T : TypeId} {sz n : Nat} {cs : List Value} (h : RowIs w v T sz n cs) : ∃ A c, v = .slice A n c := by
  rcases h.2 with ⟨rfl, A, c, rfl⟩ | ⟨g, o, c, cur, fr, rfl, _⟩
  · exact ⟨A, c, rfl⟩
  · exact ⟨_, c, rfl⟩

/-! ### Bytes -/
def bv (l : List UInt8) : List Value := l.map fun c => .int .u8 (c.toNat : Int)
theorem bv_length (l : List UInt8) : (bv l).length = l.length := by simp [bv]
theorem bv_one (l : List UInt8) : ∀ v ∈ bv l, v.oneCell' = true := by
  intro v hv
  simp only [bv, List.mem_map] at hv
  obtain ⟨c, _, rfl⟩ := hv
  rfl
theorem bv_get (l : List UInt8) (j : Nat) : (bv l)[j]? = (l[j]?).map fun c => .int .u8 (c.toNat : Int) := by simp [bv]
def iv (l : List Int) : List Value := l.map fun n => .int .i64 n
theorem iv_length (l : List Int) : (iv l).length = l.length := by simp [iv]

/-- The cells of a row of elements of n cells each. -/
theorem flatten_get {α : Type} (n : Nat) : ∀ (L : List (List α)), (∀ l ∈ L, l.length = n) → ∀ (i j : Nat), j < n → (L.flatten)[i * n + j]? = (L[i]?).bind (·[j]?)
  | [], _, i, j, _ => by simp
  | l :: L, h, 0, j, hj => by
    have hl := h l (by simp)
    simp [List.getElem?_append_left (by omega : j < l.length)]
  | l :: L, h, i + 1, j, hj => by
    have hl := h l (by simp)
    have e : (i + 1) * n + j = l.length + (i * n + j) := by rw [hl, Nat.add_mul]; omega
    have ih := flatten_get n L (fun x hx => h x (by simp [hx])) i j hj
    simp only [List.flatten_cons, List.getElem?_cons_succ]
    rw [e, List.getElem?_append_right (by omega), Nat.add_sub_cancel_left]
    exact ih
theorem flatten_len {α : Type} (n : Nat) : ∀ (L : List (List α)), (∀ l ∈ L, l.length = n) → L.flatten.length = L.length * n
  | [], _ => by simp
  | l :: L, h => by
    have := flatten_len n L (fun x hx => h x (by simp [hx]))
    have hl := h l (by simp)
    simp only [List.flatten_cons, List.length_append, List.length_cons, Nat.add_mul, this, hl]
    omega
/-- One element of such a row is written. -/
theorem splice_flatten {α : Type} (n : Nat) : ∀ (L : List (List α)), (∀ l ∈ L, l.length = n) → ∀ (i : Nat), i < L.length → ∀ (off : Nat) (cs : List α), off + cs.length ≤ n →
    splice L.flatten (i * n + off) cs = (L.set i (splice (L.getD i []) off cs)).flatten
  | [], _, i, hi, _, _, _ => by simp at hi
  | l :: L, h, 0, _, off, cs, ho => by
    have hl := h l (by simp)
    simp only [splice, List.flatten_cons, Nat.zero_mul, Nat.zero_add, List.set_cons_zero, List.getD_cons_zero]
    rw [List.take_append_of_le_length (by omega), List.drop_append_of_le_length (by omega)]
    simp [List.append_assoc]
  | l :: L, h, i + 1, hi, off, cs, ho => by
    have hl := h l (by simp)
    have ih := splice_flatten n L (fun x hx => h x (by simp [hx])) i (by simpa using hi) off cs ho
    have e : (i + 1) * n + off = l.length + (i * n + off) := by rw [hl, Nat.add_mul]; omega
    simp only [List.flatten_cons, List.set_cons_succ, List.getD_cons_succ]
    rw [← ih, e]
    simp only [splice]
    rw [List.take_length_add_append, Nat.add_assoc, List.drop_length_add_append]
    simp [List.append_assoc]
end Go.Proofs.Yteggldplmbegfaa
