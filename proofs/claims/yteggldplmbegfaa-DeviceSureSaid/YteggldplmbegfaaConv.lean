/- BYTES AND STRINGS, told by what they read as. No condition. -/
import Derived.Test.YteggldplmbegfaaApp
set_option linter.unusedVariables false
set_option linter.unusedSimpArgs false
namespace Go.Proofs.Yteggldplmbegfaa
open Go.RowKit

/-- The string of bytes. -/
def str (l : List UInt8) : ByteArray := ⟨l.toArray⟩
theorem str_toList (l : List UInt8) : (str l).data.toList = l := by simp [str]
theorem str_size (l : List UInt8) : (str l).size = l.length := by simp [str, ByteArray.size]
theorem str_toListE : (⟨#[]⟩ : ByteArray).data.toList = [] := rfl
theorem str_of (s : ByteArray) : str s.data.toList = s := by simp [str]
theorem str_inj {a b : List UInt8} (h : str a = str b) : a = b := by rw [← str_toList a, h, str_toList]
theorem strOfNums_bytes (l : List UInt8) : strOfNums (l.map fun c => (c.toNat : Int)) = str l := by
  unfold strOfNums str
  congr 1
  rw [List.map_map]
  have : ((fun n : Int => UInt8.ofNat n.toNat) ∘ fun c : UInt8 => (c.toNat : Int)) = id := by funext c; simp
  rw [this, List.map_id]

section
variable {P : Program}
theorem run_bytes_str (w : World) (src dst e : TypeId) (hs : P.underlying src = some (.slice e)) (he : P.underlying e = some (.int .u8)) (hd : P.underlying dst = some .string) (A : Option Addr) (n c : Nat) (T : TypeId) (l : List UInt8)
    (hl : l.length = n) (h : RowIs w (.slice A n c) T 1 n (bv l)) : (convert src dst (.slice A n c)).run P w = .ok (.string (str l)) w := by
  cases A with
  | none =>
    have h0 : n = 0 := by
      by_cases h0 : n = 0
      · exact h0
      · obtain ⟨b, hb⟩ := h.nonempty h0
        cases hb
    subst h0
    obtain rfl := List.eq_nil_of_length_eq_zero hl
    exact run_convert_bytes_nil w src e hs he 0 c dst hd
  | some a =>
    have hc := h.cells a rfl
    have hload : (loadCells a n).run P w = .ok ((l.map fun c => (c.toNat : Int)).map (Value.int .u8)).toArray w := by
      have := run_loadCells_list (P := P) w a (bv l) hc
      rw [bv_length, hl] at this
      rw [this]
      congr 2
      simp [bv]
    rw [run_convert_bytes_string w src dst e _ n c hs he hd, run_bytesToString w _ n c _ hload, foldl_push_bytes]
    rw [← strOfNums_bytes]
    simp [strOfNums, ByteArray.empty, ByteArray.emptyWithCapacity]
    rfl
/-- .. at the operation. -/
theorem wp_bytes_str {o : Oper} {a : Act} {w : World} {K : Act → World → Prop} {Q : Exit → Act → World → Prop} (src dst e : TypeId) (x : Operand) (ho : o.op = .convert src dst x)
    (hs : P.underlying src = some (.slice e)) (he : P.underlying e = some (.int .u8)) (hd : P.underlying dst = some .string) (A : Option Addr) (n c : Nat) (T : TypeId) (l : List UInt8)
    (hx : a.eval x = .slice A n c) (hl : l.length = n) (h : RowIs w (.slice A n c) T 1 n (bv l)) (hK : K (a.put o.dst (.string (str l))) w) : o.wp P a w K Q := by
  have hr := run_bytes_str (P := P) w src dst e hs he hd A n c T l hl h
  unfold Oper.wp execOp
  simp only [ho, hx, Sem.run_bind, hr, Result.andThen_ok, Sem.run_pure]
  exact hK
theorem wpList_bytes_str {ops : Array Oper} {rest : List Oper} {o : Oper} {a : Act} {w : World} {Q : Exit → Act → World → Prop} (hgd : o.guard = none) (src dst e : TypeId) (x : Operand) (ho : o.op = .convert src dst x)
    (hs : P.underlying src = some (.slice e)) (he : P.underlying e = some (.int .u8)) (hd : P.underlying dst = some .string) (A : Option Addr) (n c : Nat) (T : TypeId) (l : List UInt8)
    (hx : a.eval x = .slice A n c) (hl : l.length = n) (h : RowIs w (.slice A n c) T 1 n (bv l)) (hK : wpList P ops Q rest (a.put o.dst (.string (str l))) w) : wpList P ops Q (o :: rest) a w :=
  wpList_plain hgd fun _ hk => wp_bytes_str src dst e x ho hs he hd A n c T l hx hl h (hk _ _ hK)
end

theorem row_at {w : World} {g n c : Nat} {T : TypeId} {fr : Nat × Nat} {l : List UInt8} (h : w.heap[g]? = some (.cells (bv l).toArray T fr)) (hn : l.length = n) (hc : n ≤ c) : RowIs w (.slice (some ⟨g, 0, none⟩) n c) T 1 n (bv l) :=
  ⟨by rw [bv_length, hn, Nat.mul_one], .inr ⟨g, 0, c, _, fr, rfl, hc, h, fun j x hj => by rw [Nat.zero_add, List.getElem?_toArray]; exact hj⟩⟩

section
variable {P : Program}
/-- '[]byte(s)': a new row that reads as the text. -/
theorem wp_str_bytes {o : Oper} {a : Act} {w : World} {K : Act → World → Prop} {Q : Exit → Act → World → Prop} (src dst e : TypeId) (x : Operand) (ho : o.op = .convert src dst x)
    (hs : P.underlying src = some .string) (hd : P.underlying dst = some (.slice e)) (he : P.underlying e = some (.int .u8)) (s : ByteArray) (hx : a.eval x = .string s)
    (hK : ∀ w1 c, RowIs w1 (.slice (some ⟨w.heap.size, 0, none⟩) s.size c) e 1 s.size (bv s.data.toList) → w.grownBy w1 none → w1.heap.size = w.heap.size + 1 → K (a.put o.dst (.slice (some ⟨w.heap.size, 0, none⟩) s.size c)) w1) : o.wp P a w K Q := by
  have hr := run_bytes_of_string (P := P) w src dst e s hs hd he
  unfold Oper.wp execOp
  simp only [ho, hx, Sem.run_bind, hr, Result.andThen_ok, Sem.run_pure]
  refine hK _ _ ⟨by rw [bv_length, Nat.mul_one]; rfl, .inr ⟨w.heap.size, 0, _, _, _, rfl, grownCap_ge _ _ _ _, heap_alloc_new w.drew _, fun j v hj => ?_⟩⟩ ⟨rfl, rfl, rfl, by simp, fun k hk _ => heap_alloc_old w.drew _ hk⟩ (by simp)
  have hj2 : j < s.data.size := by
    have := (List.getElem?_eq_some_iff.1 hj).1
    rw [bv_length] at this
    simpa using this
  rw [Nat.zero_add, bytesRow_at s _ j hj2]
  rw [bv_get, Array.getElem?_toList, Array.getElem?_eq_getElem hj2] at hj
  simpa using hj
theorem wpList_str_bytes {ops : Array Oper} {rest : List Oper} {o : Oper} {a : Act} {w : World} {Q : Exit → Act → World → Prop} (hgd : o.guard = none) (src dst e : TypeId) (x : Operand) (ho : o.op = .convert src dst x)
    (hs : P.underlying src = some .string) (hd : P.underlying dst = some (.slice e)) (he : P.underlying e = some (.int .u8)) (s : ByteArray) (hx : a.eval x = .string s)
    (h : ∀ w1 c, RowIs w1 (.slice (some ⟨w.heap.size, 0, none⟩) s.size c) e 1 s.size (bv s.data.toList) → w.grownBy w1 none → w1.heap.size = w.heap.size + 1 → wpList P ops Q rest (a.put o.dst (.slice (some ⟨w.heap.size, 0, none⟩) s.size c)) w1) :
    wpList P ops Q (o :: rest) a w :=
  wpList_plain hgd fun K hK => wp_str_bytes src dst e x ho hs hd he s hx fun w1 c h1 h2 h3 => hK _ _ (h w1 c h1 h2 h3)
end
end Go.Proofs.Yteggldplmbegfaa
