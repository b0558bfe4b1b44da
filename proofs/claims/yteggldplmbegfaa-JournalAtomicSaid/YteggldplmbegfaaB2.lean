/- Joined: Jn1, JnMod, JnMod2, JnMod3, Bytes, Zeros, Keepb, Sub. -/
import Derived.Test.YteggldplmbegfaaB1
import Derived.Laws.AppendOwnNone
import Derived.Lib.AppendZerosOnto
/- Jn1: THE JOURNAL: what lies where; its small methods, walked. -/
set_option linter.unusedVariables false
set_option linter.unusedSimpArgs false
namespace Go.Proofs.Yteggldplmbegfaa
open Go.RowKit

structure Jr where
  number : Nat
  side : Nat
  used : Nat
  data : List UInt8
  count : Int
  broken : Bool
/-- A journal's block, its device, its bytes. -/
structure JIs (w : World) (jb b bs : Nat) (dv : Value) (J : Jr) (D : Dev) : Prop where
  blk : w.heap[jb]? = some (.cells #[.pointer (some ⟨b, 0, none⟩), .int .u64 J.number, .int .i64 (J.side : Nat), .int .i64 (J.used : Nat), dv, .int .i64 J.count, .bool J.broken] 117 (0, 0))
  dev : DevIs w b bs D
  row : RowIs w dv 5 1 J.data.length (bv J.data)
/-- How many sectors a side has. -/
def Dev.secs (D : Dev) : Nat := (D.sure.length - 2) / 2

theorem jsectors_any (w : World) (b bs : Nat) (D : Dev) (h : DevIs w b bs D) (h2 : 2 ≤ D.sure.length) (hb : D.sure.length ≤ 4096) :
    Calls Try.prog 56 #[.pointer (some ⟨b, 0, none⟩)] w fun e w' => e = .returned (.int .i64 D.secs) ∧ w' = w := by
  go_enter Try.func56, Try.ntmps56
  go_wp2_with fail
  refine (wSize w b bs D h).mono ?_
  rintro e w' ⟨rfl, rfl⟩
  have hs : ((D.sure.length : Int) - 2).tdiv 2 = (D.secs : Nat) := by
    unfold Dev.secs
    rw [Int.tdiv_eq_ediv_of_nonneg (by omega)]
    omega
  have hw : wrap64 ((D.sure.length : Int) - 2) = (D.sure.length : Int) - 2 := by unfold wrap64; omega
  have hw2 : wrap64 ((D.secs : Nat) : Int) = (D.secs : Nat) := by unfold wrap64 Dev.secs; omega
  go_wp2
  go_ret
  refine ⟨?_, rfl⟩
  show Ending.returned (.int .i64 (wrap64 _)) = _
  rw [hw2]
set_option maxRecDepth 20000 in
theorem jat_any (w : World) (jb b bs : Nat) (dv : Value) (J : Jr) (D : Dev) (h : JIs w jb b bs dv J D) (h2 : 2 ≤ D.sure.length) (hb : D.sure.length ≤ 4096) (side i : Nat) (hs : side ≤ 1) (hi : i ≤ 4096) :
    Calls Try.prog 59 #[.pointer (some ⟨jb, 0, none⟩), .int .i64 side, .int .i64 i] w fun e w' => e = .returned (.int .i64 ((2 + side * D.secs + i : Nat) : Int)) ∧ w' = w := by
  have c0 : w.cell? ⟨jb, 0, none⟩ = some (.pointer (some ⟨b, 0, none⟩)) := cell_of_row _ _ _ _ _ _ h.blk
  go_enter Try.func59, Try.ntmps59
  go_wp2_with fail
  refine (jsectors_any w b bs D h.dev h2 hb).mono ?_
  rintro e w' ⟨rfl, rfl⟩
  have hsec : D.secs ≤ 2047 := by unfold Dev.secs; omega
  have hmul : side * D.secs ≤ 2047 := Nat.le_trans (Nat.mul_le_mul_right _ hs) (by omega)
  obtain ⟨m, hm⟩ : ∃ m : Int, m = (side : Int) * (D.secs : Int) := ⟨_, rfl⟩
  have hmn : m = ((side * D.secs : Nat) : Int) := by rw [hm]; simp
  have hm1 : 0 ≤ m ∧ m ≤ 2047 := by rw [hmn]; omega
  have e1 : (side : Int) * (D.secs : Int) = m := hm.symm
  have e2 : wrap64 m = m := by unfold wrap64; omega
  have e3 : wrap64 (2 + m) = 2 + m := by unfold wrap64; omega
  have e4 : wrap64 (2 + m + i) = 2 + m + i := by unfold wrap64; omega
  have HMN := Lib.hid hmn
  have HM := Lib.hid hmul
  clear hm hmn hmul
  go_wp2
  go_ret
  refine ⟨?_, rfl⟩
  show Ending.returned (.int .i64 _) = _
  have e5 : ((2 + side * D.secs + i : Nat) : Int) = 2 + m + i := by have := HMN.out; omega
  rw [e5]
theorem jLen_any (w : World) (jb b bs : Nat) (dv : Value) (J : Jr) (D : Dev) (h : JIs w jb b bs dv J D) :
    Calls Try.prog 28 #[.pointer (some ⟨jb, 0, none⟩)] w fun e w' => e = .returned (.int .i64 J.count) ∧ w' = w := by
  have c5 : w.cell? ⟨jb, 5, none⟩ = some (.int .i64 J.count) := cell_of_row _ _ _ _ _ _ h.blk
  go_enter Try.func28, Try.ntmps28
  go_wp2
  go_ret
  exact ⟨rfl, rfl⟩
theorem jLen_nil (w : World) : Calls Try.prog 28 #[.pointer none] w fun e w' => e = .returned (.int .i64 0) ∧ w' = w := by
  go_enter Try.func28, Try.ntmps28
  go_wp2
  go_ret
  exact ⟨rfl, rfl⟩
theorem jBroken_any (w : World) (jb b bs : Nat) (dv : Value) (J : Jr) (D : Dev) (h : JIs w jb b bs dv J D) :
    Calls Try.prog 29 #[.pointer (some ⟨jb, 0, none⟩)] w fun e w' => e = .returned (.bool J.broken) ∧ w' = w := by
  have c6 : w.cell? ⟨jb, 6, none⟩ = some (.bool J.broken) := cell_of_row _ _ _ _ _ _ h.blk
  go_enter Try.func29, Try.ntmps29
  go_wp2
  go_ret
  exact ⟨rfl, rfl⟩
theorem jBroken_nil (w : World) : Calls Try.prog 29 #[.pointer none] w fun e w' => e = .returned (.bool true) ∧ w' = w := by
  go_enter Try.func29, Try.ntmps29
  go_wp2
  go_ret
  exact ⟨rfl, rfl⟩
theorem jRoom_nil (w : World) : Calls Try.prog 27 #[.pointer none] w fun e w' => e = .returned (.int .i64 0) ∧ w' = w := by
  go_enter Try.func27, Try.ntmps27
  go_wp2
  go_ret
  exact ⟨rfl, rfl⟩
set_option maxRecDepth 20000 in
theorem jRoom_any (w : World) (jb b bs : Nat) (A : Option Addr) (c : Nat) (J : Jr) (D : Dev) (h : JIs w jb b bs (.slice A J.data.length c) J D) (h2 : 2 ≤ D.sure.length) (hb : D.sure.length ≤ 4096) (hd : J.data.length ≤ 1000000000) :
    Calls Try.prog 27 #[.pointer (some ⟨jb, 0, none⟩)] w fun e w' => e = .returned (.int .i64 ((D.secs * 256 : Nat) - (J.data.length : Int))) ∧ w' = w.drew := by
  have c0 : w.cell? ⟨jb, 0, none⟩ = some (.pointer (some ⟨b, 0, none⟩)) := cell_of_row _ _ _ _ _ _ h.blk
  have c4 : w.cell? ⟨jb, 4, none⟩ = some (.slice A J.data.length c) := cell_of_row _ _ _ _ _ _ h.blk
  have k0 : w.drew.cell? ⟨jb, 0, none⟩ = some (.pointer (some ⟨b, 0, none⟩)) := c0
  have k4 : w.drew.cell? ⟨jb, 4, none⟩ = some (.slice A J.data.length c) := c4
  have hsec : D.secs ≤ 2047 := by unfold Dev.secs; omega
  go_enter Try.func27, Try.ntmps27
  go_upto_region 3 with (fail)
  go_still_tail 12, (by kernel_rfl)
  still_call (jsectors_any _ b bs D h.dev.drew h2 hb)
  repeat still_step
  refine wpStill_nil ?_
  change wpList _ _ _ _ _ w.drew
  have e1 : wrap64 ((D.secs : Int) * 256) = (D.secs : Int) * 256 := by unfold wrap64; omega
  have e2 : wrap64 ((D.secs : Int) * 256 - (J.data.length : Int)) = (D.secs : Int) * 256 - (J.data.length : Int) := by unfold wrap64; omega
  go_wp2
  go_ret
  refine ⟨?_, rfl⟩
  have f1 : IntKind.i64.wrap ((D.secs : Int) * 256) = (D.secs : Int) * 256 := by rw [IntKind.wrap_i64]; omega
  have f2 : IntKind.i64.wrap ((D.secs : Int) * 256 - (J.data.length : Int)) = (D.secs : Int) * 256 - (J.data.length : Int) := by rw [IntKind.wrap_i64]; omega
  show Ending.returned (.int .i64 (IntKind.i64.wrap (IntKind.i64.wrap ((D.secs : Int) * 256) - (J.data.length : Int)))) = _
  rw [f1, f2]
  simp
end Go.Proofs.Yteggldplmbegfaa

/- JnMod: THE JOURNAL's BYTES, as data: numbers, sums, fields, records, tallies. No Go here. -/
set_option linter.unusedVariables false
set_option linter.unusedSimpArgs false
namespace Go.Proofs.Yteggldplmbegfaa

/-- The number of bytes, the highest first. -/
def num (l : List UInt8) : Nat := l.foldl (fun n c => n * 256 + c.toNat) 0
theorem num_snoc (l : List UInt8) (c : UInt8) : num (l ++ [c]) = num l * 256 + c.toNat := by simp [num]
theorem num_from : ∀ (l : List UInt8) (a : Nat), l.foldl (fun n c => n * 256 + c.toNat) a = a * 256 ^ l.length + num l
  | [], a => by simp [num]
  | c :: l, a => by
    have h1 := num_from l (a * 256 + c.toNat)
    have h2 := num_from l (0 * 256 + c.toNat)
    have e : num (c :: l) = l.foldl (fun n c => n * 256 + c.toNat) (0 * 256 + c.toNat) := rfl
    rw [e, h2]
    rw [List.foldl_cons, h1, List.length_cons, Nat.pow_succ, Nat.mul_comm (256 ^ l.length) 256, ← Nat.mul_assoc]
    simp only [Nat.add_mul, Nat.zero_mul, Nat.zero_add, Nat.add_assoc]
theorem num_cons (c : UInt8) (l : List UInt8) : num (c :: l) = c.toNat * 256 ^ l.length + num l := by
  have h := num_from l (0 * 256 + c.toNat)
  have e : num (c :: l) = l.foldl (fun n c => n * 256 + c.toNat) (0 * 256 + c.toNat) := rfl
  rw [e, h, Nat.zero_mul, Nat.zero_add]
theorem num_lt : ∀ l : List UInt8, num l < 256 ^ l.length
  | [] => by simp [num]
  | c :: l => by
    rw [num_cons, List.length_cons, Nat.pow_succ]
    have h1 := num_lt l
    have h2 := c.toNat_lt
    have h3 : c.toNat * 256 ^ l.length ≤ 255 * 256 ^ l.length := Nat.mul_le_mul_right _ (by omega)
    omega
/-- So many bytes of a number, the highest first. -/
def be : Nat → Nat → List UInt8
  | 0, _ => []
  | k + 1, n => be k (n / 256) ++ [UInt8.ofNat (n % 256)]
theorem be_length : ∀ k n, (be k n).length = k
  | 0, _ => rfl
  | k + 1, n => by simp [be, be_length k]
theorem num_be : ∀ k n, num (be k n) = n % 256 ^ k
  | 0, n => by simp [be, num, Nat.mod_one]
  | k + 1, n => by
    have e : (UInt8.ofNat (n % 256)).toNat = n % 256 := by rw [UInt8.toNat_ofNat']; omega
    rw [be, num_snoc, num_be k, e, Nat.pow_succ, Nat.mul_comm (256 ^ k), Nat.mod_mul]
    omega
/-- Without the noughts ahead. -/
def strip (l : List UInt8) : List UInt8 := l.dropWhile (· == 0)
theorem strip_snoc : ∀ (l : List UInt8) (c : UInt8), strip (l ++ [c]) = if strip l = [] then (if c = 0 then [] else [c]) else strip l ++ [c]
  | [], c => by
    by_cases h : c = 0
    · simp [strip, h]
    · simp [strip, h]
  | x :: l, c => by
    have ih := strip_snoc l c
    by_cases h : x = 0
    · simp only [strip, h, List.cons_append, List.dropWhile_cons, beq_self_eq_true, if_true]
      exact ih
    · have h2 : (x == 0) = false := by simpa using h
      simp [strip, List.dropWhile_cons, h2]
theorem strip_len (l : List UInt8) : (strip l).length ≤ l.length := (List.dropWhile_sublist _).length_le
theorem strip_pad : ∀ l : List UInt8, List.replicate (l.length - (strip l).length) 0 ++ strip l = l
  | [] => rfl
  | x :: l => by
    by_cases h : x = 0
    · have e : strip (x :: l) = strip l := by simp [strip, h]
      have hl := strip_len l
      rw [e, List.length_cons, show l.length + 1 - (strip l).length = (l.length - (strip l).length) + 1 by omega, List.replicate_succ, List.cons_append, strip_pad l, h]
    · have h2 : (x == 0) = false := by simpa using h
      have e : strip (x :: l) = x :: l := by simp [strip, List.dropWhile_cons, h2]
      rw [e]
      simp
/-- The sum's halves, on from some. -/
def halves (p : Nat × Nat) (c : UInt8) : Nat × Nat := ((p.1 + c.toNat) % 65521, (p.2 + (p.1 + c.toNat) % 65521) % 65521)
def adlerP (l : List UInt8) : Nat × Nat := l.foldl halves (1, 0)
def adler (l : List UInt8) : Nat := (adlerP l).2 * 65536 + (adlerP l).1
theorem adlerP_lt (l : List UInt8) : ∀ p : Nat × Nat, p.1 < 65521 → p.2 < 65521 → (l.foldl halves p).1 < 65521 ∧ (l.foldl halves p).2 < 65521 := by
  induction l with
  | nil => exact fun p h1 h2 => ⟨h1, h2⟩
  | cons c l ih => exact fun p h1 h2 => ih _ (Nat.mod_lt _ (by omega)) (Nat.mod_lt _ (by omega))
/-- Bytes with their sum behind them. -/
def seal_ (l : List UInt8) : List UInt8 := l ++ be 4 (adler l)
theorem seal_length (l : List UInt8) : (seal_ l).length = l.length + 4 := by simp [seal_, be_length]
end Go.Proofs.Yteggldplmbegfaa

/- JnMod2: THE JOURNAL's BYTES, as data: fields, records, how they are read again; tallies. No Go here. -/
set_option linter.unusedVariables false
set_option linter.unusedSimpArgs false
namespace Go.Proofs.Yteggldplmbegfaa

/-- A field: its length ahead of it. -/
def field (f : List UInt8) : List UInt8 :=
  if f.length < 255 then UInt8.ofNat f.length :: f else 255 :: UInt8.ofNat (f.length / 256) :: UInt8.ofNat f.length :: f
/-- Records as they lie. -/
def lie (rs : List (List UInt8)) : List UInt8 := (rs.map fun r => field (seal_ r)).flatten
theorem lie_nil : lie [] = [] := rfl
theorem lie_cons (r : List UInt8) (rs : List (List UInt8)) : lie (r :: rs) = field (seal_ r) ++ lie rs := by simp [lie]
theorem lie_append (a b : List (List UInt8)) : lie (a ++ b) = lie a ++ lie b := by simp [lie]
theorem field_len (f : List UInt8) : f.length < (field f).length ∧ (field f).length ≤ f.length + 3 := by
  unfold field
  split <;> constructor <;> simp only [List.length_cons] <;> omega
def packL (room : Nat) (out : List UInt8) : List (List UInt8) → List UInt8 × Int
  | [] => (out, 0)
  | r :: rs => if room < out.length then ([], 5) else packL room (out ++ field (seal_ r)) rs
/-- The bytes of records, and whether they can be. -/
def pack (rs : List (List UInt8)) (room : Nat) : List UInt8 × Int := if ∃ r ∈ rs, 65531 < r.length then ([], 4) else packL room [] rs
theorem packL_is (room : Nat) : ∀ (rs : List (List UInt8)) (out : List UInt8), packL room out rs = (out ++ lie rs, 0) ∨ (packL room out rs = ([], 5) ∧ room < (out ++ lie rs).length)
  | [], out => .inl (by simp [packL, lie_nil])
  | r :: rs, out => by
    unfold packL
    by_cases h : room < out.length
    · rw [if_pos h]
      exact .inr ⟨rfl, by rw [List.length_append]; omega⟩
    · rw [if_neg h, lie_cons, ← List.append_assoc]
      exact packL_is room rs _

/-- The head of the field at the beginning of bytes: its length, how many bytes tell it, the error. -/
def headOf : List UInt8 → Nat × Nat × Int
  | [] => (0, 0, 8)
  | a :: l => if a.toNat < 255 then (a.toNat, 1, 0) else
    match l with
    | b :: c :: _ => if b.toNat * 256 + c.toNat < 255 then (0, 0, 7) else (b.toNat * 256 + c.toNat, 3, 0)
    | _ => (0, 0, 8)
/-- The record of a field; none: its sum is wrong. -/
def openR (f : List UInt8) : Option (List UInt8) := if 4 ≤ f.length ∧ seal_ (f.take (f.length - 4)) = f then some (f.take (f.length - 4)) else none
/-- The fields of bytes, as they come, and the error behind them (0: none). -/
def fieldsOf : Nat → List UInt8 → List (List UInt8) × Int
  | 0, _ => ([], 0)
  | k + 1, b =>
    if b = [] then ([], 0) else
    let h := headOf b
    if h.2.2 ≠ 0 then ([], h.2.2) else
    if b.length < h.2.1 + h.1 then ([], 8) else
    let r := fieldsOf k (b.drop (h.2.1 + h.1))
    ((b.drop h.2.1).take h.1 :: r.1, r.2)
/-- The records of fields: all of them, or the error. -/
def recsOf : List (List UInt8) → Int → Option (List (List UInt8)) × Int
  | [], e => if e = 0 then (some [], 0) else (none, 7)
  | f :: fs, e => match openR f with
    | none => (none, 9)
    | some r => match recsOf fs e with
      | (some l, _) => (some (r :: l), 0)
      | (none, e') => (none, e')
def readR (b : List UInt8) : Option (List (List UInt8)) × Int := let x := fieldsOf (b.length + 1) b; recsOf x.1 x.2

theorem ofNat_toNat {n : Nat} (h : n < 256) : (UInt8.ofNat n).toNat = n := by rw [UInt8.toNat_ofNat']; omega
theorem headOf_field (f rest : List UInt8) (h : f.length ≤ 65535) : ∃ k, headOf (field f ++ rest) = (f.length, k, 0) ∧ (field f).length = k + f.length ∧ (field f ++ rest).drop k = f ++ rest := by
  unfold field
  split
  · rename_i hl
    refine ⟨1, ?_, by simp; omega, by simp⟩
    simp only [List.cons_append, headOf]
    rw [ofNat_toNat (by omega), if_pos hl]
  · rename_i hl
    refine ⟨3, ?_, by simp; omega, by simp⟩
    simp only [List.cons_append, headOf]
    have e : (UInt8.ofNat (f.length / 256)).toNat * 256 + (UInt8.ofNat f.length).toNat = f.length := by
      rw [ofNat_toNat (by omega), UInt8.toNat_ofNat']
      omega
    rw [if_neg (by decide), e, if_neg (by omega)]
theorem openR_seal (r : List UInt8) : openR (seal_ r) = some r := by
  unfold openR
  have h : (seal_ r).take ((seal_ r).length - 4) = r := by
    rw [seal_length]
    simp [seal_]
  rw [h, if_pos ⟨by rw [seal_length]; omega, rfl⟩]
theorem fieldsOf_lie : ∀ (rs : List (List UInt8)) (k : Nat), (∀ r ∈ rs, r.length ≤ 65531) → (lie rs).length < k → fieldsOf k (lie rs) = (rs.map seal_, 0)
  | [], k + 1, _, _ => by simp [fieldsOf, lie_nil]
  | r :: rs, k + 1, h, hk => by
    have h1 := h r (by simp)
    obtain ⟨m, e1, e2, e3⟩ := headOf_field (seal_ r) (lie rs) (by rw [seal_length]; omega)
    have hl := field_len (seal_ r)
    have ih := fieldsOf_lie rs k (fun x hx => h x (by simp [hx])) (by rw [lie_cons, List.length_append] at hk; omega)
    have hne : field (seal_ r) ++ lie rs ≠ [] := by
      intro he
      have := congrArg List.length he
      rw [List.length_append, List.length_nil] at this
      omega
    have e4 : (field (seal_ r) ++ lie rs).drop (m + (seal_ r).length) = lie rs := by
      rw [← List.drop_drop, e3, List.drop_left]
    rw [lie_cons]
    unfold fieldsOf
    rw [if_neg hne, e1]
    simp only
    rw [if_neg (by simp), if_neg (by rw [List.length_append]; omega), e4, ih, e3, List.take_left]
    rfl
theorem recsOf_seal : ∀ rs : List (List UInt8), recsOf (rs.map seal_) 0 = (some rs, 0)
  | [] => by simp [recsOf]
  | r :: rs => by simp [recsOf, openR_seal, recsOf_seal rs]
/-- What was laid is read again. -/
theorem readR_lie (rs : List (List UInt8)) (h : ∀ r ∈ rs, r.length ≤ 65531) : readR (lie rs) = (some rs, 0) := by
  unfold readR
  rw [fieldsOf_lie rs _ h (by omega)]
  exact recsOf_seal rs

/-- The program's name for a tally's text. -/
def word8 : List UInt8 := [119, 97, 114, 100, 115, 104, 105, 112]
theorem word8_length : word8.length = 8 := rfl
/-- A tally's sector. -/
def tallyB (n side used : Nat) : List UInt8 := word8 ++ be 8 n ++ (be 8 side ++ be 8 used) ++ word8 ++ (be 8 side ++ be 8 used) ++ be 8 n ++ List.replicate 192 0
theorem tallyB_length (n side used : Nat) : (tallyB n side used).length = 256 := by simp only [tallyB, List.length_append, be_length, word8_length, List.length_replicate]
/-- The bytes from a place on. -/
def cutB (b : List UInt8) (i j : Nat) : List UInt8 := (b.drop i).take (j - i)
/-- Is a sector's tally right? -/
def rightB (b : List UInt8) (room : Nat) : Prop :=
  cutB b 0 8 = word8 ∧ cutB b 32 40 = word8 ∧ cutB b 16 32 = cutB b 40 56 ∧ num (cutB b 56 64) = num (cutB b 8 16) ∧ 1 ≤ num (cutB b 8 16) ∧ num (cutB b 8 16) ≤ 4611686018427387904 ∧ num (cutB b 16 24) ≤ 1 ∧ num (cutB b 24 32) ≤ room
instance (b : List UInt8) (room : Nat) : Decidable (rightB b room) := by unfold rightB; infer_instance
/-- A sector's tally: its number (0: it isn't right), its side, its bytes. -/
def tallyOf (b : List UInt8) (room : Nat) : Nat × Nat × Nat := if rightB b room then (num (cutB b 8 16), num (cutB b 16 24), num (cutB b 24 32)) else (0, 0, 0)
end Go.Proofs.Yteggldplmbegfaa

/- JnMod3: THE JOURNAL, as data: what each of its methods makes of it and of its device. No Go here. -/
set_option linter.unusedVariables false
set_option linter.unusedSimpArgs false
namespace Go.Proofs.Yteggldplmbegfaa

/-- A tally is told: the journal, the device, the error. -/
def Jr.tell (J : Jr) (D : Dev) (n side used : Nat) : Jr × Dev × Int :=
  let w := D.write ((n % 2 : Nat) : Int) (tallyB n side used)
  if w.2 = 0 then
    let b := w.1.barrier
    if b.2 = 0 then ({ J with number := n, side := side, used := used }, b.1, 0) else ({ J with broken := true }, b.1, b.2)
  else ({ J with broken := true }, w.1, w.2)
/-- A sector of bytes, noughts behind them. -/
def chunk (all : List UInt8) (i : Nat) : List UInt8 := (all.drop (i * 256)).take 256 ++ List.replicate (256 - ((all.drop (i * 256)).take 256).length) 0
theorem chunk_length (all : List UInt8) (i : Nat) : (chunk all i).length = 256 := by
  unfold chunk
  rw [List.length_append, List.length_replicate, List.length_take]
  omega
/-- The sectors of bytes from the i-th on are written, k of them at most. -/
def layW (side : Nat) (all : List UInt8) : Nat → Nat → Dev → Dev × Int
  | 0, _, D => (D, 0)
  | k + 1, i, D => if i * 256 < all.length then
      let w := D.write ((2 + side * D.secs + i : Nat) : Int) (chunk all i)
      if w.2 = 0 then layW side all k (i + 1) w.1 else w
    else (D, 0)
def Jr.lay (J : Jr) (D : Dev) (side there : Nat) (all : List UInt8) (count : Int) : Jr × Dev × Int :=
  if J.number = 4611686018427387904 ∨ D.secs * 256 < all.length then (J, D, 5) else
  let w := layW side all (all.length + 1) (there / 256) D
  if w.2 = 0 then
    let b := w.1.barrier
    if b.2 = 0 then
      let t := J.tell b.1 (J.number + 1) side all.length
      if t.2.2 = 0 then ({ t.1 with data := all, count := count }, t.2.1, 0) else t
    else ({ J with broken := true }, b.1, b.2)
  else ({ J with broken := true }, w.1, w.2)
def Jr.add (J : Jr) (D : Dev) (rs : List (List UInt8)) : Jr × Dev × Int :=
  if J.broken then (J, D, 3) else
  let p := pack rs (D.secs * 256)
  if p.2 ≠ 0 ∨ rs = [] then (J, D, p.2) else J.lay D J.side J.data.length (J.data ++ p.1) (J.count + rs.length)
def Jr.replace (J : Jr) (D : Dev) (rs : List (List UInt8)) : Jr × Dev × Int :=
  if J.broken then (J, D, 3) else
  let p := pack rs (D.secs * 256)
  if p.2 ≠ 0 then (J, D, p.2) else J.lay D (1 - J.side) 0 p.1 rs.length
/-- The sectors of a side that hold so many bytes, one behind the other. -/
def Dev.side (D : Dev) (side : Nat) : Nat → List UInt8
  | 0 => []
  | k + 1 => D.side side k ++ D.at_ ((2 + side * D.secs + k : Nat) : Int)
/-- The tally that counts. -/
def Dev.tally (D : Dev) : Nat × Nat × Nat :=
  let a := tallyOf (D.at_ 0) (D.secs * 256)
  let b := tallyOf (D.at_ 1) (D.secs * 256)
  if a.1 < b.1 then b else a
/-- A journal is opened: the journal and its records, the device, the error. -/
def openJ (D : Dev) : Option (Jr × List (List UInt8)) × Dev × Int :=
  if D.sure.length < 6 then (none, D, 1) else
  if D.off then (none, D, 6) else
  let t := D.tally
  if t.1 = 0 then
    let J : Jr := { number := 0, side := 0, used := 0, data := [], count := 0, broken := false }
    let x := J.tell D 1 0 0
    if x.2.2 = 0 then (some (x.1, []), x.2.1, 0) else (none, x.2.1, x.2.2)
  else
    let data := (D.side t.2.1 ((t.2.2 + 255) / 256)).take t.2.2
    match readR data with
    | (some rs, _) => (some ({ number := t.1, side := t.2.1, used := t.2.2, data := data, count := rs.length, broken := false }, rs), D, 0)
    | (none, e) => (none, D, e)
end Go.Proofs.Yteggldplmbegfaa

/- Bytes: APPENDS OF BYTES, told by what the slices read as: whatever is appended, nil or empty too. No condition. -/
set_option linter.unusedVariables false
set_option linter.unusedSimpArgs false
namespace Go.Proofs.Yteggldplmbegfaa
open Go.RowKit

section
variable {P : Program} (w : World)
/-- 'append(s, x...)': s the call's own, x whatever reads as the new cells. -/
theorem run_app (base : Nat) (t ty e : TypeId) (i : TypeInfo) (z : Value) (size bytes : Nat) (ht : P.underlying t = some (.slice e)) (hi : P.info? e = some i) (hz : i.zero = some z)
    (hsize : i.size = size) (hby : i.bytes = bytes) (hzs : z.cells.size = size) (hsz : 0 < size)
    (v : Value) (n : Nat) (xs : List Value) (hown : w.ownsRow base e size v n xs)
    (x : Value) (T : TypeId) (m : Nat) (news : List Value) (hx : RowIs w x T size m news) (h1 : ∀ u ∈ news, u.oneCell' = true)
    (h63 : n + m ≤ maxLen) (hbytes : (n + m) * bytes ≤ 140737488355328) (hbase : base ≤ w.heap.size) :
    ∃ v' w', (Builtin.append_ #[t, t] ty #[v, x]).run P w = .ok v' w' ∧ w'.ownsRow base e size v' (n + m) (xs ++ news) ∧ w.grownBy w' v.ownBlock := by
  obtain ⟨A, c, rfl⟩ := hx.shape
  cases A with
  | some ad =>
    obtain ⟨v', w', h2, h3, h4, _⟩ := run_append_own (P := P) w base t ty e i z size bytes ht hi hz hsize hby hzs hsz v n xs hown ad m c news hx.1 (hx.cells ad rfl) h1 h63 hbytes hbase
    exact ⟨v', w', h2, h3, h4⟩
  | none =>
    have hm : m = 0 := by
      by_cases hm : m = 0
      · exact hm
      · obtain ⟨b, hb⟩ := hx.nonempty hm
        cases hb
    subst hm
    have hn : news = [] := List.eq_nil_of_length_eq_zero (by simpa using hx.1)
    subst hn
    refine ⟨v, w, ?_, by simpa using hown, ⟨rfl, rfl, rfl, Nat.le_refl _, fun _ _ _ => rfl⟩⟩
    rcases hown.2 with ⟨rfl, rfl⟩ | ⟨g, cap, cur, rfl, hbg, hg, hnc, hcm, hcs, htake⟩
    · simp [Builtin.append_, run_underlying ht, sizeOf, typeInfo, hi, Builtin.lenOf, Builtin.firstCells, loadCells, loadCellsFrom]
    · simp [Builtin.append_, run_underlying ht, sizeOf, typeInfo, hi, Builtin.lenOf, Builtin.firstCells, loadCells, loadCellsFrom, hnc, storeCells]
theorem wpList_app {ops : Array Oper} {rest : List Oper} {o : Oper} {a : Act} {Q : Exit → Act → World → Prop} (hgd : o.guard = none) (s y : Operand) (t : TypeId)
    (ho : o.op = .call { callee := .builtin .append, args := #[s, y], argTypes := #[t, t] })
    (base : Nat) (e : TypeId) (i : TypeInfo) (z : Value) (size bytes : Nat) (ht : P.underlying t = some (.slice e)) (hi : P.info? e = some i) (hz : i.zero = some z)
    (hsize : i.size = size) (hby : i.bytes = bytes) (hzs : z.cells.size = size) (hsz : 0 < size)
    (v : Value) (n : Nat) (xs : List Value) (hs : a.eval s = v) (hown : w.ownsRow base e size v n xs)
    (x : Value) (T : TypeId) (m : Nat) (news : List Value) (hy : a.eval y = x) (hx : RowIs w x T size m news) (h1 : ∀ u ∈ news, u.oneCell' = true)
    (h63 : n + m ≤ maxLen) (hbytes : (n + m) * bytes ≤ 140737488355328) (hbase : base ≤ w.heap.size)
    (h : ∀ v' w', w'.ownsRow base e size v' (n + m) (xs ++ news) → w.grownBy w' v.ownBlock → wpList P ops Q rest (a.put o.dst v') w') : wpList P ops Q (o :: rest) a w := by
  refine wpList_plain hgd fun K hK => ?_
  obtain ⟨v', w', hr, h2, h3⟩ := run_app (P := P) w base t o.type e i z size bytes ht hi hz hsize hby hzs hsz v n xs hown x T m news hx h1 h63 hbytes hbase
  unfold Oper.wp execOp
  simp only [ho, resolve, invoke, builtin, Sem.run_bind, Sem.run_pure, Result.andThen_ok, List.map_toArray, List.map_cons, List.map_nil, hs, hy, hr]
  exact hK _ _ (h v' w' h2 h3)
end
theorem info5 : (Try.prog.info? 5).map (fun i => (i.zero, i.size, i.bytes)) = some (some (.int .u8 0), 1, 1) := by kernel_rfl
theorem bv_append (a b : List UInt8) : bv (a ++ b) = bv a ++ bv b := by simp [bv]
/-- The same at bytes. -/
theorem wpList_appb (w : World) {ops : Array Oper} {rest : List Oper} {o : Oper} {a : Act} {Q : Exit → Act → World → Prop} (hgd : o.guard = none) (s y : Operand)
    (ho : o.op = .call { callee := .builtin .append, args := #[s, y], argTypes := #[33, 33] }) (base : Nat)
    (v : Value) (l : List UInt8) (hs : a.eval s = v) (hown : w.ownsRow base 5 1 v l.length (bv l))
    (x : Value) (T : TypeId) (l2 : List UInt8) (hy : a.eval y = x) (hx : RowIs w x T 1 l2.length (bv l2)) (hb : l.length + l2.length ≤ 140737488355328) (hbase : base ≤ w.heap.size)
    (h : ∀ v' w', w'.ownsRow base 5 1 v' (l ++ l2).length (bv (l ++ l2)) → w.grownBy w' v.ownBlock → wpList Try.prog ops Q rest (a.put o.dst v') w') : wpList Try.prog ops Q (o :: rest) a w := by
  obtain ⟨i0, hi, hz0, hz1, hz2⟩ := info_parts info5
  refine wpList_app w hgd s y 33 ho base 5 i0 _ 1 1 Try.underlying33 hi hz0 hz1 hz2 rfl (by decide) v l.length (bv l) hs hown x T l2.length (bv l2) hy hx (bv_one l2) (by unfold maxLen; omega) (by omega) hbase fun v' w' h1 h2 => h v' w' ?_ h2
  rw [bv_append, List.length_append]
  exact h1
theorem own_fr {w : World} {base : Nat} {e : TypeId} {size n : Nat} {v : Value} {xs : List Value} (h : w.ownsRow base e size v n xs) {B : Nat} (hB : B ≤ base) : ∀ k, v.ownBlock = some k → k ∈ ([] : List Nat) ∨ B ≤ k :=
  fun k hk => .inr (Nat.le_trans hB (h.lt k hk).1)
/-- What is appended to the call's own leaves what was. -/
theorem below_app {w0 w w' : World} {B base : Nat} {e : TypeId} {size n : Nat} {v : Value} {xs : List Value} (hb : Below B w0 w) (h : w.ownsRow base e size v n xs) (hB : B ≤ base) (hg : w.grownBy w' v.ownBlock) (hs : B ≤ w.heap.size) : Below B w0 w' :=
  hb.grown hg hs fun k hk => Nat.le_trans hB (h.lt k hk).1
end Go.Proofs.Yteggldplmbegfaa

/- Zeros: 'append(s, make([]byte, k)...)': s the call's own. No condition. -/
set_option linter.unusedVariables false
set_option linter.unusedSimpArgs false
namespace Go.Proofs.Yteggldplmbegfaa
open Go.RowKit

theorem zc_byte (k : Nat) : (Builtin.zeroCells (Value.int .u8 0).cells k).toList = bv (List.replicate k 0) := by
  refine List.ext_getElem? fun j => ?_
  rw [Array.getElem?_toList, bv_get, List.getElem?_replicate]
  unfold Builtin.zeroCells
  by_cases hj : j < k
  · rw [if_pos hj]
    simp [hj, Value.cells, Nat.mod_one]
  · rw [if_neg hj]
    simp [hj, Value.cells]
section
variable {P : Program} (w : World)
theorem run_app_zeros (base : Nat) (t tn ty e : TypeId) (i : TypeInfo) (kq kn : IntKind) (ht : P.underlying t = some (.slice e)) (htn : P.underlying tn = some (.int kn)) (hi : P.info? e = some i) (hz : i.zero = some (.int .u8 0))
    (hsize : i.size = 1) (hby : i.bytes = 1) (v : Value) (l : List UInt8) (hown : w.ownsRow base e 1 v l.length (bv l)) (k : Nat) (h0 : 0 < k) (hb : l.length + k ≤ 140737488355328) (hbase : base ≤ w.heap.size) :
    ∃ v' w', (Builtin.append_ #[t, tn] ty #[v, .int kq k]).run P w = .ok v' w' ∧ w'.ownsRow base e 1 v' (l ++ List.replicate k 0).length (bv (l ++ List.replicate k 0)) ∧ w.grownBy w' v.ownBlock := by
  have hl2 : (l ++ List.replicate k (0 : UInt8)).length = l.length + k := by simp
  have hbl : (bv l).length = l.length := bv_length l
  have fin : ∀ (old : Nat) (row : Option Nat), ∃ v' w', (Result.ok (.slice (some ⟨w.heap.size, 0, none⟩) (l.length + k) (grownCap w (l.length + k) old e))
      (w.drew.alloc (.cells ((bv l).toArray ++ Builtin.zeroCells (Value.int .u8 0).cells k ++ Builtin.zeroCells (Value.int .u8 0).cells (grownCap w (l.length + k) old e - (l.length + k))) e)) : Result Value) = .ok v' w' ∧
      w'.ownsRow base e 1 v' (l ++ List.replicate k 0).length (bv (l ++ List.replicate k 0)) ∧ w.grownBy w' row := fun old row => by
    have hge := grownCap_ge w (l.length + k) old e
    refine ⟨_, _, rfl, ⟨by rw [bv_length, Nat.mul_one], .inr ⟨w.heap.size, _, _, by rw [hl2], hbase, heap_alloc_new w.drew _, by rw [hl2]; exact hge, grownCap_le_maxLen w _ old e (by unfold maxLen; omega), ?_, ?_⟩⟩, ⟨rfl, rfl, rfl, by simp, fun k hk _ => heap_alloc_old w.drew _ hk⟩⟩
    · simp only [Array.size_append, List.size_toArray, size_zeroCells, Value.cells, bv_length, List.size_toArray, List.length_cons, List.length_nil]
      omega
    · rw [bv_append, Array.toList_append, Array.toList_append, List.toList_toArray, zc_byte]
      exact List.take_left' (by rw [List.length_append, bv_length, bv_length, List.length_append, Nat.mul_one])
  rcases hown.2 with ⟨rfl, hn⟩ | ⟨g, cap, cur, rfl, hbg, hg, hnc, hcm, hcs, htake⟩
  · have hl : l = [] := List.eq_nil_of_length_eq_zero hn
    subst hl
    have hr := Lib.run_append_nil_zeros (P := P) w t tn ty e i (.int .u8 0) kq kn ht htn hi hz k h0 (by omega) (by simp at hb; omega) (by rw [hby]; simp at hb; omega)
    rw [hr]
    have h2 := fin 0 (Value.ownBlock (.slice none 0 0))
    simp only [List.length_nil, Nat.zero_add, show ∀ Z : Array Value, (bv []).toArray ++ Z = Z from fun Z => by simp [bv]] at h2
    exact h2
  · by_cases hroom : l.length + k ≤ cap
    · have hw : IntKind.i64.wrap (k : Int) = k := by rw [IntKind.wrap_i64]; omega
      have h48i : ¬ (281474976710656 < (k : Int)) := by omega
      have hneg : ¬ ((k : Int) < 0) := by omega
      have hk : k ≠ 0 := by omega
      have hst := run_storeCells_at P g (l.length * 1) e (bv (List.replicate k 0)) 0 cur w hg (by rw [bv_length, List.length_replicate, hcs]; omega) (bv_one _)
      simp only [Nat.add_zero] at hst
      refine ⟨.slice (some ⟨g, 0, none⟩) (l.length + k) cap, _, ?_, ⟨by rw [bv_length, Nat.mul_one], .inr ⟨g, cap, _, by rw [hl2], hbg, setRow_heap w g cur (cur.toList.take (l.length * 1) ++ bv (List.replicate k 0) ++ cur.toList.drop (l.length * 1 + (bv (List.replicate k 0)).length)).toArray e _ hg, by rw [hl2]; exact hroom, hcm, ?_, ?_⟩⟩, ⟨rfl, rfl, rfl, by simp, fun j _ hj => setRow_other w g j _ (fun e => hj (by simp [Value.ownBlock, e]))⟩⟩
      · rw [Nat.mul_one] at hst
        simp [Builtin.append_, run_underlying ht, run_underlying htn, sizeOf, typeInfo, zeroValue, hi, hz, hsize, hby, asInt, asIntOf, hw, hneg, h48i, hk, hroom, Addr.add_lit, zc_byte, hst]
      · simp only [List.size_toArray, List.length_append, List.length_take, List.length_drop, Array.length_toList, bv_length, List.length_replicate]
        omega
      · rw [htake, bv_append, List.toList_toArray]
        exact List.take_left' (by rw [List.length_append, bv_length, bv_length, List.length_append, Nat.mul_one])
    · have holds := run_firstCells_some (P := P) w.drew 1 l.length ⟨g, 0, none⟩ l.length cap (bv l) (by rw [bv_length, Nat.mul_one]) (hown.cells (g := g) rfl)
      have hr := Lib.run_append_grow_zeros (P := P) w t tn ty e i (.int .u8 0) kq kn ht htn hi hz (some ⟨g, 0, none⟩) l.length cap (bv l) (by rw [hsize]; exact holds) k h0 (by omega) (by omega) (by omega) (by rw [hby]; omega) (by rw [hby]; exact growslice_fits (by omega) (by omega))
      rw [hr]
      exact fin cap _
end
theorem under3 : Try.prog.underlying 3 = some (.int .i64) := by kernel_rfl
theorem wpList_app0 (w : World) {ops : Array Oper} {rest : List Oper} {o : Oper} {a : Act} {Q : Exit → Act → World → Prop} (hgd : o.guard = none) (s y : Operand)
    (ho : o.op = .call { callee := .builtin .append, args := #[s, y], argTypes := #[33, 3] }) (base : Nat)
    (v : Value) (l : List UInt8) (hs : a.eval s = v) (hown : w.ownsRow base 5 1 v l.length (bv l))
    (kq : IntKind) (k : Nat) (hy : a.eval y = .int kq k) (h0 : 0 < k) (hb : l.length + k ≤ 140737488355328) (hbase : base ≤ w.heap.size)
    (h : ∀ v' w', w'.ownsRow base 5 1 v' (l ++ List.replicate k 0).length (bv (l ++ List.replicate k 0)) → w.grownBy w' v.ownBlock → wpList Try.prog ops Q rest (a.put o.dst v') w') : wpList Try.prog ops Q (o :: rest) a w := by
  obtain ⟨i0, hi, hz0, hz1, hz2⟩ := info_parts info5
  obtain ⟨v', w', hr, h1, h2⟩ := run_app_zeros (P := Try.prog) w base 33 3 o.type 5 i0 kq .i64 Try.underlying33 under3 hi hz0 hz1 hz2 v l hown k h0 hb hbase
  exact Lib.wpList_append_run (P := Try.prog) w hgd s y 33 3 ho v (.int kq k) hs hy v' w' hr (h v' w' h1 h2)
end Go.Proofs.Yteggldplmbegfaa

/- Keepb: AN APPEND OF BYTES leaves what its first slice read as. No condition. -/
set_option linter.unusedVariables false
set_option linter.unusedSimpArgs false
namespace Go.Proofs.Yteggldplmbegfaa
open Go.RowKit

section
variable {P : Program} (w : World)
theorem run_app_keep (base : Nat) (t ty e : TypeId) (i : TypeInfo) (z : Value) (ht : P.underlying t = some (.slice e)) (hi : P.info? e = some i) (hz : i.zero = some z)
    (hsize : i.size = 1) (hby : i.bytes = 1) (hzs : z.cells.size = 1) (v : Value) (n : Nat) (xs : List Value) (hown : w.ownsRow base e 1 v n xs)
    (x : Value) (T : TypeId) (m : Nat) (news : List Value) (hx : RowIs w x T 1 m news) (h1 : ∀ u ∈ news, u.oneCell' = true)
    (hb : n + m ≤ 140737488355328) (hbase : base ≤ w.heap.size) :
    ∃ v' w', (Builtin.append_ #[t, t] ty #[v, x]).run P w = .ok v' w' ∧ w'.ownsRow base e 1 v' (n + m) (xs ++ news) ∧ w.grownBy w' v.ownBlock ∧ w'.ownsRow base e 1 v n xs := by
  rcases hown.2 with ⟨rfl, rfl⟩ | ⟨g, cap, cur, rfl, hbg, hg, hnc, hcm, hcs, htake⟩
  · obtain ⟨v', w', h2, h3, h4⟩ := run_app w base t ty e i z 1 1 ht hi hz hsize hby hzs (by decide) _ _ xs hown x T m news hx h1 (by unfold maxLen; omega) (by omega) hbase
    have hxs : xs = [] := List.eq_nil_of_length_eq_zero (by simpa using hown.1)
    subst hxs
    exact ⟨v', w', h2, h3, h4, World.ownsRow_nil _ _ _ _⟩
  · by_cases hm : m = 0
    · subst hm
      have hn : news = [] := List.eq_nil_of_length_eq_zero (by simpa using hx.1)
      subst hn
      refine ⟨.slice (some ⟨g, 0, none⟩) n cap, w, ?_, by simpa using hown, ⟨rfl, rfl, rfl, Nat.le_refl _, fun _ _ _ => rfl⟩, hown⟩
      obtain ⟨A, c, rfl⟩ := hx.shape
      cases A with
      | none => simp [Builtin.append_, run_underlying ht, sizeOf, typeInfo, hi, Builtin.lenOf, Builtin.firstCells, loadCells, loadCellsFrom, hnc, storeCells]
      | some ad => simp [Builtin.append_, run_underlying ht, sizeOf, typeInfo, hi, Builtin.lenOf, Builtin.firstCells, loadCells, loadCellsFrom, hnc, storeCells]
    · obtain ⟨A, c, rfl⟩ := hx.shape
      obtain ⟨ad, rfl⟩ := hx.nonempty hm
      by_cases hroom : n + m ≤ cap
      · have hl : news.length = m * 1 := hx.1
        have hr := run_append_room (P := P) w t ty e i ht hi g n cap cur hg ad m c news (by rw [hsize]; exact hl) (hx.cells ad rfl) h1 hroom (by rw [hsize]; omega)
        obtain ⟨v', w', h2, h3, h4⟩ := run_app w base t ty e i z 1 1 ht hi hz hsize hby hzs (by decide) _ _ xs hown _ T m news hx h1 (by unfold maxLen; omega) (by omega) hbase
        rw [hr] at h2
        simp only [Result.ok.injEq] at h2
        obtain ⟨rfl, rfl⟩ := h2
        refine ⟨_, _, hr, h3, h4, ⟨hown.1, .inr ⟨g, cap, _, rfl, hbg, setRow_heap w g cur _ e _ hg, hnc, hcm, ?_, ?_⟩⟩⟩
        · simp only [List.size_toArray, List.length_append, List.length_take, List.length_drop, Array.length_toList, hsize]
          omega
        · rw [List.toList_toArray, List.append_assoc, List.take_append_of_le_length (by rw [List.length_take, Array.length_toList, hsize]; omega), List.take_take, hsize, Nat.min_self]
          exact htake
      · have hr := run_append_grow (P := P) w t ty e i z ht hi hz ⟨g, 0, none⟩ n cap xs (by rw [hsize]; exact hown.1) (hown.cells (g := g) rfl) ad m c news (by rw [hsize]; exact hx.1) (hx.cells ad rfl) (by omega) (by omega) (by rw [hby]; exact growslice_fits (by omega) (by omega))
        obtain ⟨v', w', h2, h3, h4⟩ := run_app w base t ty e i z 1 1 ht hi hz hsize hby hzs (by decide) _ _ xs hown _ T m news hx h1 (by unfold maxLen; omega) (by omega) hbase
        have h5 := h2
        rw [hr] at h2
        simp only [Result.ok.injEq] at h2
        obtain ⟨rfl, rfl⟩ := h2
        exact ⟨_, _, h5, h3, h4, ⟨hown.1, .inr ⟨g, cap, cur, rfl, hbg, (heap_alloc_old w.drew _ (lt_of_heap hg)).trans hg, hnc, hcm, hcs, htake⟩⟩⟩
end
theorem wpList_appk (w : World) {ops : Array Oper} {rest : List Oper} {o : Oper} {a : Act} {Q : Exit → Act → World → Prop} (hgd : o.guard = none) (s y : Operand)
    (ho : o.op = .call { callee := .builtin .append, args := #[s, y], argTypes := #[33, 33] }) (base : Nat)
    (v : Value) (l : List UInt8) (hs : a.eval s = v) (hown : w.ownsRow base 5 1 v l.length (bv l))
    (x : Value) (T : TypeId) (l2 : List UInt8) (hy : a.eval y = x) (hx : RowIs w x T 1 l2.length (bv l2)) (hb : l.length + l2.length ≤ 140737488355328) (hbase : base ≤ w.heap.size)
    (h : ∀ v' w', w'.ownsRow base 5 1 v' (l ++ l2).length (bv (l ++ l2)) → w.grownBy w' v.ownBlock → w'.ownsRow base 5 1 v l.length (bv l) → wpList Try.prog ops Q rest (a.put o.dst v') w') : wpList Try.prog ops Q (o :: rest) a w := by
  obtain ⟨i0, hi, hz0, hz1, hz2⟩ := info_parts info5
  obtain ⟨v', w', hr, h1, h2, h3⟩ := run_app_keep (P := Try.prog) w base 33 o.type 5 i0 _ Try.underlying33 hi hz0 hz1 hz2 rfl v l.length (bv l) hown x T l2.length (bv l2) hx (bv_one l2) hb hbase
  exact Lib.wpList_append_run (P := Try.prog) w hgd s y 33 33 ho v x hs hy v' w' hr (h v' w' (by rw [bv_append, List.length_append]; exact h1) h2 h3)
theorem owns_below {w w' : World} {base : Nat} {e : TypeId} {size n : Nat} {v : Value} {xs : List Value} (h : w.ownsRow base e size v n xs) (hb : Below w.heap.size w w') : w'.ownsRow base e size v n xs := by
  refine ⟨h.1, ?_⟩
  rcases h.2 with h2 | ⟨g, cap, cur, rfl, hg, hh, r⟩
  · exact .inl h2
  · exact .inr ⟨g, cap, cur, rfl, hg, (hb.block g (lt_of_heap hh)).trans hh, r⟩
theorem owns_lower {w : World} {base base' : Nat} {e : TypeId} {size n : Nat} {v : Value} {xs : List Value} (h : w.ownsRow base e size v n xs) (hb : base' ≤ base) : w.ownsRow base' e size v n xs := by
  refine ⟨h.1, ?_⟩
  rcases h.2 with h2 | ⟨g, cap, cur, rfl, hg, r⟩
  · exact .inl h2
  · exact .inr ⟨g, cap, cur, rfl, Nat.le_trans hb hg, r⟩
/-- Another slice of as many bytes reads as it did, be it the same row. -/
theorem owns_beside {w w' : World} {base base' : Nat} {e : TypeId} {n : Nat} {a v : Value} {xs ys : List Value} (ha : w.ownsRow base e 1 a n xs) (hv : w.ownsRow base' e 1 v n ys) (hg : w.grownBy w' v.ownBlock) (hv' : w'.ownsRow base' e 1 v n ys) : w'.ownsRow base e 1 a n xs := by
  by_cases hne : a.ownBlock = none ∨ a.ownBlock ≠ v.ownBlock
  · exact ha.kept hg hne
  · have h0 : ¬ a.ownBlock = none := fun h => hne (.inl h)
    have h1 : a.ownBlock = v.ownBlock := Classical.byContradiction fun h => hne (.inr h)
    rcases ha.2 with ⟨rfl, _⟩ | ⟨g, cap, cur, rfl, b1, b2, b3, b4, b5, b6⟩
    · exact absurd rfl h0
    · rcases hv.2 with ⟨rfl, _⟩ | ⟨g2, cap2, cur2, rfl, c1, c2, c3, c4, c5, c6⟩
      · simp [Value.ownBlock] at h1
      · have hgg : g = g2 := by simpa [Value.ownBlock] using h1
        subst hgg
        rw [b2] at c2
        simp only [Option.some.injEq, Obj.cells.injEq, true_and] at c2
        obtain ⟨rfl, _⟩ := c2
        rcases hv'.2 with ⟨h, _⟩ | ⟨g3, cap3, cur3, h, d1, d2, d3, d4, d5, d6⟩
        · cases h
        · simp only [Value.slice.injEq, Option.some.injEq, Addr.mk.injEq, true_and, and_true] at h
          obtain ⟨rfl, rfl⟩ := h
          refine ⟨ha.1, .inr ⟨g, cap, cur3, rfl, b1, d2, b3, b4, by omega, ?_⟩⟩
          rw [d6, ← c6, b6]
end Go.Proofs.Yteggldplmbegfaa

/- Sub: CUTS OF SLICES, told by what they read as. No condition. -/
set_option linter.unusedVariables false
set_option linter.unusedSimpArgs false
namespace Go.Proofs.Yteggldplmbegfaa
open Go.RowKit

theorem cutB_len (b : List UInt8) (i j : Nat) (hj : j ≤ b.length) : (cutB b i j).length = j - i := by simp [cutB]; omega
theorem cutB_take (b : List UInt8) (j : Nat) : cutB b 0 j = b.take j := by simp [cutB]
theorem cutB_drop (b : List UInt8) (i : Nat) : cutB b i b.length = b.drop i := by
  unfold cutB
  rw [List.take_of_length_le (by simp)]
theorem RowIs.sliced {w : World} {A : Option Addr} {T : TypeId} {sz n c : Nat} {l : List Value} (h : RowIs w (.slice A n c) T sz n l) (i j m : Nat) (hij : i ≤ j) (hj : j ≤ n) (hm : j ≤ m) (hmc : m ≤ c) :
    RowIs w (sliced A i j m sz) T sz (j - i) ((l.drop (i * sz)).take ((j - i) * sz)) := by
  have hlen : l.length = n * sz := h.1
  have hjn : j * sz ≤ n * sz := Nat.mul_le_mul_right _ hj
  have e1 : (j - i) * sz = j * sz - i * sz := Nat.sub_mul _ _ _
  have hii : i * sz ≤ j * sz := Nat.mul_le_mul_right _ hij
  refine ⟨by rw [List.length_take, List.length_drop]; omega, ?_⟩
  unfold Go.sliced
  by_cases h0 : j - i = 0
  · rw [h0]
    exact .inl ⟨rfl, _, _, rfl⟩
  · rcases h.2 with ⟨rfl, _⟩ | ⟨g, o, c', cur, fr, hv, hc, hg, hx⟩
    · omega
    · simp only [Value.slice.injEq] at hv
      obtain ⟨rfl, _, rfl⟩ := hv
      refine .inr ⟨g, o + i * sz, m - i, cur, fr, ?_, by omega, hg, fun q x hq => ?_⟩
      · rw [if_neg (by omega)]
        simp only [Option.map_some, addr_add]
      · rw [List.getElem?_take] at hq
        split at hq
        · rw [List.getElem?_drop] at hq
          rw [Nat.add_assoc]
          exact hx _ _ hq
        · cases hq
theorem bv_cut (l : List UInt8) (i j : Nat) : ((bv l).drop (i * 1)).take ((j - i) * 1) = bv (cutB l i j) := by
  simp [bv, cutB, List.map_take, List.map_drop]

theorem elem33 : Try.prog.underlying 33 = some (.slice (Try.prog.elem 33)) := by kernel_rfl
theorem size33 (w : World) : (sizeOf (Try.prog.elem 33)).run Try.prog w = .ok 1 w := by kernel_rfl
/-- The three cuts of a slice of bytes. -/
theorem wp_sub_lh {o : Oper} {a : Act} {w : World} {K : Act → World → Prop} {Q : Exit → Act → World → Prop} (x lo hi : Operand) (ho : o.op = .slice 33 x (some lo) (some hi) none)
    (A : Option Addr) (n c : Nat) (T : TypeId) (l : List UInt8) (hx : a.eval x = .slice A n c) (hr : RowIs w (.slice A n c) T 1 n (bv l)) (kl kh : IntKind) (i j : Nat) (hlo : a.eval lo = .int kl i) (hhi : a.eval hi = .int kh j) (hij : i ≤ j) (hj : j ≤ n)
    (hK : ∀ v, RowIs w v T 1 (j - i) (bv (cutB l i j)) → K (a.put o.dst v) w) : o.wp Try.prog a w K Q := by
  have hc := hr.le
  have h1 := run_slice_lh (P := Try.prog) w 33 A n c elem33 kl kh i j (by omega) (by omega) (by omega)
  rw [size33] at h1
  have h2 := hr.sliced i j c hij hj (by omega) (Nat.le_refl _)
  rw [bv_cut] at h2
  unfold Oper.wp execOp
  simp only [ho, hx, hlo, hhi, Option.map_some, Option.map_none, Sem.run_bind, run_sliceAt_slice (P := Try.prog) w 33 _ _ _ _ elem33, h1, Result.andThen_ok, Sem.run_pure, Int.toNat_natCast]
  exact hK _ h2
theorem wp_sub_h {o : Oper} {a : Act} {w : World} {K : Act → World → Prop} {Q : Exit → Act → World → Prop} (x hi : Operand) (ho : o.op = .slice 33 x none (some hi) none)
    (A : Option Addr) (n c : Nat) (T : TypeId) (l : List UInt8) (hx : a.eval x = .slice A n c) (hr : RowIs w (.slice A n c) T 1 n (bv l)) (kh : IntKind) (j : Nat) (hhi : a.eval hi = .int kh j) (hj : j ≤ n)
    (hK : ∀ v, RowIs w v T 1 j (bv (l.take j)) → K (a.put o.dst v) w) : o.wp Try.prog a w K Q := by
  have hc := hr.le
  have h1 := run_slice_h (P := Try.prog) w 33 A n c elem33 kh j (by omega) (by omega)
  rw [size33] at h1
  have h2 := hr.sliced 0 j c (by omega) hj (by omega) (Nat.le_refl _)
  rw [bv_cut, cutB_take, Nat.sub_zero] at h2
  unfold Oper.wp execOp
  simp only [ho, hx, hhi, Option.map_some, Option.map_none, Sem.run_bind, run_sliceAt_slice (P := Try.prog) w 33 _ _ _ _ elem33, h1, Result.andThen_ok, Sem.run_pure, Int.toNat_natCast]
  exact hK _ h2
theorem wp_sub_l {o : Oper} {a : Act} {w : World} {K : Act → World → Prop} {Q : Exit → Act → World → Prop} (x lo : Operand) (ho : o.op = .slice 33 x (some lo) none none)
    (A : Option Addr) (n c : Nat) (T : TypeId) (l : List UInt8) (hl : l.length = n) (hx : a.eval x = .slice A n c) (hr : RowIs w (.slice A n c) T 1 n (bv l)) (kl : IntKind) (i : Nat) (hlo : a.eval lo = .int kl i) (hi : i ≤ n)
    (hK : ∀ v, RowIs w v T 1 (n - i) (bv (l.drop i)) → K (a.put o.dst v) w) : o.wp Try.prog a w K Q := by
  have hc := hr.le
  have h1 := run_slice_l (P := Try.prog) w 33 A n c elem33 kl i (by omega) (by omega)
  rw [size33] at h1
  have h2 := hr.sliced i n c hi (Nat.le_refl _) hc (Nat.le_refl _)
  rw [bv_cut, ← hl, cutB_drop, hl] at h2
  unfold Oper.wp execOp
  simp only [ho, hx, hlo, Option.map_some, Option.map_none, Sem.run_bind, run_sliceAt_slice (P := Try.prog) w 33 _ _ _ _ elem33, h1, Result.andThen_ok, Sem.run_pure, Int.toNat_natCast]
  exact hK _ h2
/-- 'x[:j:m]'. -/
theorem wp_sub_hm {o : Oper} {a : Act} {w : World} {K : Act → World → Prop} {Q : Exit → Act → World → Prop} (x hi mx : Operand) (ho : o.op = .slice 33 x none (some hi) (some mx))
    (A : Option Addr) (n c : Nat) (T : TypeId) (l : List UInt8) (hx : a.eval x = .slice A n c) (hr : RowIs w (.slice A n c) T 1 n (bv l)) (kh km : IntKind) (j m : Nat) (hhi : a.eval hi = .int kh j) (hmx : a.eval mx = .int km m) (hj : j ≤ n) (hjm : j ≤ m) (hm : m ≤ c)
    (hK : ∀ v, RowIs w v T 1 j (bv (l.take j)) → K (a.put o.dst v) w) : o.wp Try.prog a w K Q := by
  have h1 := run_slice_hm (P := Try.prog) w 33 A n c elem33 kh km j m (by omega) (by omega) (by omega)
  rw [size33] at h1
  have h2 := hr.sliced 0 j m (by omega) hj hjm hm
  rw [bv_cut, cutB_take, Nat.sub_zero] at h2
  unfold Oper.wp execOp
  simp only [ho, hx, hhi, hmx, Option.map_some, Option.map_none, Sem.run_bind, run_sliceAt_slice (P := Try.prog) w 33 _ _ _ _ elem33, h1, Result.andThen_ok, Sem.run_pure, Int.toNat_natCast]
  exact hK _ h2
section
variable {ops : Array Oper} {rest : List Oper} {o : Oper} {a : Act} {w : World} {Q : Exit → Act → World → Prop}
theorem wpList_sub_lh (hgd : o.guard = none) (x lo hi : Operand) (ho : o.op = .slice 33 x (some lo) (some hi) none)
    (A : Option Addr) (n c : Nat) (T : TypeId) (l : List UInt8) (hx : a.eval x = .slice A n c) (hr : RowIs w (.slice A n c) T 1 n (bv l)) (kl kh : IntKind) (i j : Nat) (hlo : a.eval lo = .int kl i) (hhi : a.eval hi = .int kh j) (hij : i ≤ j) (hj : j ≤ n)
    (hK : ∀ v, RowIs w v T 1 (j - i) (bv (cutB l i j)) → wpList Try.prog ops Q rest (a.put o.dst v) w) : wpList Try.prog ops Q (o :: rest) a w :=
  wpList_plain hgd fun K h => wp_sub_lh x lo hi ho A n c T l hx hr kl kh i j hlo hhi hij hj fun v hv => h _ _ (hK v hv)
theorem wpList_sub_h (hgd : o.guard = none) (x hi : Operand) (ho : o.op = .slice 33 x none (some hi) none)
    (A : Option Addr) (n c : Nat) (T : TypeId) (l : List UInt8) (hx : a.eval x = .slice A n c) (hr : RowIs w (.slice A n c) T 1 n (bv l)) (kh : IntKind) (j : Nat) (hhi : a.eval hi = .int kh j) (hj : j ≤ n)
    (hK : ∀ v, RowIs w v T 1 j (bv (l.take j)) → wpList Try.prog ops Q rest (a.put o.dst v) w) : wpList Try.prog ops Q (o :: rest) a w :=
  wpList_plain hgd fun K h => wp_sub_h x hi ho A n c T l hx hr kh j hhi hj fun v hv => h _ _ (hK v hv)
theorem wpList_sub_l (hgd : o.guard = none) (x lo : Operand) (ho : o.op = .slice 33 x (some lo) none none)
    (A : Option Addr) (n c : Nat) (T : TypeId) (l : List UInt8) (hl : l.length = n) (hx : a.eval x = .slice A n c) (hr : RowIs w (.slice A n c) T 1 n (bv l)) (kl : IntKind) (i : Nat) (hlo : a.eval lo = .int kl i) (hi : i ≤ n)
    (hK : ∀ v, RowIs w v T 1 (n - i) (bv (l.drop i)) → wpList Try.prog ops Q rest (a.put o.dst v) w) : wpList Try.prog ops Q (o :: rest) a w :=
  wpList_plain hgd fun K h => wp_sub_l x lo ho A n c T l hl hx hr kl i hlo hi fun v hv => h _ _ (hK v hv)
end
end Go.Proofs.Yteggldplmbegfaa
