/- THE DEVICE's SMALL METHODS, walked: Off, Size, may, Loose, Changes, On; slices.Contains at []int. -/
import Derived.Test.YteggldplmbegfaaMem
import Derived.Test.YteggldplmbegfaaDevMod
import Derived.Test.YteggldplmbegfaaProg
import Derived.Deep.QuietTactic
import Derived.BigQuiet
import Derived.Lib.Hide
set_option linter.unusedVariables false
set_option linter.unusedSimpArgs false
namespace Go.Proofs.Yteggldplmbegfaa
open Go.RowKit

/-- All sectors' cells, one behind the other. -/
def flat (ss : List (List UInt8)) : List Value := (ss.map bv).flatten
/-- The cells of the loose writes. -/
def lzc (p : Nat × List UInt8) : List Value := .int .i64 (p.1 : Int) :: bv p.2
def lz (ls : List (Nat × List UInt8)) : List Value := (ls.map lzc).flatten
/-- The device's own cells. -/
def devCells (bs : Nat) (D : Dev) (lv kv : Value) : Array Value :=
  #[.slice (some ⟨bs, 0, none⟩) D.sure.length D.sure.length, lv, .int .i64 D.left, kv, .int .i64 D.torn, .int .i64 D.half, .int .i64 D.changes, .bool D.off]
/-- At block b lies the device D; its sectors at block bs. -/
structure DevAt (w : World) (b bs : Nat) (D : Dev) (lv kv : Value) : Prop where
  blk : w.heap[b]? = some (.cells (devCells bs D lv kv) 106 (0, 0))
  sure : w.heap[bs]? = some (.cells (flat D.sure).toArray 109 (0, 0))
  loose : RowIs w lv 111 257 D.loose.length (lz D.loose)
  kept : RowIs w kv 3 1 D.kept.length (iv D.kept)
def DevIs (w : World) (b bs : Nat) (D : Dev) : Prop := ∃ lv kv, DevAt w b bs D lv kv

theorem DevAt.cell {w : World} {b bs : Nat} {D : Dev} {lv kv : Value} (h : DevAt w b bs D lv kv) (j : Nat) : w.cell? ⟨b, j, none⟩ = (devCells bs D lv kv)[j]? := cell_of_row w b j _ _ _ h.blk
theorem DevAt.free {w : World} {b bs : Nat} {D : Dev} {lv kv : Value} (h : DevAt w b bs D lv kv) (j : Nat) : w.frozen? ⟨b, j, none⟩ = false := frozen_of_row w b j _ _ h.blk
theorem DevAt.ne {w : World} {b bs : Nat} {D : Dev} {lv kv : Value} (h : DevAt w b bs D lv kv) : b ≠ bs := typ_ne h.blk h.sure (by decide)

set_option maxHeartbeats 400000 in
theorem dOff_any (w : World) (b bs : Nat) (D : Dev) (lv kv : Value) (h : DevAt w b bs D lv kv) :
    Calls Try.prog 50 #[.pointer (some ⟨b, 0, none⟩)] w fun e w' => e = .returned (.bool D.off) ∧ w' = w := by
  have h7 : w.cell? ⟨b, 7, none⟩ = some (.bool D.off) := h.cell 7
  go_enter Try.func50, Try.ntmps50
  go_wp2
  go_ret
  exact ⟨rfl, rfl⟩
set_option maxHeartbeats 400000 in
theorem dOff_nil (w : World) :
    Calls Try.prog 50 #[.pointer none] w fun e w' => e = .returned (.bool true) ∧ w' = w := by
  go_enter Try.func50, Try.ntmps50
  go_wp2
  go_ret
  exact ⟨rfl, rfl⟩
set_option maxHeartbeats 400000 in
theorem dSize_any (w : World) (b bs : Nat) (D : Dev) (lv kv : Value) (h : DevAt w b bs D lv kv) :
    Calls Try.prog 55 #[.pointer (some ⟨b, 0, none⟩)] w fun e w' => e = .returned (.int .i64 D.sure.length) ∧ w' = w := by
  have h7 : w.cell? ⟨b, 0, none⟩ = some (.slice (some ⟨bs, 0, none⟩) D.sure.length D.sure.length) := h.cell 0
  go_enter Try.func55, Try.ntmps55
  go_wp2
  go_ret
  exact ⟨rfl, rfl⟩
set_option maxHeartbeats 400000 in
theorem dSize_nil (w : World) :
    Calls Try.prog 55 #[.pointer none] w fun e w' => e = .returned (.int .i64 0) ∧ w' = w := by
  go_enter Try.func55, Try.ntmps55
  go_wp2
  go_ret
  exact ⟨rfl, rfl⟩
set_option maxHeartbeats 400000 in
theorem dLoose_any (w : World) (b bs : Nat) (D : Dev) (lv kv : Value) (h : DevAt w b bs D lv kv) :
    Calls Try.prog 22 #[.pointer (some ⟨b, 0, none⟩)] w fun e w' => e = .returned (.int .i64 D.loose.length) ∧ w' = w := by
  obtain ⟨A, c, rfl⟩ := h.loose.shape
  have h7 : w.cell? ⟨b, 1, none⟩ = some (.slice A D.loose.length c) := h.cell 1
  go_enter Try.func22, Try.ntmps22
  go_wp2
  go_ret
  exact ⟨rfl, rfl⟩
set_option maxHeartbeats 400000 in
theorem dChanges_any (w : World) (b bs : Nat) (D : Dev) (lv kv : Value) (h : DevAt w b bs D lv kv) :
    Calls Try.prog 30 #[.pointer (some ⟨b, 0, none⟩)] w fun e w' => e = .returned (.int .i64 D.changes) ∧ w' = w := by
  have h7 : w.cell? ⟨b, 6, none⟩ = some (.int .i64 D.changes) := h.cell 6
  go_enter Try.func30, Try.ntmps30
  go_wp2
  go_ret
  exact ⟨rfl, rfl⟩
set_option maxHeartbeats 400000 in
theorem dmay_any (w : World) (b bs : Nat) (D : Dev) (lv kv : Value) (h : DevAt w b bs D lv kv) (i : Int) :
    Calls Try.prog 51 #[.pointer (some ⟨b, 0, none⟩), .int .i64 i] w fun e w' => e = .returned (.int .i64 (D.may i)) ∧ w' = w := by
  have h0 : w.cell? ⟨b, 0, none⟩ = some (.slice (some ⟨bs, 0, none⟩) D.sure.length D.sure.length) := h.cell 0
  by_cases ho : D.off = true
  · have HO := Lib.hid (show D.may i = 6 by simp [Dev.may, ho])
    go_enter Try.func51, Try.ntmps51
    go_wp2_with (go_at_call 50; refine (dOff_any _ b bs D lv kv h).mono ?_; rintro e w' ⟨rfl, rfl⟩)
    go_ret
    exact ⟨by rw [HO.out]; rfl, rfl⟩
  · have ho' : D.off = false := by simpa using ho
    clear ho
    by_cases hi : i < 0
    · have HO := Lib.hid (show D.may i = 2 by simp [Dev.may, ho', hi])
      go_enter Try.func51, Try.ntmps51
      go_wp2_with (go_at_call 50; refine (dOff_any _ b bs D lv kv h).mono ?_; rintro e w' ⟨rfl, rfl⟩)
      go_ret
      exact ⟨by rw [HO.out]; rfl, rfl⟩
    · by_cases hj : (D.sure.length : Int) ≤ i
      · have HO := Lib.hid (show D.may i = 2 by simp [Dev.may, ho', hj])
        go_enter Try.func51, Try.ntmps51
        go_wp2_with (go_at_call 50; refine (dOff_any _ b bs D lv kv h).mono ?_; rintro e w' ⟨rfl, rfl⟩)
        go_ret
        exact ⟨by rw [HO.out]; rfl, rfl⟩
      · have HO := Lib.hid (show D.may i = 0 by simp only [Dev.may, ho']; rw [if_neg (by simp), if_neg (by omega)])
        go_enter Try.func51, Try.ntmps51
        go_wp2_with (go_at_call 50; refine (dOff_any _ b bs D lv kv h).mono ?_; rintro e w' ⟨rfl, rfl⟩)
        go_ret
        exact ⟨by rw [HO.out]; rfl, rfl⟩

theorem iv_cell {w : World} {A : Option Addr} {n c : Nat} {ks : List Int} {T : TypeId} (h : RowIs w (.slice A n c) T 1 n (iv ks)) (k : Nat) (hk : k < n) :
    ∃ g o, A = some ⟨g, o, none⟩ ∧ ∃ hx : k < ks.length, w.cell? ⟨g, o + k, none⟩ = some (.int .i64 ks[k]) := by
  have hl : ks.length = n := by simpa [iv] using h.1
  rcases h.2 with ⟨rfl, _⟩ | ⟨g, o, c', cur, fr, hv, hc, hg, hx⟩
  · omega
  · simp only [Value.slice.injEq] at hv
    obtain ⟨rfl, _, _⟩ := hv
    refine ⟨g, o, rfl, by omega, ?_⟩
    rw [cell_of_row w g (o + k) cur _ fr hg]
    exact hx k _ (by simp [iv, List.getElem?_eq_getElem (by omega : k < ks.length)])

set_option maxHeartbeats 800000 in
theorem sIndex_any (w : World) (A : Option Addr) (c : Nat) (ks : List Int) (x : Int) (T : TypeId) (h : RowIs w (.slice A ks.length c) T 1 ks.length (iv ks)) (hb : ks.length ≤ 1000000000000) :
    Calls Try.prog 86 #[.slice A ks.length c, .int .i64 x] w fun e w' => ∃ r : Int, e = .returned (.int .i64 r) ∧ (0 ≤ r ↔ x ∈ ks) ∧ w' = w := by
  go_enter Try.func86, Try.ntmps86
  go_wp2
  go_loop [8] (fun i => ∃ k : Nat, k ≤ ks.length ∧ i = .int .i64 k ∧ Hid (x ∉ ks.take k)) (fun i => ks.length - (intOf i).toNat)
  case atStart => exact ⟨0, Nat.zero_le _, rfl, by show x ∉ _; simp⟩
  case round =>
    obtain ⟨k, hk, rfl, hno⟩ := hrel
    by_cases hlt : k < ks.length
    · obtain ⟨g, o, rfl, hx, hcell⟩ := iv_cell h k hlt
      by_cases heq : ks[k] = x
      · have H1 : Hid (x ∈ ks) := by show x ∈ ks; rw [← heq]; exact List.getElem_mem hx
        have H2 : Hid (ks[k] = x) := heq
        have hb : (x == ks[k]) = true := by simpa using heq.symm
        clear heq
        go_wp2
        go_ret
        exact ⟨k, rfl, by simp [H1.out], rfl⟩
      · have hb : (x == ks[k]) = false := by simpa using fun e => heq (Eq.symm e)
        have H1 : Hid (x ∉ ks.take (k + 1)) := by
          show x ∉ _
          rw [List.take_succ_eq_append_getElem hx]
          have := hno.out
          simp only [List.mem_append, List.mem_singleton, not_or]
          exact ⟨this, fun e => heq e.symm⟩
        clear heq
        go_wp2
        go_round
        case rel => exact ⟨k + 1, by omega, by go_num, H1⟩
        case measure => simp [intOf]; omega
    · have H1 : Hid (x ∉ ks) := by
        have := hno.out
        rwa [List.take_of_length_le (by omega)] at this
      go_wp2
      go_ret
      exact ⟨-1, rfl, by simp [H1.out], rfl⟩

set_option maxHeartbeats 400000 in
theorem sContains_any (w : World) (kv : Value) (ks : List Int) (x : Int) (T : TypeId) (h : RowIs w kv T 1 ks.length (iv ks)) (hb : ks.length ≤ 1000000000000) :
    Calls Try.prog 54 #[kv, .int .i64 x] w fun e w' => e = .returned (.bool (decide (x ∈ ks))) ∧ w' = w := by
  obtain ⟨A, c, rfl⟩ := h.shape
  go_enter Try.func54, Try.ntmps54
  go_wp2_with fail
  refine (sIndex_any w A c ks x T h hb).mono ?_
  rintro e w' ⟨r, rfl, hr, rfl⟩
  have HR := Lib.hid hr
  clear hr
  go_wp2
  go_ret
  refine ⟨?_, rfl⟩
  have := HR.out
  by_cases hx : x ∈ ks <;> simp_all
end Go.Proofs.Yteggldplmbegfaa
