/- codec.head, walked: the length of the field at the beginning of bytes. -/
import Derived.Test.YteggldplmbegfaaJnPack
import Derived.Test.YteggldplmbegfaaB2
import Derived.BigQuiet
import Derived.Deep.QuietTactic
import Derived.IntWalk
import Derived.Laws.BitsLemmas
set_option linter.unusedVariables false
set_option linter.unusedSimpArgs false
namespace Go.Proofs.Yteggldplmbegfaa
open Go.RowKit

theorem byte_cell {w : World} {A : Option Addr} {n c : Nat} {T : TypeId} {l : List UInt8} (h : RowIs w (.slice A n c) T 1 n (bv l)) (hl : l.length = n) (i : Nat) (hi : i < n) :
    ∃ g o, A = some ⟨g, o, none⟩ ∧ w.cell? ⟨g, o + i, none⟩ = some (.int .u8 ((l.getD i 0).toNat : Int)) := by
  rcases h.2 with ⟨rfl, _⟩ | ⟨g, o, c', cur, fr, hv, hc, hg, hx⟩
  · omega
  · simp only [Value.slice.injEq] at hv
    obtain ⟨rfl, _, rfl⟩ := hv
    refine ⟨g, o, rfl, ?_⟩
    rw [cell_of_row _ _ _ _ _ _ hg]
    refine hx i _ ?_
    rw [bv_get, List.getElem?_eq_getElem (by omega), List.getD_eq_getElem?_getD, List.getElem?_eq_getElem (by omega)]
    rfl
theorem chead_small (w : World) (v : Value) (T : TypeId) (a : UInt8) (l : List UInt8) (h : RowIs w v T 1 (a :: l).length (bv (a :: l))) (ha : a.toNat < 255) (hb : (a :: l).length ≤ 1000000000) :
    Calls Try.prog 114 #[v] w fun e w' => e = .returned (.tuple #[.int .i64 (a.toNat : Int), .int .i64 1, .int .i64 0]) ∧ w' = w := by
  obtain ⟨A, c, rfl⟩ := h.shape
  obtain ⟨g, o, rfl, hc0⟩ := byte_cell h rfl 0 (by simp)
  obtain ⟨n, hn⟩ : ∃ n, n = (a :: l).length := ⟨_, rfl⟩
  have hn1 : 1 ≤ n := by rw [hn]; simp
  rw [← hn] at h hb ⊢
  clear hn
  have hc : w.cell? ⟨g, o, none⟩ = some (.int .u8 (a.toNat : Int)) := hc0
  clear hc0
  have ha' : (a.toNat : Int) < 255 := by omega
  have h01 : (0 : Int) < (n : Int) := by omega
  go_enter Try.func114, Try.ntmps114
  go_wp2
  go_ret3
  exact ⟨rfl, rfl⟩
theorem or64_bytes (x y : UInt8) : Go.bits .or .i64 (wrap64 (wrap64 (x.toNat : Int) * 256)) (wrap64 (y.toNat : Int)) = ((x.toNat * 256 + y.toNat : Nat) : Int) := by
  have hx := x.toNat_lt
  have hy := y.toNat_lt
  have e1 : wrap64 (x.toNat : Int) = x.toNat := by unfold wrap64; omega
  have e2 : wrap64 ((x.toNat : Int) * 256) = (x.toNat : Int) * 256 := by unfold wrap64; omega
  have e3 : wrap64 (y.toNat : Int) = y.toNat := by unfold wrap64; omega
  rw [e1, e2, e3]
  have := bits_join .i64 63 (by decide) (fun n h0 h1 => by rw [IntKind.wrap_i64]; omega) 8 ((x.toNat : Int) * 256) (y.toNat : Int) (by omega) (by omega) (by omega) (by omega) (by omega) (by omega)
  rw [this]
  omega
set_option maxRecDepth 20000 in
theorem chead_cut (w : World) (v : Value) (T : TypeId) (a : UInt8) (l : List UInt8) (h : RowIs w v T 1 (a :: l).length (bv (a :: l))) (ha : ¬ a.toNat < 255) (hb : (a :: l).length < 3) :
    Calls Try.prog 114 #[v] w fun e w' => e = .returned (.tuple #[.int .i64 0, .int .i64 0, .int .i64 8]) ∧ w' = w := by
  obtain ⟨A, c, rfl⟩ := h.shape
  obtain ⟨g, o, rfl, hc0⟩ := byte_cell h rfl 0 (by simp)
  obtain ⟨n, hn⟩ : ∃ n, n = (a :: l).length := ⟨_, rfl⟩
  have hn1 : 1 ≤ n := by rw [hn]; simp
  have hc : w.cell? ⟨g, o, none⟩ = some (.int .u8 (a.toNat : Int)) := hc0
  clear hc0
  have ha' : ¬ (a.toNat : Int) < 255 := by omega
  have h01 : (0 : Int) < (n : Int) := by omega
  rw [← hn] at h hb ⊢
  clear hn
  go_enter Try.func114, Try.ntmps114
  go_wp2
  go_ret3
  exact ⟨rfl, rfl⟩
set_option maxRecDepth 20000 in
theorem chead_big (w : World) (v : Value) (T : TypeId) (a x y : UInt8) (l : List UInt8) (h : RowIs w v T 1 (a :: x :: y :: l).length (bv (a :: x :: y :: l))) (ha : ¬ a.toNat < 255) (hb : (a :: x :: y :: l).length ≤ 1000000000) :
    Calls Try.prog 114 #[v] w fun e w' => e = .returned (if x.toNat * 256 + y.toNat < 255 then .tuple #[.int .i64 0, .int .i64 0, .int .i64 7] else .tuple #[.int .i64 (x.toNat * 256 + y.toNat : Nat), .int .i64 3, .int .i64 0]) ∧ ∃ n, w' = w.drewN n := by
  obtain ⟨A, c, rfl⟩ := h.shape
  obtain ⟨g, o, rfl, hc0⟩ := byte_cell h rfl 0 (by simp)
  obtain ⟨g1, o1, e1, hc1⟩ := byte_cell h rfl 1 (by simp)
  obtain ⟨g2, o2, e2, hc2⟩ := byte_cell h rfl 2 (by simp)
  simp only [Option.some.injEq, Addr.mk.injEq, and_true] at e1 e2
  obtain ⟨rfl, rfl⟩ := e1
  obtain ⟨rfl, rfl⟩ := e2
  obtain ⟨n, hn⟩ : ∃ n, n = (a :: x :: y :: l).length := ⟨_, rfl⟩
  have hn1 : 3 ≤ n := by rw [hn]; simp
  have hc : w.cell? ⟨g, o, none⟩ = some (.int .u8 (a.toNat : Int)) := hc0
  have hcx : w.cell? ⟨g, o + 1, none⟩ = some (.int .u8 (x.toNat : Int)) := hc1
  have hcy : w.cell? ⟨g, o + 2, none⟩ = some (.int .u8 (y.toNat : Int)) := hc2
  clear hc0 hc1 hc2
  have ha' : ¬ (a.toNat : Int) < 255 := by omega
  have h01 : (0 : Int) < (n : Int) := by omega
  have h11 : (1 : Int) < (n : Int) := by omega
  have h21 : (2 : Int) < (n : Int) := by omega
  have h33 : ¬ (n : Int) < 3 := by omega
  rw [← hn] at h hb ⊢
  clear hn
  obtain ⟨m, hm⟩ : ∃ m, m = x.toNat * 256 + y.toNat := ⟨_, rfl⟩
  have hor := or64_bytes x y
  rw [← hm] at hor ⊢
  clear hm
  by_cases hs : m < 255
  · have hs' : (m : Int) < 255 := by omega
    go_enter Try.func114, Try.ntmps114
    go_wp2_with fail
    go_quiet (fail)
    go_wp2
    go_ret3
    exact ⟨rfl, _, rfl⟩
  · have hs' : ¬ (m : Int) < 255 := by omega
    go_enter Try.func114, Try.ntmps114
    go_wp2_with fail
    go_quiet (fail)
    go_wp2
    go_ret3
    exact ⟨rfl, _, rfl⟩
/-- codec.head, told at once. -/
theorem wHead (w : World) (v : Value) (T : TypeId) (l : List UInt8) (h : RowIs w v T 1 l.length (bv l)) (hl : 0 < l.length) (hb : l.length ≤ 1000000000) :
    Calls Try.prog 114 #[v] w fun e w' => e = .returned (.tuple #[.int .i64 ((headOf l).1 : Nat), .int .i64 ((headOf l).2.1 : Nat), .int .i64 (headOf l).2.2]) ∧ ∃ n, w' = w.drewN n := by
  match l, hl with
  | a :: l, _ =>
    by_cases ha : a.toNat < 255
    · have e : headOf (a :: l) = (a.toNat, 1, 0) := by simp only [headOf]; rw [if_pos ha]
      rw [e]
      exact (chead_small w v T a l h ha hb).mono fun e w' ⟨h1, h2⟩ => ⟨h1, 0, h2⟩
    · match l, h, hb with
      | [], h, hb =>
        have e : headOf [a] = (0, 0, 8) := by simp only [headOf]; rw [if_neg ha]
        rw [e]
        exact (chead_cut w v T a [] h ha (by simp)).mono fun e w' ⟨h1, h2⟩ => ⟨h1, 0, h2⟩
      | [x], h, hb =>
        have e : headOf [a, x] = (0, 0, 8) := by simp only [headOf]; rw [if_neg ha]
        rw [e]
        exact (chead_cut w v T a [x] h ha (by simp)).mono fun e w' ⟨h1, h2⟩ => ⟨h1, 0, h2⟩
      | x :: y :: l, h, hb =>
        have e : headOf (a :: x :: y :: l) = if x.toNat * 256 + y.toNat < 255 then (0, 0, 7) else (x.toNat * 256 + y.toNat, 3, 0) := by simp only [headOf]; rw [if_neg ha]
        rw [e]
        refine (chead_big w v T a x y l h ha hb).mono fun e w' ⟨h1, h2⟩ => ⟨?_, h2⟩
        rw [h1]
        split <;> rfl
end Go.Proofs.Yteggldplmbegfaa
