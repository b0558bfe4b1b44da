/- slices.Grow and slices.Concat at bytes, walked. -/
import Derived.Test.YteggldplmbegfaaJnPack
import Derived.Test.YteggldplmbegfaaB2
set_option linter.unusedVariables false
set_option linter.unusedSimpArgs false
namespace Go.Proofs.Yteggldplmbegfaa
open Go.RowKit

theorem owns_some {w : World} {base : Nat} {e : TypeId} {size n : Nat} {v : Value} {xs : List Value} (h : w.ownsRow base e size v n xs) (hn : n ≠ 0) : ∃ g cap, v = .slice (some ⟨g, 0, none⟩) n cap ∧ n ≤ cap := by
  rcases h.2 with ⟨_, h0⟩ | ⟨g, cap, cur, rfl, _, _, hc, _⟩
  · exact absurd h0 hn
  · exact ⟨g, cap, rfl, hc⟩
theorem owns_cut {w : World} {base : Nat} {e : TypeId} {n g cap : Nat} {xs : List Value} (h : w.ownsRow base e 1 (.slice (some ⟨g, 0, none⟩) n cap) n xs) : w.ownsRow base e 1 (.slice (some ⟨g, 0, none⟩) 0 cap) 0 [] := by
  rcases h.2 with ⟨h0, _⟩ | ⟨g', cap', cur, hv, h1, h2, hc, h3, h4, h5⟩
  · cases h0
  · simp only [Value.slice.injEq, Option.some.injEq, Addr.mk.injEq] at hv
    obtain ⟨⟨rfl, _⟩, _, rfl⟩ := hv
    exact ⟨rfl, .inr ⟨g, cap, cur, rfl, h1, h2, by omega, h3, h4, rfl⟩⟩
set_option maxRecDepth 20000 in
theorem GrowB_any (w : World) (n : Nat) (hb : n ≤ 1000000000000) :
    Calls Try.prog 93 #[.slice none 0 0, .int .i64 n] w fun e w' => ∃ v, e = .returned v ∧ w'.ownsRow w.heap.size 5 1 v 0 [] ∧ Below w.heap.size w w' := by
  by_cases h0 : n = 0
  · subst h0
    go_enter Try.func93, Try.ntmps93
    go_wp2
    go_ret
    exact ⟨_, rfl, World.ownsRow_nil _ _ _ _, Below.refl _ _⟩
  · have h1 : 0 < n := by omega
    have h2 : (0 : Int) < (n : Int) := by omega
    have HO := Lib.hid (show w.ownsRow w.heap.size 5 1 (.slice none 0 0) ([] : List UInt8).length (bv []) from World.ownsRow_nil _ _ _ _)
    go_enter Try.func93, Try.ntmps93
    go_wp2_with (at_builtin; go_must (refine wpList_app0 _ rfl (.tmp 20) (.tmp 21) rfl w.heap.size (.slice none 0 0) [] rfl HO.out .i64 n rfl h1 (by simp; omega) (Nat.le_refl _) ?_); intro v' w2 ho2 hg2; have HB2 := Lib.hid (below_app (Below.refl w.heap.size w) HO.out (Nat.le_refl _) hg2 (Nat.le_refl _)); obtain ⟨g, cap, rfl, hcap⟩ := owns_some ho2 (by simp; omega); have HO2 := Lib.hid (owns_cut ho2); clear ho2 hg2)
    go_ret
    exact ⟨_, rfl, HO2.out, HB2.out⟩
theorem RecsIs.at_ {w : World} {A : Option Addr} {n c : Nat} {rs : List (List UInt8)} (h : RecsIs w (.slice A n c) rs) (hn : rs.length = n) (k : Nat) (hk : k < rs.length) :
    ∃ g o Ak ck Te, A = some ⟨g, o, none⟩ ∧ w.cell? ⟨g, o + k, none⟩ = some (.slice Ak rs[k].length ck) ∧ RowIs w (.slice Ak rs[k].length ck) Te 1 rs[k].length (bv rs[k]) := by
  obtain ⟨T, vs, h1, h2⟩ := h
  obtain ⟨_, x, Te, h4, h5⟩ := h2 k rs[k] (List.getElem?_eq_getElem hk)
  obtain ⟨Ak, ck, rfl⟩ := h5.shape
  rcases h1.2 with ⟨h0, _⟩ | ⟨g, o, c', cur, fr, hv, hc, hg, hx⟩
  · omega
  · simp only [Value.slice.injEq] at hv
    obtain ⟨rfl, _, _⟩ := hv
    exact ⟨g, o, Ak, ck, Te, rfl, by rw [cell_of_row _ _ _ _ _ _ hg]; exact hx _ _ h4, h5⟩
def lenSum (rs : List (List UInt8)) : Nat := rs.flatten.length
theorem flat_take (rs : List (List UInt8)) (k : Nat) (hk : k < rs.length) : (rs.take (k + 1)).flatten = (rs.take k).flatten ++ rs[k] := by
  rw [List.take_succ_eq_append_getElem hk, List.flatten_append]
  simp
theorem flat_take_le (rs : List (List UInt8)) (k : Nat) : (rs.take k).flatten.length ≤ rs.flatten.length := by
  conv => rhs; rw [← List.take_append_drop k rs]
  rw [List.flatten_append, List.length_append]
  omega
set_option maxRecDepth 20000 in
set_option maxHeartbeats 1000000 in
theorem Concat_any (w : World) (v : Value) (rs : List (List UInt8)) (h : RecsIs w v rs) (hn : rs.length ≤ 1000000000) (hb : rs.flatten.length ≤ 1000000000000) :
    Calls Try.prog 63 #[v] w fun e w' => ∃ v', e = .returned v' ∧ w'.ownsRow w.heap.size 5 1 v' rs.flatten.length (bv rs.flatten) ∧ Below w.heap.size w w' := by
  obtain ⟨A, c, rfl, hc⟩ := h.shape
  obtain ⟨n, hn'⟩ : ∃ n, n = rs.length := ⟨_, rfl⟩
  rw [← hn'] at h hn hc ⊢
  have HN := Lib.hid hn'
  clear hn'
  have H := Lib.hid h
  clear h
  go_enter Try.func63, Try.ntmps63
  go_wp2_with fail
  go_loop [3, 11] (fun s i => ∃ k : Nat, k ≤ n ∧ i = .int .i64 k ∧ s = .int .i64 ((rs.take k).flatten.length : Nat)) (fun _ i => n - (intOf i).toNat)
  case atStart => exact ⟨0, Nat.zero_le _, rfl, by simp⟩
  case round =>
    obtain ⟨k, hk, rfl, rfl⟩ := hrel
    by_cases hlt : k < n
    · have hk2 : k < rs.length := by rw [← HN.out]; exact hlt
      obtain ⟨g, o, Ak, ck, Te, rfl, hcell, _⟩ := H.out.at_ HN.out.symm k hk2
      have e1 := congrArg List.length (flat_take rs k hk2)
      rw [List.length_append] at e1
      have e2 := flat_take_le rs (k + 1)
      obtain ⟨a, ha⟩ : ∃ a, a = rs[k].length := ⟨_, rfl⟩
      obtain ⟨s, hs⟩ : ∃ s, s = (rs.take k).flatten.length := ⟨_, rfl⟩
      rw [← ha] at hcell e1
      rw [← hs] at e1 ⊢
      rw [e1] at e2
      have E1 := Lib.hid e1
      clear e1 ha hs
      have hkn : (k : Int) < (n : Int) := by omega
      go_wp2
      go_round
      case rel => exact ⟨k + 1, by omega, by go_num, by rw [E1.out]; go_num⟩
      case measure => simp [intOf]; omega
    · obtain rfl : k = n := by omega
      have et : rs.take k = rs := by rw [HN.out]; exact List.take_length
      rw [et]
      obtain ⟨s, hs⟩ : ∃ s, s = rs.flatten.length := ⟨_, rfl⟩
      rw [← hs] at hb ⊢
      have HS := Lib.hid hs
      clear hs et
      go_wp2_with fail
      refine (GrowB_any w s (by omega)).mono ?_
      rintro e w1 ⟨v1, rfl, ho1, hb1⟩
      have HO1 := Lib.hid ho1
      have HB1 := Lib.hid hb1
      clear ho1 hb1
      go_wp2_with fail
      go_loopw [6, 27] (fun x i wr => ∃ m : Nat, m ≤ k ∧ i = .int .i64 m ∧ wr.ownsRow w.heap.size 5 1 x (rs.take m).flatten.length (bv (rs.take m).flatten) ∧ Below w.heap.size w wr) (fun _ i _ => k - (intOf i).toNat)
      case atStart => exact ⟨0, Nat.zero_le _, rfl, HO1.out, HB1.out⟩
      case round =>
        obtain ⟨m, hm, rfl, ho, hbl⟩ := hrel
        by_cases hlt : m < k
        · have hk2 : m < rs.length := by rw [← HN.out]; exact hlt
          obtain ⟨g, o, Ak, ck, Te, rfl, hcell, hrow⟩ := (H.out.below hbl).at_ HN.out.symm m hk2
          have FT := Lib.hid (flat_take rs m hk2)
          have e2 := flat_take_le rs (m + 1)
          rw [FT.out, List.length_append, ← HS.out] at e2
          have hkn : (m : Int) < (k : Int) := by omega
          have HR := Lib.hid hrow
          have HO := Lib.hid ho
          have HB := Lib.hid hbl
          obtain ⟨r, hr⟩ : ∃ r, r = rs[m] := ⟨_, rfl⟩
          rw [← hr] at hcell HR e2 FT
          clear hrow ho hbl hr
          go_wp2_with (at_builtin; go_must (refine wpList_appb _ rfl (.tmp 31) (.tmp 32) rfl w.heap.size _ (rs.take m).flatten rfl HO.out _ Te r rfl HR.out (by omega) HB.out.size ?_); intro v' w2 ho2 hg2; have HB2 := Lib.hid (below_app HB.out HO.out (Nat.le_refl _) hg2 HB.out.size); have HO2 := Lib.hid ho2; clear ho2 hg2)
          refine ⟨?rel, ?measure⟩
          case rel => exact ⟨m + 1, by omega, by go_num, by rw [FT.out]; exact HO2.out, HB2.out⟩
          case measure => simp [intOf]; omega
        · obtain rfl : m = k := by omega
          have et : rs.take m = rs := by rw [HN.out]; exact List.take_length
          rw [et] at ho
          have HO := Lib.hid ho
          have HB := Lib.hid hbl
          clear ho hbl et
          go_wp2
          go_ret
          rw [HS.out]
          exact ⟨_, rfl, HO.out, HB.out⟩
end Go.Proofs.Yteggldplmbegfaa
