/- LAYER 4's LAWS: 'texts', 'same', walked. -/
import Derived.Test.YteggldplmbegfaaL4a
set_option linter.unusedVariables false
set_option linter.unusedSimpArgs false
namespace Go.Proofs.Yteggldplmbegfaa
open Go.RowKit

/-- A row of strings' cells. -/
def tv (l : List (List UInt8)) : List Value := l.map fun x => .string (str x)
theorem tv_length (l : List (List UInt8)) : (tv l).length = l.length := by simp [tv]
theorem tv_get (l : List (List UInt8)) (j : Nat) : (tv l)[j]? = (l[j]?).map fun x => .string (str x) := by simp [tv]
theorem tv_one (l : List (List UInt8)) : ∀ v ∈ tv l, v.oneCell' = true := by
  intro v hv
  simp only [tv, List.mem_map] at hv
  obtain ⟨x, _, rfl⟩ := hv
  rfl
theorem infoStr : (Try.prog.info? 9).map (fun i => (i.zero, i.size, i.bytes)) = some (some (.string ⟨#[]⟩), 1, 16) := by kernel_rfl

theorem one_str (w : World) (r : List UInt8) : RowIs (w.alloc (.cells #[.string (str r)] 9 (0, 0))) (.slice (some ⟨w.heap.size, 0, none⟩) 1 1) 9 1 1 [.string (str r)] :=
  ⟨rfl, .inr ⟨_, 0, 1, _, _, rfl, Nat.le_refl _, heap_alloc_new _ _, fun j x hj => by rw [Nat.zero_add, List.getElem?_toArray]; exact hj⟩⟩
theorem tv_take (rs : List (List UInt8)) (k : Nat) (r : List UInt8) (hk : k < rs.length) (hr : r = rs[k]) : tv (rs.take (k + 1)) = tv (rs.take k) ++ [.string (str r)] := by
  rw [List.take_succ_eq_append_getElem hk, ← hr]
  simp [tv]
set_option maxRecDepth 20000 in
set_option maxHeartbeats 1000000 in
theorem l4texts_any (w : World) (v : Value) (rs : List (List UInt8)) (h : RecsIs w v rs) (hl : rs.length ≤ 1000000) :
    Calls Try.prog 32 #[v] w fun e w' => ∃ v', e = .returned v' ∧ w'.ownsRow w.heap.size 9 1 v' rs.length (tv rs) ∧ Below w.heap.size w w' := by
  obtain ⟨A, c, rfl, hc⟩ := h.shape
  obtain ⟨n, hn⟩ : ∃ n, n = rs.length := ⟨_, rfl⟩
  rw [← hn] at hl hc ⊢
  rw [← hn] at h
  have HN := Lib.hid hn
  have H := Lib.hid h
  clear hn h
  obtain ⟨i0, hi, hz0, hz1, hz2⟩ := info_parts infoStr
  go_enter Try.func32, Try.ntmps32
  go_wp2_with fail
  go_loopw [8, 3] (fun i out wr => ∃ k : Nat, k ≤ n ∧ i = .int .i64 k ∧ Below w.heap.size w wr ∧ wr.ownsRow w.heap.size 9 1 out k (tv (rs.take k))) (fun i _ _ => n - (intOf i).toNat)
  case atStart => exact ⟨0, Nat.zero_le _, rfl, Below.refl _ _, World.ownsRow_nil _ _ _ _⟩
  case round =>
    obtain ⟨k, hk, rfl, hb, hown⟩ := hrel
    by_cases hlt : k < n
    · have hlti : (k : Int) < (n : Int) := by omega
      obtain ⟨g2, o2, Ak, ck, Te, rfl, hcj, hrj⟩ := (H.out.below hb).at_ HN.out.symm k (by have := HN.out; omega)
      obtain ⟨r, hr⟩ : ∃ r, r = rs[k]'(by have := HN.out; omega) := ⟨_, rfl⟩
      rw [← hr] at hcj hrj
      have hcv := run_bytes_str (P := Try.prog) wr 33 9 5 Try.underlying33 Try.underlying5 Try.underlying9 Ak r.length ck Te r rfl hrj
      have HR := Lib.hid hr
      have HRJ := Lib.hid hrj
      have HB := Lib.hid hb
      have HO := Lib.hid hown
      clear hr hrj hb hown
      have hba : Below wr.heap.size wr (wr.alloc (.cells #[.string (str r)] 9 (0, 0))) := (Below.refl _ _).alloc (Nat.le_refl _) _
      have HOA := Lib.hid (owns_below HO.out hba)
      have hbw := HB.out.size
      have HX := Lib.hid (one_str wr r)
      have HBA := Lib.hid (HB.out.trans (hba.mono hbw))
      clear hba
      go_wp2_with (at_builtin; go_must (refine wpList_app _ rfl (.tmp 12) (.tmp 15) 40 rfl w.heap.size 9 i0 _ 1 16 Try.underlying40 hi hz0 hz1 hz2 rfl (by decide) u3 k (tv (rs.take k)) rfl HOA.out _ 9 1 [.string (str r)] rfl HX.out (by simp [Value.oneCell']) (by unfold maxLen; omega) (by omega) (by rw [World.size_alloc]; omega) ?_); intro v' w2 hown2 hgr2; have HB2 := Lib.hid (below_app HBA.out HOA.out (Nat.le_refl _) hgr2 (by rw [World.size_alloc]; omega)); have HO2 := Lib.hid hown2; clear hown2 hgr2)
      go_roundw
      case rel => exact ⟨k + 1, by omega, by go_num, HB2.out, by have h := HO2.out; rw [tv_take rs k r (by have := HN.out; omega) HR.out]; exact h⟩
      case measure => simp [intOf]; omega
    · obtain rfl : k = n := by omega
      rw [List.take_of_length_le (by have := HN.out; omega)] at hown
      go_wp2
      go_ret
      exact ⟨_, rfl, hown, hb⟩

/-- A row that reads as strings. -/
def TxtIs (w : World) (v : Value) (l : List (List UInt8)) : Prop := ∃ T, RowIs w v T 1 l.length (tv l)
theorem TxtIs.below {w w' : World} {v : Value} {l : List (List UInt8)} (h : TxtIs w v l) (hb : Below w.heap.size w w') : TxtIs w' v l := by
  obtain ⟨T, h⟩ := h
  exact ⟨T, h.below hb⟩
theorem TxtIs.at_ {w : World} {A : Option Addr} {n c : Nat} {l : List (List UInt8)} (h : TxtIs w (.slice A n c) l) (hn : l.length = n) (k : Nat) (hk : k < l.length) :
    ∃ g o, A = some ⟨g, o, none⟩ ∧ w.cell? ⟨g, o + k, none⟩ = some (.string (str l[k])) := by
  obtain ⟨T, h⟩ := h
  rcases h.2 with ⟨h0, _⟩ | ⟨g, o, c', cur, fr, hv, hc, hg, hx⟩
  · omega
  · simp only [Value.slice.injEq] at hv
    obtain ⟨rfl, _, _⟩ := hv
    exact ⟨g, o, rfl, by rw [cell_of_row _ _ _ _ _ _ hg]; exact hx _ _ (by rw [tv_get, List.getElem?_eq_getElem hk]; rfl)⟩
theorem str_eq_iff (a b : List UInt8) : (str a = str b) ↔ a = b := by
  constructor
  · intro h
    have := congrArg (fun s : ByteArray => s.data.toList) h
    simpa [str] using this
  · rintro rfl
    rfl
set_option maxRecDepth 20000 in
set_option maxHeartbeats 1000000 in
theorem l4same_any (w : World) (v x : Value) (rs ts : List (List UInt8)) (h : RecsIs w v rs) (hx : TxtIs w x ts) (hl : rs.length ≤ 1000000000) (hl2 : ts.length ≤ 1000000000) :
    Calls Try.prog 33 #[v, x] w fun e w' => e = .returned (.bool (decide (rs = ts))) ∧ w' = w := by
  obtain ⟨A, c, rfl, hc⟩ := h.shape
  obtain ⟨B, d, rfl⟩ : ∃ B d, x = .slice B ts.length d := by obtain ⟨T, hx⟩ := hx; exact hx.shape
  obtain ⟨n, hn⟩ : ∃ n, n = rs.length := ⟨_, rfl⟩
  obtain ⟨m, hm⟩ : ∃ m, m = ts.length := ⟨_, rfl⟩
  rw [← hn] at hl hc h ⊢
  rw [← hm] at hl2 hx ⊢
  have HN := Lib.hid hn
  have HM := Lib.hid hm
  have H := Lib.hid h
  have HX := Lib.hid hx
  clear hn h hm hx
  by_cases hnm : n = m
  · have hne : ((n : Int) != (m : Int)) = false := by rw [bne_eq_false_iff_eq]; omega
    go_enter Try.func33, Try.ntmps33
    go_wp2_with fail
    go_loopw [14] (fun i wr => ∃ k : Nat, k ≤ m ∧ i = .int .i64 k ∧ wr = w ∧ Hid (rs.take k = ts.take k)) (fun i _ => m - (intOf i).toNat)
    case atStart => exact ⟨0, Nat.zero_le _, rfl, rfl, Lib.hid rfl⟩
    case round =>
      obtain ⟨k, hk, rfl, rfl, heq⟩ := hrel
      by_cases hlt : k < m
      · have hlti : (k : Int) < (m : Int) := by omega
        have hkn : k < rs.length := by have := HN.out; omega
        have hkm : k < ts.length := by have := HM.out; omega
        obtain ⟨g2, o2, Ak, ck, Te, hA, hcj, hrj⟩ := H.out.at_ HN.out.symm k hkn
        obtain ⟨g3, o3, hB, hcs⟩ := HX.out.at_ HM.out.symm k hkm
        subst hA hB
        obtain ⟨r, hr⟩ : ∃ r, r = rs[k] := ⟨_, rfl⟩
        obtain ⟨t, ht⟩ : ∃ t, t = ts[k] := ⟨_, rfl⟩
        rw [← hr] at hcj hrj
        rw [← ht] at hcs
        have hcv := run_bytes_str (P := Try.prog) wr 33 9 5 Try.underlying33 Try.underlying5 Try.underlying9 Ak r.length ck Te r rfl hrj
        have HR := Lib.hid hr
        have HT := Lib.hid ht
        have HRT : r = t → Hid (rs.take (k + 1) = ts.take (k + 1)) := fun e => by
          show _ = _
          rw [List.take_succ_eq_append_getElem hkn, List.take_succ_eq_append_getElem hkm, heq.out, ← hr, ← ht, e]
        have HNE : r ≠ t → decide (rs = ts) = false := fun e => decide_eq_false (fun e2 => e (by
          rw [hr, ht]
          subst e2
          rfl))
        have HNE := Lib.hid HNE
        have HRT := Lib.hid HRT
        clear hr ht hrj hkn hkm HR HT
        by_cases hrt0 : r = t
        · have hst : ((str r).toList == (str t).toList) = true := by rw [beq_iff_eq, hrt0]
          have hrt := Lib.hid hrt0
          clear hrt0 HNE
          go_wp2
          go_roundw
          case rel => exact ⟨k + 1, by omega, by go_num, by first | trivial | rfl, HRT.out hrt.out⟩
          case measure => simp [intOf]; omega
        · have hst : ((str r).toList == (str t).toList) = false := by rw [beq_eq_false_iff_ne, ByteArray.toList_eq, ByteArray.toList_eq, str_toList, str_toList]; exact hrt0
          have hd := Lib.hid (HNE.out hrt0)
          clear HNE HRT hrt0
          go_wp2
          go_ret
          exact ⟨by rw [hd.out]; rfl, rfl⟩
      · have hd : decide (rs = ts) = true := decide_eq_true (by
          have h1 := heq.out
          have h2 := HN.out
          have h3 := HM.out
          rw [List.take_of_length_le (by omega), List.take_of_length_le (by omega)] at h1
          exact h1)
        go_wp2
        go_ret
        exact ⟨by rw [hd]; rfl, rfl⟩
  · have hne : ((n : Int) != (m : Int)) = true := by rw [bne_iff_ne]; omega
    have hd : decide (rs = ts) = false := decide_eq_false (by rintro rfl; have := HN.out; have := HM.out; omega)
    go_enter Try.func33, Try.ntmps33
    go_wp2
    go_ret
    exact ⟨by rw [hd]; rfl, rfl⟩
end Go.Proofs.Yteggldplmbegfaa
