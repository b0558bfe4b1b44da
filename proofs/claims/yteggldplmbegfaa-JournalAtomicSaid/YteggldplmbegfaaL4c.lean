/- LAYER 4's LAWS: scripts; 'fits', walked. -/
import Derived.Test.YteggldplmbegfaaL4a
set_option linter.unusedVariables false
set_option linter.unusedSimpArgs false
namespace Go.Proofs.Yteggldplmbegfaa
open Go.RowKit

/-- One thing of a script, as it lies. -/
structure Op4 where
  kind : Int
  tA : Option Addr
  tn : Nat
  tc : Nat
  rs : List (List UInt8)
  after : Int
  kA : Option Addr
  kn : Nat
  kc : Nat
  torn : Int
  half : Int
def op4Cells (o : Op4) : List Value := [.int .i64 o.kind, .slice o.tA o.tn o.tc, .int .i64 o.after, .slice o.kA o.kn o.kc, .int .i64 o.torn, .int .i64 o.half]
def script4 (l : List Op4) : List Value := (l.map op4Cells).flatten
theorem op4_length (o : Op4) : (op4Cells o).length = 6 := rfl
theorem op4_one (o : Op4) : ∀ v ∈ op4Cells o, v.oneCell' = true := by
  intro v hv
  simp only [op4Cells, List.mem_cons, List.not_mem_nil, or_false] at hv
  rcases hv with rfl | rfl | rfl | rfl | rfl | rfl <;> rfl
/-- What is known of a thing of a script ahead of 'fits'. -/
structure Op4Is (w : World) (o : Op4) : Prop where
  tn : o.rs.length = o.tn
  tb : o.tn ≤ 9223372036854775807
  recs : RecsIs w (.slice o.tA o.tn o.tc) o.rs
  kb : o.kn ≤ 9223372036854775807
theorem script4_at {w : World} {A : Option Addr} {n c : Nat} {l : List Op4} {T : TypeId} (h : RowIs w (.slice A n c) T 6 n (script4 l)) (hn : l.length = n) (k : Nat) (hk : k < n) :
    ∃ g o, A = some ⟨g, o, none⟩ ∧ ∃ cur fr, w.heap[g]? = some (.cells cur T fr) ∧ ∃ hx : k < l.length, ∀ j x, (op4Cells l[k])[j]? = some x → cur[o + k * 6 + j]? = some x := by
  rcases h.2 with ⟨rfl, _⟩ | ⟨g, o, c', cur, fr, hv, hc, hg, hx⟩
  · omega
  · simp only [Value.slice.injEq] at hv
    obtain ⟨rfl, _, _⟩ := hv
    refine ⟨g, o, rfl, cur, fr, hg, by omega, fun j x hj => ?_⟩
    have hj' : j < 6 := (List.getElem?_eq_some_iff.1 hj).1
    rw [Nat.add_assoc]
    refine hx _ x ?_
    unfold script4
    rw [flatten_get 6 _ (by simp only [List.mem_map]; rintro l ⟨p, hp, rfl⟩; rfl) k j hj']
    simp only [List.getElem?_map, List.getElem?_eq_getElem (show k < l.length by omega), Option.map_some, Option.bind_some]
    exact hj
theorem zeroOp4 : (Try.prog.info? 56).map (·.size) = some 6 := by kernel_rfl
theorem zrowOp4 : (Try.prog.info? 56).map (·.zero) = some (some (.agg #[.int .i64 0, .slice none 0 0, .int .i64 0, .slice none 0 0, .int .i64 0, .int .i64 0])) := by kernel_rfl

/-- 'fits' tells true only where this holds. -/
def Fits4 (p : Prop) (w : World) (e : Ending) (w' : World) : Prop := ∃ r : Bool, e = .returned (.bool r) ∧ (r = true → p) ∧ Below w.heap.size w w'
def Small (o : Op4) : Prop := o.rs.length ≤ 6 ∧ o.kn ≤ 70 ∧ ∀ r ∈ o.rs, r.length ≤ 2000

set_option maxHeartbeats 2000000 in
theorem l4fits_any (w : World) (s : Int) (A : Option Addr) (n c : Nat) (l : List Op4) (T : TypeId) (hn : l.length = n) (h : RowIs w (.slice A n c) T 6 n (script4 l)) (hnb : n ≤ 9223372036854775807)
    (hkb : ∀ o ∈ l, Op4Is w o) :
    Calls Try.prog 31 #[.int .i64 s, .slice A n c] w (Fits4 (6 ≤ s ∧ s ≤ 14 ∧ n ≤ 30 ∧ ∀ o ∈ l, Small o) w) := by
  by_cases hs6 : s < 6
  · have c1 : decide (s < 6) = true := decide_eq_true hs6
    go_enter Try.func31, Try.ntmps31
    go_wp2
    go_ret
    exact ⟨false, rfl, by simp, Below.refl _ _⟩
  have c1 : decide (s < 6) = false := decide_eq_false hs6
  by_cases hs14 : s > 14
  · have c2 : decide (s > 14) = true := decide_eq_true hs14
    go_enter Try.func31, Try.ntmps31
    go_wp2
    go_ret
    exact ⟨false, rfl, by simp, Below.refl _ _⟩
  have c2 : decide (s > 14) = false := decide_eq_false hs14
  by_cases hn30 : n ≤ 30
  · go_enter Try.func31, Try.ntmps31
    go_wp2_with fail
    go_loopw [22] (fun i wr => ∃ k : Nat, k ≤ n ∧ i = .int .i64 k ∧ Below w.heap.size w wr ∧ Hid (∀ o ∈ l.take k, Small o)) (fun i _ => n - (intOf i).toNat)
    case atStart => exact ⟨0, Nat.zero_le _, rfl, Below.refl _ _, by show ∀ o ∈ _, _; simp⟩
    case round =>
      obtain ⟨k, hk, rfl, hb, hs⟩ := hrel
      by_cases hlt : k < n
      · obtain ⟨g, o, rfl, cur, fr, hcur, hx, hcell⟩ := script4_at h hn k hlt
        have hrow := (hb.block g (lt_of_heap hcur)).trans hcur
        obtain ⟨p, hp0⟩ : ∃ p, p = l[k] := ⟨_, rfl⟩
        rw [← hp0] at hcell
        have hpb : Op4Is w p := hkb p (by rw [hp0]; exact List.getElem_mem _)
        have htb := hpb.tb
        have hkb' := hpb.kb
        have htn := hpb.tn
        have HPB := Lib.hid hpb
        have HP := Lib.hid hp0
        have HC := Lib.hid hcell
        clear hcell hp0 hpb
        have hz : (Try.prog.info? 56).map (·.size) = some (op4Cells p).length := zeroOp4
        have hone := op4_one p
        have hfit : 0 + (op4Cells p).length ≤ (#[Value.int .i64 0, .slice none 0 0, .int .i64 0, .slice none 0 0, .int .i64 0, .int .i64 0] : Array Value).size := by simp [op4_length]
        go_upto_region 6 with (first
          | ((with_reducible show wpList _ _ _ (Oper.mk _ (.load 56 _) _ _ _ _ :: _) _ _); go_must (refine wpList_load_mid rfl 56 (.tmp 24) rfl g (o + k * 6) rfl T cur fr _ (op4Cells p) hrow Try.underlying56 rfl hz HC.out ?_))
          | ((with_reducible show wpList _ _ _ (Oper.mk _ (.alloc 56) _ _ _ _ :: _) _ _); go_must (refine wpList_alloc_row rfl 56 rfl _ zrowOp4 ?_); intro w2 hn2 hg2 hs2)
          | ((with_reducible show wpList _ _ _ (Oper.mk _ (.store 56 _ _) _ _ _ _ :: _) _ _); go_must (refine wpList_store_mid rfl rfl 56 (.tmp 6) (.tmp 25) rfl wr.heap.size 0 rfl (op4Cells p) rfl 56 _ hn2 hz hfit hone ?_); intro w3 hn3 hg3 hs3; clear hn2))
        rw [splice_all _ _ (by rfl)] at hn3
        have F3 : Fr wr w3 [] := ((Fr.refl wr []).grown hg2 (by simp)).grown hg3 (by simp)
        have hb3 : Below w.heap.size w w3 := Fr.below_iff.1 ((Fr.below_iff.2 hb).then F3 (by simp))
        have p3 : w3.cell? ⟨wr.heap.size, 1, none⟩ = some (.slice p.tA p.tn p.tc) := cell_of_row _ _ _ _ _ _ hn3
        have p5 : w3.cell? ⟨wr.heap.size, 3, none⟩ = some (.slice p.kA p.kn p.kc) := cell_of_row _ _ _ _ _ _ hn3
        have HB3 := Lib.hid hb3
        clear hg2 hg3 hs2 hs3 hn3 F3 hrow hcur
        by_cases h3 : (6 : Int) < (p.tn : Int)
        · go_wp2
          go_ret
          exact ⟨false, rfl, by simp, HB3.out⟩
        · have hd3 : decide ((6 : Int) < (p.tn : Int)) = false := by simpa using h3
          by_cases h7 : (70 : Int) < (p.kn : Int)
          · go_wp2
            go_ret
            exact ⟨false, rfl, by simp, HB3.out⟩
          · have hd7 : decide ((70 : Int) < (p.kn : Int)) = false := by simpa using h7
            have HR := Lib.hid (HPB.out.recs.below hb3)
            go_wp2_with fail
            go_loopw [40] (fun i wq => ∃ j : Nat, j ≤ p.tn ∧ i = .int .i64 j ∧ wq = w3 ∧ Hid (∀ r ∈ p.rs.take j, r.length ≤ 2000)) (fun i _ => p.tn - (intOf i).toNat)
            case atStart => exact ⟨0, Nat.zero_le _, rfl, rfl, by show ∀ o ∈ _, _; simp⟩
            case round =>
              obtain ⟨j, hj, rfl, rfl, hq⟩ := hrel
              by_cases hjt : j < p.tn
              · obtain ⟨g2, o2, Ak, ck, Te, htA, hcj, hrj⟩ := HR.out.at_ htn j (by omega)
                rw [htA]
                obtain ⟨r, hr⟩ : ∃ r, r = p.rs[j]'(by omega) := ⟨_, rfl⟩
                rw [← hr] at hcj hrj
                have hrb : r.length ≤ 9223372036854775807 := by
                  obtain ⟨_, _, _, h2⟩ := HR.out
                  exact (h2 j r (by rw [hr]; exact List.getElem?_eq_getElem (by omega))).1
                have hjti : (j : Int) < (p.tn : Int) := by omega
                have HRJ := Lib.hid hr
                clear hr hrj
                by_cases h2k : (2000 : Int) < (r.length : Int)
                · go_wp2
                  go_ret
                  exact ⟨false, rfl, by simp, HB3.out⟩
                · have hd2 : decide ((2000 : Int) < (r.length : Int)) = false := by simpa using h2k
                  have HQ : Hid (∀ r ∈ p.rs.take (j + 1), r.length ≤ 2000) := by
                    show ∀ o ∈ _, _
                    rw [List.take_succ_eq_append_getElem (by omega), ← HRJ.out]
                    intro o ho
                    rcases List.mem_append.1 ho with ho | ho
                    · exact hq.out o ho
                    · obtain rfl := List.mem_singleton.1 ho
                      omega
                  go_wp2
                  go_roundw
                  case rel => exact ⟨j + 1, by omega, by go_num, by first | trivial | rfl, HQ⟩
                  case measure => simp [intOf]; omega
              · have HS : Hid (∀ o ∈ l.take (k + 1), Small o) := by
                  show ∀ o ∈ _, _
                  rw [List.take_succ_eq_append_getElem hx, ← HP.out]
                  intro o ho
                  rcases List.mem_append.1 ho with ho | ho
                  · exact hs.out o ho
                  · obtain rfl := List.mem_singleton.1 ho
                    have := hq.out
                    rw [List.take_of_length_le (by omega)] at this
                    exact ⟨by omega, by omega, this⟩
                go_wp2
                go_roundw
                case rel => exact ⟨k + 1, by omega, by go_num, HB3.out, HS⟩
                case measure => simp [intOf]; omega
      · have HS : Hid (true = true → 6 ≤ s ∧ s ≤ 14 ∧ n ≤ 30 ∧ ∀ o ∈ l, Small o) := by
          show _ → _
          intro _
          have := hs.out
          rw [List.take_of_length_le (by omega)] at this
          exact ⟨by omega, by omega, hn30, this⟩
        go_wp2
        go_ret
        exact ⟨true, rfl, fun _ => by first | exact HS.out (by trivial) | exact (HS.out (by trivial)).2.2.2 | exact (HS.out (by trivial)).2.2 | exact (HS.out (by trivial)).2, hb⟩
  · have h60 : (30 : Int) < (n : Int) := by omega
    go_enter Try.func31, Try.ntmps31
    go_wp2
    go_ret
    exact ⟨false, rfl, by simp, Below.refl _ _⟩
end Go.Proofs.Yteggldplmbegfaa
