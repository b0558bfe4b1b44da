/- LAYER 3's LAWS: scripts; 'fits', walked. -/
import Derived.Test.YteggldplmbegfaaL3b
set_option linter.unusedVariables false
set_option linter.unusedSimpArgs false
namespace Go.Proofs.Yteggldplmbegfaa
open Go.RowKit

/-- One thing of a script, as it lies. -/
structure Op3 where
  kind : Int
  at_ : Int
  c : UInt8
  s : ByteArray
  long : Bool
  kA : Option Addr
  kn : Nat
  kc : Nat
  torn : Int
  half : Int
def op3Cells (o : Op3) : List Value := [.int .i64 o.kind, .int .i64 o.at_, .int .u8 o.c.toNat, .string o.s, .bool o.long, .slice o.kA o.kn o.kc, .int .i64 o.torn, .int .i64 o.half]
def scriptCells (l : List Op3) : List Value := (l.map op3Cells).flatten
theorem op3_length (o : Op3) : (op3Cells o).length = 8 := rfl
theorem op3_one (o : Op3) : ∀ v ∈ op3Cells o, v.oneCell' = true := by
  intro v hv
  simp only [op3Cells, List.mem_cons, List.not_mem_nil, or_false] at hv
  rcases hv with rfl | rfl | rfl | rfl | rfl | rfl | rfl | rfl <;> rfl
/-- Where the k-th thing lies. -/
theorem script_at {w : World} {A : Option Addr} {n c : Nat} {l : List Op3} {T : TypeId} (h : RowIs w (.slice A n c) T 8 n (scriptCells l)) (hn : l.length = n) (k : Nat) (hk : k < n) :
    ∃ g o, A = some ⟨g, o, none⟩ ∧ ∃ cur fr, w.heap[g]? = some (.cells cur T fr) ∧ ∃ hx : k < l.length, ∀ j x, (op3Cells l[k])[j]? = some x → cur[o + k * 8 + j]? = some x := by
  rcases h.2 with ⟨rfl, _⟩ | ⟨g, o, c', cur, fr, hv, hc, hg, hx⟩
  · omega
  · simp only [Value.slice.injEq] at hv
    obtain ⟨rfl, _, _⟩ := hv
    refine ⟨g, o, rfl, cur, fr, hg, by omega, fun j x hj => ?_⟩
    have hj' : j < 8 := (List.getElem?_eq_some_iff.1 hj).1
    rw [Nat.add_assoc]
    refine hx _ x ?_
    unfold scriptCells
    rw [flatten_get 8 _ (by simp only [List.mem_map]; rintro l ⟨p, hp, rfl⟩; rfl) k j hj']
    simp only [List.getElem?_map, List.getElem?_eq_getElem (show k < l.length by omega), Option.map_some, Option.bind_some]
    exact hj
theorem zero35 : (Try.prog.info? 35).map (·.size) = some 8 := by kernel_rfl
theorem zrow35 : (Try.prog.info? 35).map (·.zero) = some (some (.agg #[.int .i64 0, .int .i64 0, .int .u8 0, .string ⟨#[]⟩, .bool false, .slice none 0 0, .int .i64 0, .int .i64 0])) := by kernel_rfl

/-- 'fits' tells true only where this holds. -/
def FitsPost (p : Prop) (w : World) (e : Ending) (w' : World) : Prop := ∃ r : Bool, e = .returned (.bool r) ∧ (r = true → p) ∧ Below w.heap.size w w'

set_option maxHeartbeats 1000000 in
theorem l3fits_any (w : World) (A : Option Addr) (n c : Nat) (l : List Op3) (T : TypeId) (hn : l.length = n) (h : RowIs w (.slice A n c) T 8 n (scriptCells l)) (hnb : n ≤ 9223372036854775807)
    (hkb : ∀ o ∈ l, o.s.size ≤ 9223372036854775807 ∧ o.kn ≤ 9223372036854775807) :
    Calls Try.prog 14 #[.int .i64 1, .slice A n c] w (FitsPost (n ≤ 60 ∧ ∀ o ∈ l, o.s.size ≤ 300 ∧ o.kn ≤ 70) w) := by
  by_cases hn60 : n ≤ 60
  · go_enter Try.func14, Try.ntmps14
    go_wp2_with fail
    go_loopw [20] (fun i wr => ∃ k : Nat, k ≤ n ∧ i = .int .i64 k ∧ Below w.heap.size w wr ∧ Hid (∀ o ∈ l.take k, o.s.size ≤ 300 ∧ o.kn ≤ 70)) (fun i _ => n - (intOf i).toNat)
    case atStart => exact ⟨0, Nat.zero_le _, rfl, Below.refl _ _, by show ∀ o ∈ _, _; simp⟩
    case round =>
      obtain ⟨k, hk, rfl, hb, hs⟩ := hrel
      by_cases hlt : k < n
      · obtain ⟨g, o, rfl, cur, fr, hcur, hx, hcell⟩ := script_at h hn k hlt
        have hrow := (hb.block g (lt_of_heap hcur)).trans hcur
        obtain ⟨p, hp0⟩ : ∃ p, p = l[k] := ⟨_, rfl⟩
        rw [← hp0] at hcell
        have hpb : p.s.size ≤ 9223372036854775807 ∧ p.kn ≤ 9223372036854775807 := hkb p (by rw [hp0]; exact List.getElem_mem _)
        have HP := Lib.hid hp0
        have HC := Lib.hid hcell
        clear hcell hp0
        have hz : (Try.prog.info? 35).map (·.size) = some (op3Cells p).length := zero35
        have hone := op3_one p
        have hfit : 0 + (op3Cells p).length ≤ (#[Value.int .i64 0, .int .i64 0, .int .u8 0, .string ⟨#[]⟩, .bool false, .slice none 0 0, .int .i64 0, .int .i64 0] : Array Value).size := by simp [op3_length]
        go_upto_region 6 with (first
          | (with_reducible show wpList _ _ _ (Oper.mk _ (.load 35 _) _ _ _ _ :: _) _ _; refine wpList_load_mid rfl 35 (.tmp 22) rfl g (o + k * 8) rfl T cur fr _ (op3Cells p) hrow Try.underlying35 rfl hz HC.out ?_)
          | (with_reducible show wpList _ _ _ (Oper.mk _ (.alloc 35) _ _ _ _ :: _) _ _; refine wpList_alloc_row rfl 35 rfl _ zrow35 ?_; intro w2 hn2 hg2 hs2)
          | (with_reducible show wpList _ _ _ (Oper.mk _ (.store 35 _ _) _ _ _ _ :: _) _ _; refine wpList_store_mid rfl rfl 35 (.tmp 6) (.tmp 23) rfl wr.heap.size 0 rfl (op3Cells p) rfl 35 _ hn2 hz hfit hone ?_; intro w3 hn3 hg3 hs3; clear hn2))
        rw [splice_all _ _ (by rfl)] at hn3
        have F3 : Fr wr w3 [] := ((Fr.refl wr []).grown hg2 (by simp)).grown hg3 (by simp)
        have hb3 : Below w.heap.size w w3 := Fr.below_iff.1 ((Fr.below_iff.2 hb).then F3 (by simp))
        have p3 : w3.cell? ⟨wr.heap.size, 3, none⟩ = some (.string p.s) := cell_of_row _ _ _ _ _ _ hn3
        have p5 : w3.cell? ⟨wr.heap.size, 5, none⟩ = some (.slice p.kA p.kn p.kc) := cell_of_row _ _ _ _ _ _ hn3
        have HB3 := Lib.hid hb3
        clear hg2 hg3 hs2 hs3 hn3 F3 hrow hcur
        by_cases h3 : (300 : Int) < (p.s.size : Int)
        · go_wp2
          go_ret
          exact ⟨false, rfl, by simp, HB3.out⟩
        · have hd3 : decide ((300 : Int) < (p.s.size : Int)) = false := by simpa using h3
          by_cases h7 : (70 : Int) < (p.kn : Int)
          · go_wp2
            go_ret
            exact ⟨false, rfl, by simp, HB3.out⟩
          · have HS : Hid (∀ o ∈ l.take (k + 1), o.s.size ≤ 300 ∧ o.kn ≤ 70) := by
              show ∀ o ∈ _, _
              rw [List.take_succ_eq_append_getElem hx, ← HP.out]
              intro o ho
              rcases List.mem_append.1 ho with ho | ho
              · exact hs.out o ho
              · simp at ho
                subst ho
                omega
            go_wp2
            go_roundw
            case rel => exact ⟨k + 1, by omega, by go_num, hb3, HS⟩
            case measure => simp [intOf]; omega
      · have HS : Hid (true = true → n ≤ 60 ∧ ∀ o ∈ l, o.s.size ≤ 300 ∧ o.kn ≤ 70) := by
          show _ → _
          intro _
          have := hs.out
          rw [List.take_of_length_le (by omega)] at this
          exact ⟨hn60, this⟩
        go_wp2
        go_ret
        exact ⟨true, rfl, fun _ => (HS.out (by trivial)).2, hb⟩
  · have h60 : (60 : Int) < (n : Int) := by omega
    go_enter Try.func14, Try.ntmps14
    go_wp2
    go_ret
    exact ⟨false, rfl, by simp, Below.refl _ _⟩
end Go.Proofs.Yteggldplmbegfaa
