/- LAYER 4's LAWS: a journal that a calm device holds, by contracts; lives. -/
import Derived.Test.YteggldplmbegfaaJnOpen
import Derived.Test.YteggldplmbegfaaJnHolds
set_option linter.unusedVariables false
set_option linter.unusedSimpArgs false
namespace Go.Proofs.Yteggldplmbegfaa
open Go.RowKit

/-- At jb lies the journal J on the device D. -/
def JAt (w : World) (jb b bs : Nat) (J : Jr) (D : Dev) : Prop := ∃ dv, JIs w jb b bs dv J D
theorem JAt.below {w w' : World} {jb b bs : Nat} {J : Jr} {D : Dev} (h : JAt w jb b bs J D) (hb : Below w.heap.size w w') : JAt w' jb b bs J D := by
  obtain ⟨dv, h⟩ := h
  exact ⟨dv, h.below hb⟩
theorem JAt.dev {w : World} {jb b bs : Nat} {J : Jr} {D : Dev} (h : JAt w jb b bs J D) : DevIs w b bs D := by
  obtain ⟨dv, h⟩ := h
  exact h.dev
theorem JAt.moved {w w' : World} {jb b bs : Nat} {J : Jr} {D D' : Dev} (h : JAt w jb b bs J D) (hd : DevIs w' b bs D') (hf : Fr w w' [b, bs]) : JAt w' jb b bs J D' := by
  obtain ⟨dv, h⟩ := h
  exact ⟨dv, h.dev_move hd hf⟩
theorem JAt.lt {w : World} {jb b bs : Nat} {J : Jr} {D : Dev} (h : JAt w jb b bs J D) : jb < w.heap.size := by
  obtain ⟨dv, h⟩ := h
  exact lt_of_heap h.blk
theorem RecsT.dev {w w' : World} {v : Value} {rs : List (List UInt8)} {b bs : Nat} {D : Dev} (h : RecsT w v rs) (hd : DevIs w b bs D) (hf : Fr w w' [b, bs]) : RecsT w' v rs := by
  obtain ⟨c1, h1⟩ := hd.blk
  obtain ⟨c2, h2⟩ := hd.sure
  refine h.other hf fun x hx => ?_
  simp only [List.mem_cons, List.not_mem_nil, or_false] at hx
  rcases hx with rfl | rfl
  · exact .inr ⟨_, _, _, h1, by decide, by decide⟩
  · exact .inr ⟨_, _, _, h2, by decide, by decide⟩
theorem RecsT.jn {w w' : World} {v : Value} {rs : List (List UInt8)} {jb b bs : Nat} {J : Jr} {D : Dev} (h : RecsT w v rs) (hj : JAt w jb b bs J D) (hf : Fr w w' [jb, b, bs]) : RecsT w' v rs := by
  obtain ⟨dv, hj⟩ := hj
  obtain ⟨c1, h1⟩ := hj.dev.blk
  obtain ⟨c2, h2⟩ := hj.dev.sure
  refine h.other hf fun x hx => ?_
  simp only [List.mem_cons, List.not_mem_nil, or_false] at hx
  rcases hx with rfl | rfl | rfl
  · exact .inr ⟨_, _, _, hj.blk, by decide, by decide⟩
  · exact .inr ⟨_, _, _, h1, by decide, by decide⟩
  · exact .inr ⟨_, _, _, h2, by decide, by decide⟩
theorem hOpen (w : World) (b bs : Nat) {J : Jr} {D : Dev} {rs : List (List UInt8)} (hd : DevIs w b bs D) (h : Holds J D rs) (hch : D.changes + 10 ≤ 1000000000) :
    Calls Try.prog 24 #[.pointer (some ⟨b, 0, none⟩)] w fun e w' => ∃ jb rv, e = .returned (.tuple #[.pointer (some ⟨jb, 0, none⟩), rv, .int .i64 0]) ∧ w.heap.size ≤ jb ∧ JAt w' jb b bs J D ∧ RecsT w' rv rs ∧ Fr w w' [b, bs] := by
  refine (jOpen_any w b bs D hd h.calm.ok hch).mono ?_
  rintro e w' ⟨hf, hd2, hm⟩
  rw [h.opened] at hm hd2
  simp only at hm hd2
  obtain ⟨jb, dv, rv, rfl, h1, h2, h3⟩ := hm
  exact ⟨jb, rv, rfl, h1, ⟨dv, h2⟩, h3, hf⟩
theorem hOpen_new (w : World) (b bs : Nat) {n : Nat} (h6 : 6 ≤ n) (hn : n ≤ 4096) (hd : DevIs w b bs (Dev.fresh n)) :
    Calls Try.prog 24 #[.pointer (some ⟨b, 0, none⟩)] w fun e w' => ∃ jb rv, e = .returned (.tuple #[.pointer (some ⟨jb, 0, none⟩), rv, .int .i64 0]) ∧ w.heap.size ≤ jb ∧ JAt w' jb b bs jr1 (dev1 n) ∧ RecsT w' rv [] ∧ Fr w w' [b, bs] := by
  refine (jOpen_any w b bs _ hd (fresh_calm h6 hn).ok (by simp [Dev.fresh])).mono ?_
  rintro e w' ⟨hf, hd2, hm⟩
  rw [fresh_opened h6 hn] at hm hd2
  simp only at hm hd2
  obtain ⟨jb, dv, rv, rfl, h1, h2, h3⟩ := hm
  exact ⟨jb, rv, rfl, h1, ⟨dv, h2⟩, h3, hf⟩
theorem hAdd (w : World) (jb b bs : Nat) {J : Jr} {D : Dev} (h : JAt w jb b bs J D) (hok : D.Ok) (h2 : 2 ≤ D.sure.length) (hwf : J.Wf) (hch : D.changes + 2100 ≤ 1000000000) (rv : Value) (rs : List (List UInt8)) (hr : RecsIs w rv rs) (hrl : rs.length ≤ 1000000) :
    Calls Try.prog 25 #[.pointer (some ⟨jb, 0, none⟩), rv] w fun e w' => e = .returned (.int .i64 (J.add D rs).2.2) ∧ JAt w' jb b bs (J.add D rs).1 (J.add D rs).2.1 ∧ Fr w w' [jb, b, bs] := by
  obtain ⟨dv, h⟩ := h
  exact jAdd_any w jb b bs dv J D h hok h2 hwf hch rv rs hr hrl
theorem hReplace (w : World) (jb b bs : Nat) {J : Jr} {D : Dev} (h : JAt w jb b bs J D) (hok : D.Ok) (h2 : 2 ≤ D.sure.length) (hwf : J.Wf) (hch : D.changes + 2100 ≤ 1000000000) (rv : Value) (rs : List (List UInt8)) (hr : RecsIs w rv rs) (hrl : rs.length ≤ 1000000) :
    Calls Try.prog 26 #[.pointer (some ⟨jb, 0, none⟩), rv] w fun e w' => e = .returned (.int .i64 (J.replace D rs).2.2) ∧ JAt w' jb b bs (J.replace D rs).1 (J.replace D rs).2.1 ∧ Fr w w' [jb, b, bs] := by
  obtain ⟨dv, h⟩ := h
  exact jReplace_any w jb b bs dv J D h hok h2 hwf hch rv rs hr hrl
theorem hRoom (w : World) (jb b bs : Nat) {J : Jr} {D : Dev} (h : JAt w jb b bs J D) (h2 : 2 ≤ D.sure.length) (hb : D.sure.length ≤ 4096) (hd : J.data.length ≤ 1000000000) :
    Calls Try.prog 27 #[.pointer (some ⟨jb, 0, none⟩)] w fun e w' => e = .returned (.int .i64 ((D.secs * 256 : Nat) - (J.data.length : Int))) ∧ w' = w.drew := by
  obtain ⟨dv, h⟩ := h
  obtain ⟨A, c, rfl⟩ := h.row.shape
  exact jRoom_any w jb b bs A c J D h h2 hb hd
theorem hLen (w : World) (jb b bs : Nat) {J : Jr} {D : Dev} (h : JAt w jb b bs J D) :
    Calls Try.prog 28 #[.pointer (some ⟨jb, 0, none⟩)] w fun e w' => e = .returned (.int .i64 J.count) ∧ w' = w := by
  obtain ⟨dv, h⟩ := h
  exact jLen_any w jb b bs dv J D h
theorem hBroken (w : World) (jb b bs : Nat) {J : Jr} {D : Dev} (h : JAt w jb b bs J D) :
    Calls Try.prog 29 #[.pointer (some ⟨jb, 0, none⟩)] w fun e w' => e = .returned (.bool J.broken) ∧ w' = w := by
  obtain ⟨dv, h⟩ := h
  exact jBroken_any w jb b bs dv J D h

/-- How many bytes a record needs. -/
def need (r : List UInt8) : Nat := r.length + 4 + (if r.length + 4 < 255 then 1 else 3)
theorem field_length (r : List UInt8) : (field (seal_ r)).length = need r := by
  unfold field need
  rw [seal_length]
  split <;> simp only [List.length_cons, seal_length]
theorem lie_length : ∀ rs : List (List UInt8), (lie rs).length = (rs.map need).sum
  | [] => rfl
  | r :: rs => by rw [lie_cons, List.length_append, field_length, lie_length rs]; simp
theorem RecsT.at_ {w : World} {A : Option Addr} {n c : Nat} {rs : List (List UInt8)} (h : RecsT w (.slice A n c) rs) (hn : rs.length = n) (k : Nat) (hk : k < rs.length) :
    ∃ g o Ak ck, A = some ⟨g, o, none⟩ ∧ w.cell? ⟨g, o + k, none⟩ = some (.slice Ak rs[k].length ck) ∧ RowIs w (.slice Ak rs[k].length ck) 5 1 rs[k].length (bv rs[k]) := by
  obtain ⟨vs, h1, h2⟩ := h
  obtain ⟨_, x, h4, h5⟩ := h2 k rs[k] (List.getElem?_eq_getElem hk)
  obtain ⟨Ak, ck, rfl⟩ := h5.shape
  rcases h1.2 with ⟨h0, _⟩ | ⟨g, o, c', cur, fr, hv, hc, hg, hx⟩
  · omega
  · simp only [Value.slice.injEq] at hv
    obtain ⟨rfl, _, _⟩ := hv
    exact ⟨g, o, Ak, ck, rfl, by rw [cell_of_row _ _ _ _ _ _ hg]; exact hx _ _ h4, h5⟩
def ab : List (List UInt8) := [[97, 98], []]
theorem dev1_len (n : Nat) : (dev1 n).sure.length = n := by simp [dev1, Dev.fresh]
theorem ab_lie : (lie ([] ++ ab)).length = 12 := by rw [lie_length]; rfl
theorem ab_world (w2 : World) : ∃ wa, wa = ((w2.alloc (.cells #[.int .u8 97, .int .u8 98] 5 (2, 3))).alloc (.cells #[.slice (some ⟨w2.heap.size, 0, none⟩) 2 2, .slice none 0 0] 33)) ∧
    RecsIs wa (.slice (some ⟨w2.heap.size + 1, 0, none⟩) 2 2) ab ∧ Below w2.heap.size w2 wa := by
  have b1 : Below w2.heap.size w2 (w2.alloc (.cells #[.int .u8 97, .int .u8 98] 5 (2, 3))) := (Below.refl _ _).alloc (Nat.le_refl _) _
  refine ⟨_, rfl, two_recs (x := .slice (some ⟨w2.heap.size, 0, none⟩) 2 2) (y := .slice none 0 0) (a := [97, 98]) (b := []) (T1 := 5) (T2 := 0) ?_ ?_ (RowIs.nil _ _ _ none 0) (by decide) (by decide), b1.alloc (by simp) _⟩
  · have := heap_alloc_new (w2.alloc (.cells #[.int .u8 97, .int .u8 98] 5 (2, 3))) (.cells #[.slice (some ⟨w2.heap.size, 0, none⟩) 2 2, .slice none 0 0] 33 (0, 0))
    rw [World.size_alloc] at this
    exact this
  · refine row_at (fr := (2, 3)) ?_ rfl (Nat.le_refl _)
    rw [heap_alloc_old _ _ (by simp), heap_alloc_new]
    rfl
set_option maxRecDepth 20000 in
set_option maxHeartbeats 2000000 in
theorem l4lives_any (w : World) : Calls Try.prog 23 #[] w fun e w' => e = .returned (.bool true) ∧ Below w.heap.size w w' := by
  go_enter Try.func23, Try.ntmps23
  go_wp2_with fail
  refine (wNew w 6 6 rfl (by omega) (by omega)).mono ?_
  rintro e w1 ⟨b, bs, rfl, hd1, hb, hbs, hb1⟩
  have F1 := Lib.hid hb1
  have HD1 := Lib.hid hd1
  clear hb1 hd1
  go_wp2_with fail
  refine (hOpen_new w1 b bs (by omega) (by omega) HD1.out).mono ?_
  rintro e w2 ⟨jb, rv, rfl, hjb, hj2, hr2, hf2⟩
  have hjbw : w.heap.size ≤ jb := Nat.le_trans F1.out.size hjb
  have F2 := Lib.hid (Fr.below_iff.1 ((Fr.below_iff.2 F1.out).then hf2 (by simp; omega)))
  have HJ2 := Lib.hid hj2
  obtain ⟨A2, c2, rfl, _⟩ := hr2.recs.shape
  clear hf2 hj2 hr2 F1 HD1 hjb
  simp only [List.length_nil]
  have kc1 := Lib.run_convert_bytes_const (P := Try.prog) w2 33 5 #[.int .u8 97, .int .u8 98] 2 2 Try.underlying33 Try.underlying5
  simp only [World.size_alloc, List.size_toArray, List.length_cons, List.length_nil, Nat.reduceAdd] at kc1
  go_wp2_with fail
  obtain ⟨wa, hwa, hrec, hba⟩ := ab_world w2
  rw [← hwa]
  have h0 := fresh_holds (n := 6) (by omega) (by omega)
  obtain ⟨J2, e2, h2, hn2, hs2⟩ := h0.add (more := ab) (by decide) (by decide) (by rw [ab_lie]; unfold Dev.secs; rw [dev1_len]; omega) (by decide) (by decide)
  have HJa := Lib.hid (HJ2.out.below hba)
  have Fa := Lib.hid (F2.out.trans (hba.mono F2.out.size))
  have E2 := Lib.hid e2
  have H2 := Lib.hid h2
  clear kc1 hwa hba HJ2 F2 e2 h2
  refine (hAdd wa jb b bs HJa.out h0.calm.ok (by rw [dev1_len]; omega) (h0.wf (by simp)) (by decide) _ ab hrec (by decide)).mono ?_
  rintro e w3 ⟨rfl, hj3, hf3⟩
  rw [E2.out] at hj3 ⊢
  simp only at hj3 ⊢
  obtain ⟨D2, hD2⟩ : ∃ D2, D2 = layD (dev1 6) jr1.side jr1.data.length (jr1.number + 1) (lie ([] ++ ab)) := ⟨_, rfl⟩
  have hlen2 : D2.sure.length = 6 := by rw [hD2, layD_len, dev1_len]
  have hch2 : D2.changes + 100 ≤ 1000000000 := by
    have := layD_changes (dev1 6) jr1.side jr1.data.length (jr1.number + 1) (lie ([] ++ ab)) h0.calm (by rw [ab_lie]; unfold Dev.secs; rw [dev1_len]; omega)
    rw [hD2]
    have hsx : (dev1 6).secs = 2 := by unfold Dev.secs; rw [dev1_len]
    rw [hsx] at this
    have hcx : (dev1 6).changes = 2 := rfl
    omega
  rw [← hD2] at hj3 H2
  have hdl : J2.data.length = 12 := by rw [H2.out.data]; exact ab_lie
  have hct : J2.count = 2 := by rw [H2.out.count]; rfl
  have hsx2 : D2.secs = 2 := by unfold Dev.secs; rw [hlen2]
  have HJ3 := Lib.hid hj3
  have F3 := Lib.hid (Fr.below_iff.1 ((Fr.below_iff.2 Fa.out).then hf3 (by simp; omega)))
  have HDL := Lib.hid hdl
  have HCT := Lib.hid hct
  have HSX := Lib.hid hsx2
  have HLEN := Lib.hid hlen2
  clear hj3 hf3 hdl hct hsx2 hlen2 hD2 Fa HJa E2 hrec h0
  go_wp2_with fail
  refine (hOpen w3 b bs HJ3.out.dev H2.out (by omega)).mono ?_
  rintro e w4 ⟨jb2, rv, rfl, hjb2, hj4, hr4, hf4⟩
  have HJ4 := Lib.hid (HJ3.out.moved hj4.dev hf4)
  have F4 := Lib.hid (Fr.below_iff.1 ((Fr.below_iff.2 F3.out).then hf4 (by simp; omega)))
  obtain ⟨A4, c4, rfl, hc4⟩ := hr4.recs.shape
  obtain ⟨g, o, Ak, ck, rfl, k0, r0⟩ := hr4.at_ rfl 0 (by decide)
  obtain ⟨g', o', Ak', ck', he, k1, r1⟩ := hr4.at_ rfl 1 (by decide)
  simp only [Option.some.injEq, Addr.mk.injEq, and_true] at he
  obtain ⟨rfl, rfl⟩ := he
  have k0' : w4.cell? ⟨g, o, none⟩ = some (.slice Ak 2 ck) := k0
  have k1' : w4.cell? ⟨g, o + 1, none⟩ = some (.slice Ak' 0 ck') := k1
  have hcv := run_bytes_str (P := Try.prog) w4 33 9 5 Try.underlying33 Try.underlying5 Try.underlying9 Ak 2 ck 5 [97, 98] rfl r0
  have hs2' : (str [97, 98]).toList = [97, 98] := by rw [ByteArray.toList_eq, str_toList]
  clear k0 k1 r0 r1 hc4 hf4 hj4 hr4 F3 HJ3 hjb2
  rw [show (([] : List (List UInt8)) ++ ab).length = 2 from rfl]
  go_wp2_with fail
  refine (hRoom w4 jb b bs HJ4.out (by rw [HLEN.out]; omega) (by rw [HLEN.out]; omega) (by rw [HDL.out]; omega)).mono ?_
  rintro e w5 ⟨rfl, rfl⟩
  rw [HSX.out, HDL.out]
  have HJ5 := Lib.hid (HJ4.out.below (Fr.below_iff.1 (Fr.refl w4 []).drew))
  have F5 := Lib.hid (F4.out.trans (Below.mono (Fr.below_iff.1 (Fr.refl w4 []).drew) F4.out.size))
  go_wp2_with fail
  refine (hLen _ jb b bs HJ5.out).mono ?_
  rintro e w6 ⟨rfl, rfl⟩
  rw [HCT.out]
  go_wp2
  go_ret
  exact ⟨rfl, F5.out⟩
end Go.Proofs.Yteggldplmbegfaa
