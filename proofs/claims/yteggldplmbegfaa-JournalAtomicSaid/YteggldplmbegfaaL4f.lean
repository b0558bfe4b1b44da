/- LAYER 4's LAWS: JournalRoom, walked. -/
import Derived.Test.YteggldplmbegfaaL4e
import Derived.Test.YteggldplmbegfaaL4b
import Derived.Test.YteggldplmbegfaaRefA
set_option linter.unusedVariables false
set_option linter.unusedSimpArgs false
namespace Go.Proofs.Yteggldplmbegfaa
open Go.RowKit

theorem RecsIs.rlen {w : World} {v : Value} {rs : List (List UInt8)} (h : RecsIs w v rs) : ∀ r ∈ rs, r.length ≤ 9223372036854775807 := fun r hr => by
  obtain ⟨i, hi, rfl⟩ := List.getElem_of_mem hr
  obtain ⟨T, vs, h1, h2⟩ := h
  exact (h2 i _ (List.getElem?_eq_getElem hi)).1
theorem one_txt (w : World) (r : List UInt8) : TxtIs (w.alloc (.cells #[.string (str r)] 9 (0, 0))) (.slice (some ⟨w.heap.size, 0, none⟩) 1 1) [r] := ⟨_, one_str w r⟩
theorem lie_one (r : List UInt8) : (lie [r]).length = need r := by rw [lie_length]; simp
set_option maxRecDepth 20000 in
set_option maxHeartbeats 4000000 in
theorem JRoom_any (w : World) (s : Int) (A : Option Addr) (n c : Nat) (l : List (List UInt8)) (hn : l.length = n) (h : RecsIs w (.slice A n c) l) (hnb : n ≤ 9223372036854775807) :
    Calls Try.prog 6 #[.int .i64 s, .slice A n c] w fun e w' => e = .returned (.bool true) ∧ Below w.heap.size w w' := by
  have H := Lib.hid h
  have HN := Lib.hid hn
  clear h hn
  go_enter Try.func6, Try.ntmps6
  go_wp2_with fail
  refine (l4lives_any w).mono ?_
  rintro e w1 ⟨rfl, hb1⟩
  have F1 := Lib.hid hb1
  clear hb1
  go_wp2_with fail
  obtain ⟨wa, hwa, hrow, hba⟩ : ∃ wa, wa = (w1.alloc (.cells #[.int .i64 0, .slice A n c, .int .i64 0, .slice none 0 0, .int .i64 0, .int .i64 0] 56 (0, 0))) ∧
      RowIs wa (.slice (some ⟨w1.heap.size, 0, none⟩) 1 1) 56 6 1 (script4 [⟨0, A, n, c, l, 0, none, 0, 0, 0, 0⟩]) ∧ Below w1.heap.size w1 wa :=
    ⟨_, rfl, ⟨rfl, .inr ⟨_, 0, 1, _, _, rfl, Nat.le_refl _, heap_alloc_new _ _, fun j x hj => by rw [Nat.zero_add, List.getElem?_toArray]; exact hj⟩⟩, (Below.refl _ _).alloc (Nat.le_refl _) _⟩
  rw [← hwa]
  have Fa := Lib.hid (F1.out.trans (hba.mono F1.out.size))
  clear hwa hba F1
  refine (l4fits_any wa s _ 1 1 _ _ rfl hrow (by omega) (fun o ho => by
    obtain rfl := List.mem_singleton.1 ho
    exact ⟨HN.out, hnb, H.out.below Fa.out, by simp⟩)).mono ?_
  rintro e w2 ⟨r, rfl, hfit, hb2⟩
  have F2 := Lib.hid (Fa.out.trans (hb2.mono Fa.out.size))
  clear hb2 hrow Fa
  cases r with
  | false =>
    go_wp2_with fail
    refine (l4lives_any w2).mono ?_
    rintro e w3 ⟨rfl, hb3⟩
    go_wp2
    go_ret
    exact ⟨rfl, F2.out.trans (hb3.mono F2.out.size)⟩
  | true =>
    obtain ⟨hs6, hs14, _, hsm⟩ := hfit rfl
    have hsmall := hsm _ (List.mem_singleton.2 rfl)
    have hl6 : n ≤ 6 := by rw [← HN.out]; exact hsmall.1
    have SM := Lib.hid hsmall.2.2
    clear hfit hsm hsmall
    obtain ⟨m, rfl⟩ : ∃ m : Nat, s = m := ⟨s.toNat, by omega⟩
    have hm6 : 6 ≤ m := by omega
    have hm14 : m ≤ 14 := by omega
    clear hs6 hs14
    go_wp2_with fail
    refine (wNew w2 m _ rfl (by omega) (by omega)).mono ?_
    rintro e w3 ⟨b, bs, rfl, hd3, hb, hbs, hb3⟩
    have F3 := Lib.hid (F2.out.trans (hb3.mono F2.out.size))
    have HD3 := Lib.hid hd3
    have hbw : w.heap.size ≤ b := Nat.le_trans F2.out.size hb
    have hbsw : w.heap.size ≤ bs := Nat.le_trans F2.out.size hbs
    clear hb3 hd3 F2 hb hbs
    go_wp2_with fail
    refine (hOpen_new w3 b bs (by omega) (by omega) HD3.out).mono ?_
    rintro e w4 ⟨jb, rv, rfl, hjb, hj4, hr4, hf4⟩
    have hjbw : w.heap.size ≤ jb := Nat.le_trans F3.out.size hjb
    have F4 := Lib.hid (Fr.below_iff.1 ((Fr.below_iff.2 F3.out).then hf4 (by simp; omega)))
    have HJ4 := Lib.hid hj4
    obtain ⟨A4, c4, rfl, _⟩ := hr4.recs.shape
    clear hf4 hj4 hr4 F3 HD3 hjb
    obtain ⟨q, hq⟩ : ∃ q, q = (dev1 m).secs := ⟨_, rfl⟩
    have hq2 : q = (m - 2) / 2 := by rw [hq]; unfold Dev.secs; rw [dev1_len]
    obtain ⟨R, hR⟩ : ∃ R, R = q * 256 := ⟨_, rfl⟩
    have hRb : R ≤ 1536 := by omega
    have ew : ((m : Int) - 2) / 2 * 256 = (R : Int) := by omega
    have ej : ((q * 256 : Nat) : Int) - (jr1.data.length : Int) = (R : Int) := by rw [hR]; simp [jr1]
    have EW := Lib.hid ew
    have EJ := Lib.hid ej
    have HRR := Lib.hid hR
    have HQ2 := Lib.hid hq2
    have hqb : q ≤ 6 := by omega
    clear ew ej hR hq2
    go_wp2_with fail
    refine (hRoom w4 jb b bs HJ4.out (by rw [dev1_len]; omega) (by rw [dev1_len]; omega) (by simp [jr1])).mono ?_
    rintro e w5 ⟨rfl, rfl⟩
    rw [← hq, EJ.out, EW.out]
    have HJ5 := Lib.hid (HJ4.out.below (Fr.below_iff.1 (Fr.refl w4 []).drew))
    have F5 := Lib.hid (F4.out.trans (Below.mono (Fr.below_iff.1 (Fr.refl w4 []).drew) F4.out.size))
    have h0 := fresh_holds (n := m) hm6 (by omega)
    have H0 := Lib.hid (show Holds jr1 (dev1 m) [] ∧ (dev1 m).sure.length = m ∧ jr1.number ≤ 1 + 0 ∧ (dev1 m).changes ≤ 2 + 9 * (0 : Nat) ∧ ([] : List (List UInt8)).length ≤ 0 from ⟨h0, dev1_len m, by decide, by simp [dev1, Dev.fresh], by simp⟩)
    clear h0 HJ4 F4 EW EJ hq
    go_wp2_with fail
    go_loopw [53] (fun i wr => ∃ (k : Nat) (J : Jr) (D : Dev) (rs : List (List UInt8)), k ≤ n ∧ i = .int .i64 k ∧ JAt wr jb b bs J D ∧
        Hid (Holds J D rs ∧ D.sure.length = m ∧ J.number ≤ 1 + k ∧ D.changes ≤ 2 + 9 * k ∧ rs.length ≤ k) ∧ Below w.heap.size w wr) (fun i _ => n - (intOf i).toNat)
    case atStart => exact ⟨0, jr1, dev1 m, [], Nat.zero_le _, rfl, HJ5.out, H0, F5.out⟩
    case round =>
      clear H0 HJ5 F5
      obtain ⟨k, J, D, rs, hk, rfl, hj, hh, hb⟩ := hrel
      have hDm := hh.out.2.1
      have hJn := hh.out.2.2.1
      have hDc := hh.out.2.2.2.1
      have hrl := hh.out.2.2.2.2
      have HH := Lib.hid hh.out.1
      have hsec : D.secs = q := by unfold Dev.secs; rw [hDm]; exact HQ2.out.symm
      have hfit := HH.out.fit
      rw [hsec, ← HRR.out] at hfit
      have HJ := Lib.hid hj
      have HB := Lib.hid hb
      clear hj hb hh
      by_cases hlt : k < n
      · have hlti : (k : Int) < (n : Int) := by omega
        have hkl : k < l.length := by have := HN.out; omega
        obtain ⟨g2, o2, Ak, ck, Te, hA, hcj, hrj⟩ := (H.out.below HB.out).at_ HN.out k hkl
        subst hA
        obtain ⟨r, hr⟩ : ∃ r, r = l[k] := ⟨_, rfl⟩
        rw [← hr] at hcj hrj
        have hr2 : r.length ≤ 2000 := SM.out r (by rw [hr]; exact List.getElem_mem _)
        have hcv := run_bytes_str (P := Try.prog) wr 33 9 5 Try.underlying33 Try.underlying5 Try.underlying9 Ak r.length ck Te r rfl hrj
        have HRJ := Lib.hid hrj
        have hln := lie_one r
        have hsz := str_size (lie [r])
        obtain ⟨d, hd⟩ : ∃ d, d = need r := ⟨_, rfl⟩
        rw [← hd] at hln
        rw [hln] at hsz
        have hdb : d ≤ 2007 := by rw [hd]; unfold need; split <;> omega
        have HLN := Lib.hid hln
        clear hr hrj hln hd
        go_wp2_with fail
        refine (rLie_any _ _ [r] (one_txt wr r) (by simp) (fun x hx => by obtain rfl := List.mem_singleton.1 hx; omega)).mono ?_
        rintro e w6 ⟨rfl, hb6'⟩
        have hb6 := ((Below.refl wr.heap.size wr).alloc (Nat.le_refl _) (.cells #[.string (str r)] 9 (0, 0))).trans (hb6'.mono (by rw [World.size_alloc]; omega))
        have HJ6 := Lib.hid (HJ.out.below hb6)
        have F6 := Lib.hid (HB.out.trans (hb6.mono HB.out.size))
        have HRJ6 := Lib.hid (HRJ.out.below hb6)
        clear hb6' hb6 HJ HB HRJ hcv
        obtain ⟨was, hwas⟩ : ∃ was, was = R - J.data.length := ⟨_, rfl⟩
        have hwasb : was ≤ 1536 := by omega
        have ej : ((D.secs * 256 : Nat) : Int) - (J.data.length : Int) = (was : Int) := by rw [hsec, ← HRR.out]; omega
        have EJ := Lib.hid ej
        have HWAS := Lib.hid hwas
        clear ej hwas
        go_wp2_with fail
        refine (hRoom w6 jb b bs HJ6.out (by omega) (by omega) (by omega)).mono ?_
        rintro e w7 ⟨rfl, rfl⟩
        rw [EJ.out]
        have hbd := Fr.below_iff.1 (Fr.refl w6 []).drew
        have HJ7 := Lib.hid (HJ6.out.below hbd)
        have F7 := Lib.hid (F6.out.trans (Below.mono hbd F6.out.size))
        have HRJ7 := Lib.hid (HRJ6.out.below hbd)
        clear hbd HJ6 F6 HRJ6
        obtain ⟨w8, hw8⟩ : ∃ w8, w8 = w6.drew := ⟨_, rfl⟩
        rw [← hw8] at HJ7 F7 HRJ7 ⊢
        clear hw8
        go_wp2_with fail
        refine (wChanges _ b bs _ HJ7.out.dev).mono ?_
        rintro e w9 ⟨rfl, rfl⟩
        go_wp2_with fail
        obtain ⟨wa, hwa, hrec, hba⟩ : ∃ wa, wa = (w9.alloc (.cells #[.slice Ak r.length ck] 33 (0, 0))) ∧ RecsIs wa (.slice (some ⟨w9.heap.size, 0, none⟩) 1 1) [r] ∧ Below w9.heap.size w9 wa :=
          ⟨_, rfl, one_recs (T1 := Te) (heap_alloc_new _ _) (HRJ7.out.below ((Below.refl _ _).alloc (Nat.le_refl _) _)) (by omega), (Below.refl _ _).alloc (Nat.le_refl _) _⟩
        rw [← hwa]
        have HJa := Lib.hid (HJ7.out.below hba)
        have Fa := Lib.hid (F7.out.trans (hba.mono F7.out.size))
        clear hwa hba HJ7 F7 HRJ7
        refine (hAdd wa jb b bs HJa.out HH.out.calm.ok (by omega) (HH.out.wf (by omega)) (by omega) _ [r] hrec (by simp)).mono ?_
        rintro e w10 ⟨rfl, hj10, hf10⟩
        have F10 := Lib.hid (Fr.below_iff.1 ((Fr.below_iff.2 Fa.out).then hf10 (by simp; omega)))
        have hll : (lie (rs ++ [r])).length = J.data.length + d := by rw [lie_append, List.length_append, HLN.out, ← HH.out.data]
        by_cases hfits : d ≤ was
        · have hwas := HWAS.out
          obtain ⟨J', e, h', hn', _⟩ := HH.out.add (more := [r]) (fun x hx => by obtain rfl := List.mem_singleton.1 hx; omega) (by simp) (by rw [hll, hsec, ← HRR.out]; omega) (by omega) (by omega)
          have hlen' := layD_len D J.side J.data.length (J.number + 1) (lie (rs ++ [r]))
          have hch' := layD_changes D J.side J.data.length (J.number + 1) (lie (rs ++ [r])) HH.out.calm (by rw [hll, hsec, ← HRR.out]; omega)
          rw [e] at hj10 ⊢
          obtain ⟨D', hD'⟩ : ∃ D', D' = layD D J.side J.data.length (J.number + 1) (lie (rs ++ [r])) := ⟨_, rfl⟩
          rw [← hD'] at hj10 h' hlen' hch'
          rw [hsec] at hch'
          simp only at hj10 ⊢
          have hsec' : D'.secs = q := by unfold Dev.secs; rw [hlen', hDm]; exact HQ2.out.symm
          have hdl' : J'.data.length = J.data.length + d := by rw [h'.data, hll]
          have ej : ((D'.secs * 256 : Nat) : Int) - (J'.data.length : Int) = (was : Int) - (d : Int) := by rw [hsec', ← HRR.out, hdl']; omega
          have EJ' := Lib.hid ej
          have HJ10 := Lib.hid hj10
          have H' := Lib.hid h'
          have HX : Hid (Holds J' D' (rs ++ [r]) ∧ D'.sure.length = m ∧ J'.number ≤ 1 + (k + 1) ∧ D'.changes ≤ 2 + 9 * ((k + 1 : Nat) : Int) ∧ (rs ++ [r]).length ≤ k + 1) := by
            show _ ∧ _
            exact ⟨h', by omega, by omega, by omega, by simp; omega⟩
          have hle : decide ((d : Int) ≤ (was : Int)) = true := decide_eq_true (by omega)
          clear hj10 hf10 e h' hD' ej hwas HJa Fa hrec EJ HH HLN
          go_wp2_with fail
          refine (hRoom w10 jb b bs HJ10.out (by omega) (by omega) (by omega)).mono ?_
          rintro e w11 ⟨rfl, rfl⟩
          rw [EJ'.out]
          obtain ⟨z, hz⟩ : ∃ z : Int, (was : Int) - (d : Int) = z := ⟨_, rfl⟩
          have hwz : wrap64 ((was : Int) - (d : Int)) = z := by rw [← hz]; unfold wrap64; omega
          rw [hz]
          have hbd := Fr.below_iff.1 (Fr.refl w10 []).drew
          have HJ11 := Lib.hid (HJ10.out.below hbd)
          have F11 := Lib.hid (F10.out.trans (Below.mono hbd F10.out.size))
          clear hbd HJ10 F10
          obtain ⟨w12, hw12⟩ : ∃ w12, w12 = w10.drew := ⟨_, rfl⟩
          rw [← hw12] at HJ11 F11 ⊢
          clear hw12 hdl' hll hlen' hsec' hch' hn' EJ' hfits hle
          go_wp2_with fail
          refine ⟨⟨k + 1, J', D', rs ++ [r], by omega, by go_num, HJ11.out, HX, F11.out⟩, ?_⟩
          simp [intOf]; omega
        · have hwas := HWAS.out
          have e := HH.out.add_full (more := [r]) (fun x hx => by obtain rfl := List.mem_singleton.1 hx; omega) (by simp) (by rw [hll, hsec, ← HRR.out]; omega)
          rw [e] at hj10 ⊢
          simp only at hj10 ⊢
          have HJ10 := Lib.hid hj10
          have HX : Hid (Holds J D rs ∧ D.sure.length = m ∧ J.number ≤ 1 + (k + 1) ∧ D.changes ≤ 2 + 9 * ((k + 1 : Nat) : Int) ∧ rs.length ≤ k + 1) := by
            show _ ∧ _
            exact ⟨HH.out, by omega, by omega, by omega, by omega⟩
          have hle : decide ((d : Int) ≤ (was : Int)) = false := decide_eq_false (by omega)
          clear hj10 hf10 e hwas hll HJa Fa hrec HLN
          go_wp2_with fail
          refine (hRoom w10 jb b bs HJ10.out (by omega) (by omega) (by omega)).mono ?_
          rintro e w11 ⟨rfl, rfl⟩
          rw [EJ.out]
          have hbd := Fr.below_iff.1 (Fr.refl w10 []).drew
          have HJ11 := Lib.hid (HJ10.out.below hbd)
          have F11 := Lib.hid (F10.out.trans (Below.mono hbd F10.out.size))
          clear hbd HJ10 F10
          obtain ⟨w12, hw12⟩ : ∃ w12, w12 = w10.drew := ⟨_, rfl⟩
          rw [← hw12] at HJ11 F11 ⊢
          clear hw12 EJ hle
          go_wp2_with fail
          refine (wChanges _ b bs _ HJ11.out.dev).mono ?_
          rintro e w13 ⟨rfl, rfl⟩
          go_wp2_with fail
          refine ⟨⟨k + 1, J, D, rs, by omega, by go_num, HJ11.out, HX, F11.out⟩, ?_⟩
          simp [intOf]; omega
      · have hkn : k = n := by omega
        clear hlt
        subst hkn
        go_wp2_with fail
        refine (hReplace wr jb b bs HJ.out HH.out.calm.ok (by omega) (HH.out.wf (by omega)) (by omega) (.slice none 0 0) [] (RecsIs.nil _ _ _) (by simp)).mono ?_
        rintro e w10 ⟨rfl, hj10, hf10⟩
        have F10 := Lib.hid (Fr.below_iff.1 ((Fr.below_iff.2 HB.out).then hf10 (by simp; omega)))
        obtain ⟨J', e, h', hn'⟩ := HH.out.replace (more := []) (by simp) (by rw [lie_nil]; simp) (by omega) (by omega)
        have hlen' := layD_len D (1 - J.side) 0 (J.number + 1) (lie [])
        rw [e] at hj10 ⊢
        obtain ⟨D', hD'⟩ : ∃ D', D' = layD D (1 - J.side) 0 (J.number + 1) (lie []) := ⟨_, rfl⟩
        rw [← hD'] at hj10 h' hlen'
        simp only at hj10 ⊢
        have hdl' : J'.data.length = 0 := by rw [h'.data, lie_nil]; rfl
        have hsec' : D'.secs = q := by unfold Dev.secs; rw [hlen', hDm]; exact HQ2.out.symm
        have ej : ((D'.secs * 256 : Nat) : Int) - (J'.data.length : Int) = (R : Int) := by rw [hsec', ← HRR.out, hdl']; simp
        have EJ' := Lib.hid ej
        have HJ10 := Lib.hid hj10
        have H' := Lib.hid h'
        have hl1 : 2 ≤ D'.sure.length := by omega
        have hl2 : D'.sure.length ≤ 4096 := by omega
        have hl3 : J'.data.length ≤ 1000000000 := by omega
        clear hj10 hf10 e h' hD' ej hdl' hsec' hlen' hn' HJ HB HH
        go_wp2_with fail
        refine (hRoom w10 jb b bs HJ10.out hl1 hl2 hl3).mono ?_
        rintro e w11 ⟨rfl, rfl⟩
        rw [EJ'.out]
        have hbd := Fr.below_iff.1 (Fr.refl w10 []).drew
        have HJ11 := Lib.hid (HJ10.out.below hbd)
        have F11 := Lib.hid (F10.out.trans (Below.mono hbd F10.out.size))
        clear hbd HJ10 F10
        obtain ⟨w12, hw12⟩ : ∃ w12, w12 = w10.drew := ⟨_, rfl⟩
        rw [← hw12] at HJ11 F11 ⊢
        clear hw12 EJ'
        go_wp2_with fail
        refine (hLen _ jb b bs HJ11.out).mono ?_
        rintro e w13 ⟨rfl, rfl⟩
        rw [H'.out.count]
        simp only [List.length_nil]
        go_wp2_with fail
        refine (wLoose _ b bs _ HJ11.out.dev).mono ?_
        rintro e w13 ⟨rfl, rfl⟩
        rw [H'.out.calm.loose]
        simp only [List.length_nil]
        go_wp2
        go_ret
        exact ⟨rfl, F11.out⟩
end Go.Proofs.Yteggldplmbegfaa
