/- THE JOURNAL AT A CUT, plain, second part: Add and Replace on a device that a cut is planned for. No Go here. -/
import Derived.Test.YteggldplmbegfaaJnTorn
set_option linter.unusedVariables false
set_option linter.unusedSimpArgs false
namespace Go.Proofs.Yteggldplmbegfaa

/-- What is held behind a call that was to make new of old: x is what it told. -/
def Cutly (D : Dev) (kp : List Int) (tr hf : Int) (x : Jr × Dev × Int) (old new : List (List UInt8)) : Prop :=
  (x.2.1.back kp tr hf).changes ≤ D.changes + D.secs + 3 ∧ ∃ J2 rs2, Holds J2 (x.2.1.back kp tr hf) rs2 ∧ (x.2.2 = 0 ∧ rs2 = new ∨ x.2.2 = 5 ∧ rs2 = old ∨ x.2.2 = 6 ∧ (rs2 = old ∨ rs2 = new))
theorem packL_ok {rs : List (List UInt8)} {room : Nat} (h : (lie rs).length ≤ room) : packL room [] rs = (lie rs, 0) := by
  rcases packL_is room rs [] with h1 | ⟨_, h1⟩
  · exact h1
  · rw [List.nil_append] at h1
    omega
theorem Cutly.still {J : Jr} {D : Dev} {rs : List (List UInt8)} (h : Holds J D rs) (L : Nat) {kp : List Int} {tr hf : Int} (hkp : kp.length ≤ 1000000000000)
    (htr : -9223372036854775808 ≤ tr ∧ tr ≤ 9223372036854775807) (hhf : -9223372036854775808 ≤ hf ∧ hf ≤ 9223372036854775807) (hch : D.changes + 2100 ≤ 1000000000) (J0 : Jr) (c : Int) :
    (({ D with left := (L : Int), kept := kp, torn := tr, half := hf } : Dev).back kp tr hf).changes ≤ D.changes + D.secs + 3 ∧ Holds J (({ D with left := (L : Int), kept := kp, torn := tr, half := hf } : Dev).back kp tr hf) rs := by
  rw [back_on _ (by exact h.calm.off)]
  refine ⟨by simp only; omega, h.same (by simp only [h.calm.loose, Dev.cutFrom]) ?_⟩
  refine Left.calm (D := D) (kp := kp) (tr := tr) (hf := hf) ⟨rfl, rfl, rfl, rfl, rfl, rfl, by simp only; omega, by simp only; omega⟩ h.calm (by simp only [h.calm.loose, Dev.cutFrom]) (by simp only [h.calm.loose, Dev.cutFrom]; exact h.calm.ok.wf.full) hkp htr hhf hch
theorem Holds.torn_add {J : Jr} {D : Dev} {rs : List (List UInt8)} (h : Holds J D rs) (ho : Older (D.sec (1 - J.number % 2)) J.number) (L : Nat) {kp : List Int} {tr hf : Int} (hkp : kp.length ≤ 1000000000000)
    (htr : -9223372036854775808 ≤ tr ∧ tr ≤ 9223372036854775807) (hhf : -9223372036854775808 ≤ hf ∧ hf ≤ 9223372036854775807) {more : List (List UInt8)} (hm : ∀ r ∈ more, r.length ≤ 65531)
    (hn : J.number < 4611686018427387904) (hch : D.changes + 2100 ≤ 1000000000) :
    Cutly D kp tr hf (J.add { D with left := (L : Int), kept := kp, torn := tr, half := hf } more) rs (rs ++ more) := by
  have hall : J.data ++ lie more = lie (rs ++ more) := by rw [h.data, lie_append]
  have hstill := Cutly.still h L hkp htr hhf hch J 0
  have hsx : ({ D with left := (L : Int), kept := kp, torn := tr, half := hf } : Dev).secs = D.secs := rfl
  unfold Cutly Jr.add
  rw [if_neg (by simp [h.broken]), pack_short hm, hsx]
  simp only
  by_cases hne : more = []
  · subst hne
    rw [if_pos (.inr rfl), List.append_nil]
    exact ⟨hstill.1, J, rs, hstill.2, .inl ⟨rfl, rfl⟩⟩
  · by_cases hl : (lie (rs ++ more)).length ≤ D.secs * 256
    · have hl2 : (lie more).length ≤ D.secs * 256 := by rw [lie_append, List.length_append] at hl; omega
      rw [packL_ok hl2, if_neg (by simp [hne]), hall]
      have h2 := Dev.secs_two h.calm.six
      have h4 : J.side * D.secs ≤ 1 * D.secs := Nat.mul_le_mul_right _ h.side
      have hthere : J.data.length ≤ (lie (rs ++ more)).length := by rw [← hall, List.length_append]; omega
      have hf := h.fit
      obtain ⟨x, hx, h5, J2, rs2, h6, h7⟩ := h.torn ho L hkp htr hhf h.side hthere rfl (fun r hr => by
        rcases List.mem_append.1 hr with h3 | h3
        · exact h.short r h3
        · exact hm r h3) hl hn hch (fun k hk => by
          rw [← hall]
          exact agrees_more (h.calm.sec_len _ (by omega)) (h.has k (by omega)) hk) (fun _ k => by
          have := agrees_pre (m := J.data.length) (agrees_chunk (lie (rs ++ more)) k)
          rw [← hall, List.take_left] at this
          rw [← hall]
          exact this) (J.count + more.length)
      rw [hx]
      exact ⟨h5, J2, rs2, h6, by rcases h7 with h7 | h7; exact .inl h7; exact .inr (.inr h7)⟩
    · rcases packL_is (D.secs * 256) more [] with h1 | ⟨h1, _⟩
      · rw [h1, if_neg (by simp [hne]), List.nil_append, hall]
        unfold Jr.lay
        rw [if_pos (.inr (by rw [hsx]; omega))]
        exact ⟨hstill.1, J, rs, hstill.2, .inr (.inl ⟨rfl, rfl⟩)⟩
      · rw [h1, if_pos (by simp)]
        exact ⟨hstill.1, J, rs, hstill.2, .inr (.inl ⟨rfl, rfl⟩)⟩
theorem Holds.torn_replace {J : Jr} {D : Dev} {rs : List (List UInt8)} (h : Holds J D rs) (ho : Older (D.sec (1 - J.number % 2)) J.number) (L : Nat) {kp : List Int} {tr hf : Int} (hkp : kp.length ≤ 1000000000000)
    (htr : -9223372036854775808 ≤ tr ∧ tr ≤ 9223372036854775807) (hhf : -9223372036854775808 ≤ hf ∧ hf ≤ 9223372036854775807) {more : List (List UInt8)} (hm : ∀ r ∈ more, r.length ≤ 65531)
    (hn : J.number < 4611686018427387904) (hch : D.changes + 2100 ≤ 1000000000) :
    Cutly D kp tr hf (J.replace { D with left := (L : Int), kept := kp, torn := tr, half := hf } more) rs more := by
  have hstill := Cutly.still h L hkp htr hhf hch J 0
  have hsx : ({ D with left := (L : Int), kept := kp, torn := tr, half := hf } : Dev).secs = D.secs := rfl
  have hside := h.side
  unfold Cutly Jr.replace
  rw [if_neg (by simp [h.broken]), pack_short hm, hsx]
  simp only
  by_cases hl : (lie more).length ≤ D.secs * 256
  · rw [packL_ok hl, if_neg (by simp)]
    obtain ⟨x, hx, h5, J2, rs2, h6, h7⟩ := h.torn ho L hkp htr hhf (side := 1 - J.side) (there := 0) (by omega) (Nat.zero_le _) rfl hm hl hn hch (fun k hk => by omega) (fun e => absurd e (by omega)) more.length
    rw [hx]
    exact ⟨h5, J2, rs2, h6, by rcases h7 with h7 | h7; exact .inl h7; exact .inr (.inr h7)⟩
  · rcases packL_is (D.secs * 256) more [] with h1 | ⟨h1, _⟩
    · rw [h1, if_neg (by simp), List.nil_append]
      unfold Jr.lay
      rw [if_pos (.inr (by rw [hsx]; show _ < (lie more).length; omega))]
      exact ⟨hstill.1, J, rs, hstill.2, .inr (.inl ⟨rfl, rfl⟩)⟩
    · rw [h1, if_pos (by simp)]
      exact ⟨hstill.1, J, rs, hstill.2, .inr (.inl ⟨rfl, rfl⟩)⟩

/-! ### The device that a call leaves is one -/
theorem layW_ok (side : Nat) (all : List UInt8) : ∀ (fuel i : Nat) (D : Dev), D.Ok → D.changes + fuel ≤ 1000000000 → (layW side all fuel i D).1.Ok ∧ (layW side all fuel i D).1.changes ≤ D.changes + fuel
  | 0, i, D, h, _ => ⟨h, by rw [layW]; simp only; omega⟩
  | fuel + 1, i, D, h, hc => by
    rw [layW]
    split
    · simp only
      have h1 := Dev.write_ok h (by omega) ((2 + side * D.secs + i : Nat) : Int) (chunk all i)
      have h2 := Dev.write_changes D ((2 + side * D.secs + i : Nat) : Int) (chunk all i)
      split
      · have h3 := layW_ok side all fuel (i + 1) _ h1 (by omega)
        exact ⟨h3.1, by omega⟩
      · exact ⟨h1, by omega⟩
    · exact ⟨h, by simp only; omega⟩
theorem tell_ok (J : Jr) {D : Dev} (h : D.Ok) (hc : D.changes + 2 ≤ 1000000000) (n side used : Nat) : (J.tell D n side used).2.1.Ok := by
  unfold Jr.tell
  have h1 := Dev.write_ok h (by omega) ((n % 2 : Nat) : Int) (tallyB n side used)
  have h2 := Dev.write_changes D ((n % 2 : Nat) : Int) (tallyB n side used)
  simp only
  split
  · have h3 := Dev.barrier_ok h1 (by omega)
    split
    · exact h3
    · exact h3
  · exact h1
theorem lay_ok (J : Jr) {D : Dev} (h : D.Ok) (side there : Nat) (all : List UInt8) (hl : D.secs * 256 ≤ 1000000) (hc : D.changes + 2000000 ≤ 1000000000) (count : Int) : (J.lay D side there all count).2.1.Ok := by
  unfold Jr.lay
  split
  · exact h
  · rename_i hn
    have h1 := layW_ok side all (all.length + 1) (there / 256) D h (by omega)
    simp only
    split
    · have h2 := Dev.barrier_ok h1.1 (by omega)
      have h3 := Dev.barrier_changes (layW side all (all.length + 1) (there / 256) D).1
      split
      · have h4 := tell_ok J h2 (by omega) (J.number + 1) side all.length
        split
        · exact h4
        · exact h4
      · exact h2
    · exact h1.1
theorem add_ok (J : Jr) {D : Dev} (h : D.Ok) (hl : D.secs * 256 ≤ 1000000) (hc : D.changes + 2000000 ≤ 1000000000) (rs : List (List UInt8)) : (J.add D rs).2.1.Ok := by
  unfold Jr.add
  split
  · exact h
  · simp only
    split
    · exact h
    · exact lay_ok J h _ _ _ hl hc _
theorem replace_ok (J : Jr) {D : Dev} (h : D.Ok) (hl : D.secs * 256 ≤ 1000000) (hc : D.changes + 2000000 ≤ 1000000000) (rs : List (List UInt8)) : (J.replace D rs).2.1.Ok := by
  unfold Jr.replace
  split
  · exact h
  · simp only
    split
    · exact h
    · exact lay_ok J h _ _ _ hl hc _

/-! ### A new journal, one Add behind it -/
theorem older_fresh {n : Nat} (h6 : 6 ≤ n) : Older ((dev1 n).sec (1 - jr1.number % 2)) jr1.number := by
  left
  show (dev1 n).sec 0 = zsec
  exact (sec_set (D := Dev.fresh n) (by omega)).trans (fresh_sec (by omega))
/-- A step of a journal; the other tally is older. -/
def Stepped2 (J : Jr) (D : Dev) (x : Jr × Dev × Int) (rs : List (List UInt8)) : Prop := x.2.2 = 0 ∧ Holds x.1 x.2.1 rs ∧ Older (x.2.1.sec (1 - x.1.number % 2)) x.1.number ∧ x.1.number ≤ J.number + 1 ∧ x.2.1.changes ≤ D.changes + D.secs + 3 ∧ x.2.1.sure.length = D.sure.length
theorem Holds.add_older {J : Jr} {D : Dev} {rs : List (List UInt8)} (h : Holds J D rs) (ho : Older (D.sec (1 - J.number % 2)) J.number) {more : List (List UInt8)} (hm : ∀ r ∈ more, r.length ≤ 65531) (hl : (lie (rs ++ more)).length ≤ D.secs * 256) (hn : J.number < 4611686018427387904) (hch : D.changes + 2100 ≤ 1000000000) :
    Stepped2 J D (J.add D more) (rs ++ more) := by
  by_cases hne : more = []
  · subst hne
    rw [h.add_none, List.append_nil]
    exact ⟨rfl, h, ho, by simp, by simp only; omega, rfl⟩
  · obtain ⟨J', e, h', hn', hs'⟩ := h.add hm hne hl hn hch
    rw [e]
    refine ⟨rfl, h', ?_, by simp only; omega, layD_changes D _ _ _ _ h.calm hl, layD_len _ _ _ _ _⟩
    have hthere : J.data.length ≤ (lie (rs ++ more)).length := by rw [lie_append, List.length_append, h.data]; omega
    right
    simp only
    refine ⟨J.number, J.side, J.used, ?_, by omega⟩
    rw [layD_tally h.calm h.side hthere hl _ (by omega), if_neg (by omega), ← h.tally, hn']
    congr 1
    omega
end Go.Proofs.Yteggldplmbegfaa
