/- THE JOURNAL, plain: a calm device holds a journal: Open finds it, Add and Replace keep it. No Go here. -/
import Derived.Test.YteggldplmbegfaaJnPure
import Derived.Test.YteggldplmbegfaaJnAdd
set_option linter.unusedVariables false
set_option linter.unusedSimpArgs false
namespace Go.Proofs.Yteggldplmbegfaa

structure Holds (J : Jr) (D : Dev) (rs : List (List UInt8)) : Prop where
  calm : D.Calm
  broken : J.broken = false
  n1 : 1 ≤ J.number
  n2 : J.number ≤ 4611686018427387904
  side : J.side ≤ 1
  used : J.used = J.data.length
  data : J.data = lie rs
  fit : J.data.length ≤ D.secs * 256
  count : J.count = rs.length
  short : ∀ r ∈ rs, r.length ≤ 65531
  tally : D.sec (J.number % 2) = tallyB J.number J.side J.used
  other : (tallyOf (D.sec (1 - J.number % 2)) (D.secs * 256)).1 < J.number
  has : SideHas D J.side J.data
theorem room_le {D : Dev} (h : D.Calm) : D.secs * 256 ≤ 1000000000 := by
  have := h.ok.wf.hi
  have := Dev.secs_two h.six
  omega
theorem tally_holds {D : Dev} (h : D.Calm) {n side used : Nat} (h1 : 1 ≤ n) (h2 : n ≤ 4611686018427387904) (hs : side ≤ 1) (hu : used ≤ D.secs * 256) (ht : D.sec (n % 2) = tallyB n side used)
    (ho : (tallyOf (D.sec (1 - n % 2)) (D.secs * 256)).1 < n) : D.tally = (n, side, used) := by
  have ht2 := tallyOf_tallyB h1 h2 hs hu (room_le h)
  rw [← ht] at ht2
  have e0 : D.at_ 0 = D.sec 0 := h.at_ 0
  have e1 : D.at_ 1 = D.sec 1 := h.at_ 1
  unfold Dev.tally
  simp only
  rw [e0, e1]
  have hm : n % 2 = 0 ∨ n % 2 = 1 := by omega
  rcases hm with hm | hm
  · rw [hm] at ht2 ho
    rw [ht2, if_neg (by simp only; simp only [Nat.sub_zero] at ho; omega)]
  · rw [hm] at ht2 ho
    simp only [Nat.sub_self] at ho
    rw [ht2, if_pos (by simp only; exact ho)]
/-- What a calm device holds is found. -/
theorem Holds.opened {J : Jr} {D : Dev} {rs : List (List UInt8)} (h : Holds J D rs) : openJ D = (some (J, rs), D, 0) := by
  have h6 : ¬ D.sure.length < 6 := by have := h.calm.six; omega
  have ht := tally_holds h.calm h.n1 h.n2 h.side (by rw [h.used]; exact h.fit) h.tally h.other
  unfold openJ
  rw [if_neg h6, if_neg (by simp [h.calm.off])]
  simp only
  rw [ht]
  simp only
  have h0 : ¬ J.number = 0 := by have := h.n1; omega
  rw [if_neg h0, h.used, side_data h.calm h.side h.has h.fit]
  have hr := readR_lie rs h.short
  rw [← h.data] at hr
  rw [hr]
  have hb := h.broken
  have hu := h.used
  have hc := h.count
  obtain ⟨n, s, u, d, c, b⟩ := J
  simp only at hb hu hc ⊢
  rw [hb, hu, hc]
theorem fresh_calm {n : Nat} (h1 : 6 ≤ n) (h2 : n ≤ 4096) : (Dev.fresh n).Calm :=
  ⟨Dev.fresh_ok n (by omega) h2, by show (-1 : Int) < 0; omega, rfl, rfl, by simp only [Dev.fresh, List.length_replicate]; exact h1⟩
theorem sec_set {D : Dev} {s : List (List UInt8)} {i j : Nat} {x : List UInt8} {l : List (Nat × List UInt8)} {c : Int} (hij : i ≠ j) : ({ D with sure := s.set i x, loose := l, changes := c } : Dev).sec j = s.getD j [] := by
  unfold Dev.sec
  rw [List.getD_eq_getElem?_getD, List.getElem?_set_ne hij, ← List.getD_eq_getElem?_getD]
theorem sec_set_self {D : Dev} {s : List (List UInt8)} {i : Nat} {x : List UInt8} {l : List (Nat × List UInt8)} {c : Int} (hi : i < s.length) : ({ D with sure := s.set i x, loose := l, changes := c } : Dev).sec i = x := by
  unfold Dev.sec
  rw [List.getD_eq_getElem?_getD, List.getElem?_set_self hi]
  rfl
/-- A journal is laid on a new device. -/
def jr1 : Jr := { number := 1, side := 0, used := 0, data := [], count := 0, broken := false }
def dev1 (n : Nat) : Dev := { Dev.fresh n with sure := (Dev.fresh n).sure.set 1 (tallyB 1 0 0), loose := [], changes := 2 }
theorem fresh_sec {n j : Nat} (h : j < n) : (Dev.fresh n).sec j = zsec := by
  unfold Dev.sec
  simp only [Dev.fresh]
  rw [List.getD_eq_getElem?_getD, List.getElem?_replicate, if_pos h]
  rfl
theorem fresh_opened {n : Nat} (h1 : 6 ≤ n) (h2 : n ≤ 4096) : openJ (Dev.fresh n) = (some (jr1, []), dev1 n, 0) := by
  have hc := fresh_calm h1 h2
  have hlen : (Dev.fresh n).sure.length = n := by simp [Dev.fresh]
  have h6 : ¬ (Dev.fresh n).sure.length < 6 := by omega
  have e0 : (Dev.fresh n).at_ 0 = zsec := (hc.at_ 0).trans (fresh_sec (by omega))
  have e1 : (Dev.fresh n).at_ 1 = zsec := (hc.at_ 1).trans (fresh_sec (by omega))
  have ht : (Dev.fresh n).tally = (0, 0, 0) := by
    unfold Dev.tally
    simp only
    rw [e0, e1, tallyOf_zsec]
    rfl
  unfold openJ
  rw [if_neg h6, if_neg (by simp [hc.off])]
  simp only
  rw [ht]
  simp only
  rw [if_pos trivial, tell_calm _ hc.left hc.off hc.loose hc.six]
  rfl
theorem dev1_ok {n : Nat} (h1 : 6 ≤ n) (h2 : n ≤ 4096) : (dev1 n).Calm := by
  have hc := fresh_calm h1 h2
  refine ⟨⟨⟨?_, ?_, ?_, by simp [dev1], hc.ok.wf.left, hc.ok.wf.torn, hc.ok.wf.half, by simp [dev1], by simp [dev1]⟩, by simp [dev1], by simp [dev1, Dev.fresh]⟩, hc.left, hc.off, rfl, ?_⟩
  · simp only [dev1, Dev.fresh, List.length_set, List.length_replicate]; omega
  · simp only [dev1, Dev.fresh, List.length_set, List.length_replicate]; omega
  · intro s hs
    rcases List.mem_or_eq_of_mem_set hs with h | rfl
    · exact hc.ok.wf.full s h
    · exact tallyB_length _ _ _
  · simp only [dev1, Dev.fresh, List.length_set, List.length_replicate]; exact h1
theorem fresh_holds {n : Nat} (h1 : 6 ≤ n) (h2 : n ≤ 4096) : Holds jr1 (dev1 n) [] := by
  have hlen : (Dev.fresh n).sure.length = n := by simp [Dev.fresh]
  refine ⟨dev1_ok h1 h2, rfl, by decide, by decide, by decide, rfl, rfl, by simp [jr1], rfl, by simp, ?_, ?_, ?_⟩
  · exact sec_set_self (D := Dev.fresh n) (by omega)
  · show (tallyOf ((dev1 n).sec 0) _).1 < 1
    have e : (dev1 n).sec 0 = zsec := (sec_set (D := Dev.fresh n) (by omega)).trans (fresh_sec (by omega))
    rw [e, tallyOf_zsec]
    exact Nat.one_pos
  · exact fun k _ => agrees_past (by simp [jr1])

/-- The device behind a lay. -/
def layD (D : Dev) (side there n : Nat) (all : List UInt8) : Dev :=
  { D with sure := (Dev.settle (chunksW side D.secs all (there / 256) ((all.length + 255) / 256 - there / 256)) D.sure).set (n % 2) (tallyB n side all.length), loose := [], changes := D.changes + ((all.length + 255) / 256 - there / 256 : Nat) + 3 }
theorem lay_calm (J : Jr) {D : Dev} (h : D.Calm) (side there : Nat) (hs : side ≤ 1) (all : List UInt8) (ht : there ≤ all.length) (hn : J.number < 4611686018427387904) (hl : all.length ≤ D.secs * 256) (count : Int) :
    J.lay D side there all count = ({ J with number := J.number + 1, side := side, used := all.length, data := all, count := count }, layD D side there (J.number + 1) all, 0) := by
  unfold Jr.lay
  rw [if_neg (by omega), layW_calm side all hs (all.length + 1) (there / 256) _ D rfl (by omega) hl h.left h.off h.six]
  simp only [if_true]
  rw [Dev.barrier_calm (by exact h.left) (by exact h.off)]
  simp only [if_true]
  rw [tell_calm J (by exact h.left) (by exact h.off) rfl (by simp only; rw [Dev.settle_length]; exact h.six)]
  simp only [if_true, Prod.mk.injEq, and_true, true_and]
  unfold layD
  simp only [h.loose, List.nil_append, Dev.mk.injEq, and_true, true_and]
  omega
theorem layD_sec {D : Dev} (h : D.Calm) {side there n : Nat} (hs : side ≤ 1) {all : List UInt8} (ht : there ≤ all.length) (hl : all.length ≤ D.secs * 256) (k : Nat) (hk : k < D.secs) (s : Nat) (hs2 : s ≤ 1) :
    (layD D side there n all).sec (2 + s * D.secs + k) = if s = side ∧ there / 256 ≤ k ∧ k < (all.length + 255) / 256 then chunk all k else D.sec (2 + s * D.secs + k) := by
  have h2 := Dev.secs_two h.six
  have h4 : side * D.secs ≤ 1 * D.secs := Nat.mul_le_mul_right _ hs
  have h5 : s * D.secs ≤ 1 * D.secs := Nat.mul_le_mul_right _ hs2
  unfold layD
  rw [sec_set (by omega)]
  split
  · rename_i hc
    obtain ⟨rfl, h7, h8⟩ := hc
    exact settle_chunks s D.secs all _ _ _ k h7 (by omega) (by omega)
  · rename_i hc
    rw [settle_set]
    · rfl
    · intro p hp
      obtain ⟨q, hq1, hq2, rfl⟩ := chunksW_mem hp
      simp only
      intro e
      have hss : s = side := by
        have hm : s = 0 ∨ s = 1 := by omega
        have hm2 : side = 0 ∨ side = 1 := by omega
        rcases hm with rfl | rfl <;> rcases hm2 with rfl | rfl <;> simp only [Nat.zero_mul, Nat.one_mul] at e <;> first | rfl | omega
      subst hss
      exact hc ⟨rfl, by omega, by omega⟩
theorem layD_calm {D : Dev} (h : D.Calm) {side there n : Nat} (hs : side ≤ 1) {all : List UInt8} (ht : there ≤ all.length) (hl : all.length ≤ D.secs * 256) (hch : D.changes + 2100 ≤ 1000000000) : (layD D side there n all).Calm := by
  have h2 := Dev.secs_two h.six
  have hhi := h.ok.wf.hi
  have h4 : side * D.secs ≤ 1 * D.secs := Nat.mul_le_mul_right _ hs
  have hc := h.ok.wf.changes
  have hlen : (layD D side there n all).sure.length = D.sure.length := by simp only [layD, List.length_set]; exact Dev.settle_length _ _
  have hset := Dev.settle_wf (chunksW side D.secs all (there / 256) ((all.length + 255) / 256 - there / 256)) D.sure h.ok.wf.full (fun p hp => by
    obtain ⟨k, hk1, hk2, rfl⟩ := chunksW_mem hp
    exact ⟨by simp only; omega, chunk_length _ _⟩)
  refine ⟨⟨⟨by rw [hlen]; omega, by rw [hlen]; exact hhi, ?_, by simp [layD], h.ok.wf.left, h.ok.wf.torn, h.ok.wf.half, ?_, ?_⟩, ?_, h.ok.keptb⟩, h.left, h.off, rfl, by rw [hlen]; exact h.six⟩
  · intro s hs2
    rcases List.mem_or_eq_of_mem_set hs2 with h3 | rfl
    · exact hset.2 s h3
    · exact tallyB_length _ _ _
  · simp only [layD, List.length_nil]; omega
  · simp only [layD]; omega
  · simp only [layD, List.length_nil]; omega
theorem layD_secs (D : Dev) (side there n : Nat) (all : List UInt8) : (layD D side there n all).secs = D.secs := by
  unfold Dev.secs
  simp only [layD, List.length_set]
  rw [Dev.settle_length]
theorem layD_tally {D : Dev} (h : D.Calm) {side there n : Nat} (hs : side ≤ 1) {all : List UInt8} (ht : there ≤ all.length) (hl : all.length ≤ D.secs * 256) (j : Nat) (hj : j ≤ 1) :
    (layD D side there n all).sec j = if j = n % 2 then tallyB n side all.length else D.sec j := by
  have h2 := Dev.secs_two h.six
  unfold layD
  split
  · rename_i he
    subst he
    exact sec_set_self (by rw [Dev.settle_length]; omega)
  · rename_i he
    rw [sec_set (fun e => he e.symm), settle_set]
    · rfl
    · intro p hp
      obtain ⟨k, hk1, hk2, rfl⟩ := chunksW_mem hp
      simp only
      omega
set_option maxRecDepth 20000 in
/-- Behind a lay of all, of which the first bytes were there: all is held. -/
theorem Holds.laid {J : Jr} {D : Dev} {rs rs' : List (List UInt8)} (h : Holds J D rs) {side there : Nat} {all : List UInt8} (hs : side ≤ 1) (ht : there ≤ all.length) (hall : all = lie rs') (hsh : ∀ r ∈ rs', r.length ≤ 65531)
    (hl : all.length ≤ D.secs * 256) (hn : J.number < 4611686018427387904) (hch : D.changes + 2100 ≤ 1000000000) (hold : ∀ k, (k + 1) * 256 ≤ there → Agrees (D.sec (2 + side * D.secs + k)) all k) :
    Holds { J with number := J.number + 1, side := side, used := all.length, data := all, count := (rs'.length : Int) } (layD D side there (J.number + 1) all) rs' := by
  have h2 := Dev.secs_two h.calm.six
  refine ⟨layD_calm h.calm hs ht hl hch, h.broken, by simp only; omega, by simp only; omega, hs, rfl, hall, by rw [layD_secs]; exact hl, rfl, hsh, ?_, ?_, ?_⟩
  · simp only
    rw [layD_tally h.calm hs ht hl _ (by omega), if_pos rfl]
  · simp only
    rw [layD_secs, layD_tally h.calm hs ht hl _ (by omega), if_neg (by omega)]
    have e : 1 - (J.number + 1) % 2 = J.number % 2 := by omega
    rw [e, h.tally, tallyOf_tallyB h.n1 h.n2 h.side (by rw [h.used]; exact h.fit) (room_le h.calm)]
    simp only
    omega
  · intro k hk
    rw [layD_secs] at hk ⊢
    simp only
    rw [layD_sec h.calm hs ht hl k hk side hs]
    split
    · exact agrees_chunk all k
    · rename_i hc
      by_cases hk2 : k < there / 256
      · exact hold k (by omega)
      · exact agrees_past (by omega)
set_option maxRecDepth 20000 in
theorem agrees_more {s a b : List UInt8} {k : Nat} (hs : s.length = 256) (h : Agrees s a k) (hk : (k + 1) * 256 ≤ a.length) : Agrees s (a ++ b) k := by
  unfold Agrees at *
  rw [List.take_of_length_le (by omega)] at h
  rw [List.take_of_length_le (by rw [List.length_append]; omega), List.drop_append_of_le_length (by omega), List.take_append_of_le_length (by rw [List.length_drop]; omega)]
  exact h
theorem pack_short {rs : List (List UInt8)} (h : ∀ r ∈ rs, r.length ≤ 65531) (room : Nat) : pack rs room = packL room [] rs := by
  unfold pack
  rw [if_neg]
  rintro ⟨r, hr, hl⟩
  have := h r hr
  omega
/-- Records are added: they fit. -/
theorem Holds.add {J : Jr} {D : Dev} {rs : List (List UInt8)} (h : Holds J D rs) {more : List (List UInt8)} (hm : ∀ r ∈ more, r.length ≤ 65531) (hne : more ≠ []) (hl : (lie (rs ++ more)).length ≤ D.secs * 256) (hn : J.number < 4611686018427387904) (hch : D.changes + 2100 ≤ 1000000000) :
    ∃ J', J.add D more = (J', layD D J.side J.data.length (J.number + 1) (lie (rs ++ more)), 0) ∧ Holds J' (layD D J.side J.data.length (J.number + 1) (lie (rs ++ more))) (rs ++ more) ∧ J'.number = J.number + 1 ∧ J'.side = J.side := by
  have hall : J.data ++ lie more = lie (rs ++ more) := by rw [h.data, lie_append]
  have hp : pack more (D.secs * 256) = (lie more, 0) := by
    rw [pack_short hm]
    rcases packL_is (D.secs * 256) more [] with h1 | ⟨_, h1⟩
    · exact h1
    · rw [List.nil_append] at h1
      rw [lie_append, List.length_append] at hl
      omega
  have h2 := Dev.secs_two h.calm.six
  have h4 : J.side * D.secs ≤ 1 * D.secs := Nat.mul_le_mul_right _ h.side
  have hthere : J.data.length ≤ (lie (rs ++ more)).length := by rw [← hall, List.length_append]; omega
  refine ⟨{ J with number := J.number + 1, side := J.side, used := (lie (rs ++ more)).length, data := lie (rs ++ more), count := ((rs ++ more).length : Int) }, ?_, h.laid h.side hthere rfl ?_ hl hn hch ?_, rfl, rfl⟩
  · unfold Jr.add
    rw [if_neg (by simp [h.broken])]
    simp only
    rw [hp, if_neg (by simp [hne]), hall, lay_calm J h.calm J.side _ h.side _ hthere hn hl, h.count]
    simp
  · intro r hr
    rcases List.mem_append.1 hr with h3 | h3
    · exact h.short r h3
    · exact hm r h3
  · intro k hk
    rw [← hall]
    have hf := h.fit
    exact agrees_more (h.calm.sec_len _ (by omega)) (h.has k (by omega)) hk
/-- .. there is no room. -/
theorem Holds.add_full {J : Jr} {D : Dev} {rs : List (List UInt8)} (h : Holds J D rs) {more : List (List UInt8)} (hm : ∀ r ∈ more, r.length ≤ 65531) (hne : more ≠ []) (hl : D.secs * 256 < (lie (rs ++ more)).length) : J.add D more = (J, D, 5) := by
  have hall : J.data ++ lie more = lie (rs ++ more) := by rw [h.data, lie_append]
  unfold Jr.add
  rw [if_neg (by simp [h.broken])]
  simp only
  rw [pack_short hm]
  rcases packL_is (D.secs * 256) more [] with h1 | ⟨h1, _⟩
  · rw [h1, if_neg (by simp [hne]), List.nil_append]
    unfold Jr.lay
    rw [if_pos (.inr (by rw [hall]; exact hl))]
  · rw [h1, if_pos (.inl (by simp))]
theorem Holds.add_none {J : Jr} {D : Dev} {rs : List (List UInt8)} (h : Holds J D rs) : J.add D [] = (J, D, 0) := by
  unfold Jr.add
  rw [if_neg (by simp [h.broken])]
  simp only
  rw [if_pos (.inr trivial), pack_short (by simp)]
  rfl
theorem Holds.replace {J : Jr} {D : Dev} {rs : List (List UInt8)} (h : Holds J D rs) {more : List (List UInt8)} (hm : ∀ r ∈ more, r.length ≤ 65531) (hl : (lie more).length ≤ D.secs * 256) (hn : J.number < 4611686018427387904) (hch : D.changes + 2100 ≤ 1000000000) :
    ∃ J', J.replace D more = (J', layD D (1 - J.side) 0 (J.number + 1) (lie more), 0) ∧ Holds J' (layD D (1 - J.side) 0 (J.number + 1) (lie more)) more ∧ J'.number = J.number + 1 := by
  have hp : pack more (D.secs * 256) = (lie more, 0) := by
    rw [pack_short hm]
    rcases packL_is (D.secs * 256) more [] with h1 | ⟨_, h1⟩
    · exact h1
    · rw [List.nil_append] at h1
      omega
  refine ⟨{ J with number := J.number + 1, side := 1 - J.side, used := (lie more).length, data := lie more, count := (more.length : Int) }, ?_, h.laid (by omega) (Nat.zero_le _) rfl hm hl hn hch (fun k hk => by omega), rfl⟩
  unfold Jr.replace
  rw [if_neg (by simp [h.broken])]
  simp only
  rw [hp, if_neg (by simp), lay_calm J h.calm (1 - J.side) 0 (by omega) _ (Nat.zero_le _) hn hl]
theorem Holds.replace_full {J : Jr} {D : Dev} {rs : List (List UInt8)} (h : Holds J D rs) {more : List (List UInt8)} (hm : ∀ r ∈ more, r.length ≤ 65531) (hl : D.secs * 256 < (lie more).length) : J.replace D more = (J, D, 5) := by
  unfold Jr.replace
  rw [if_neg (by simp [h.broken])]
  simp only
  rw [pack_short hm]
  rcases packL_is (D.secs * 256) more [] with h1 | ⟨h1, _⟩
  · rw [h1, if_neg (by simp), List.nil_append]
    unfold Jr.lay
    rw [if_pos (.inr hl)]
  · rw [h1, if_pos (by simp)]
theorem Holds.wf {J : Jr} {D : Dev} {rs : List (List UInt8)} (h : Holds J D rs) (hl : rs.length ≤ 1000000000) : J.Wf := by
  have h2 := Dev.secs_two h.calm.six
  have hhi := h.calm.ok.wf.hi
  have hf := h.fit
  have hc := h.count
  exact ⟨h.n2, h.side, by omega, by omega, by omega⟩
theorem layD_changes (D : Dev) (side there n : Nat) (all : List UInt8) (h : D.Calm) (hl : all.length ≤ D.secs * 256) : (layD D side there n all).changes ≤ D.changes + D.secs + 3 := by
  simp only [layD]
  omega
theorem layD_len (D : Dev) (side there n : Nat) (all : List UInt8) : (layD D side there n all).sure.length = D.sure.length := by
  simp only [layD, List.length_set]
  exact Dev.settle_length _ _
end Go.Proofs.Yteggldplmbegfaa
