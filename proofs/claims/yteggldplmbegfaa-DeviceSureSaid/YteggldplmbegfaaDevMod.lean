/- THE DEVICE, as data: sectors as they surely are, writes that aren't sure, what is planned; and what each of its methods makes of it. No Go here. -/
namespace Go.Proofs.Yteggldplmbegfaa

structure Dev where
  sure : List (List UInt8)
  loose : List (Nat × List UInt8)
  left : Int
  kept : List Int
  torn : Int
  half : Int
  changes : Int
  off : Bool

def Dev.tear (kept : List Int) (torn half : Int) (k : Nat) : Nat :=
  if (k : Int) ∈ kept then 256 else if torn = k then (max 0 (min half 256)).toNat else 0
/-- One loose write at a cut, n bytes of it. -/
def Dev.lay (sure : List (List UInt8)) (p : Nat × List UInt8) (n : Nat) : List (List UInt8) := sure.set p.1 (p.2.take n ++ (sure.getD p.1 []).drop n)
def Dev.cutFrom (kept : List Int) (torn half : Int) : Nat → List (Nat × List UInt8) → List (List UInt8) → List (List UInt8)
  | _, [], s => s
  | k, p :: l, s => Dev.cutFrom kept torn half (k + 1) l (Dev.lay s p (Dev.tear kept torn half k))
def Dev.cut (D : Dev) (kept : List Int) (torn half : Int) : Dev :=
  if D.off then D else { D with sure := Dev.cutFrom kept torn half 0 D.loose D.sure, loose := [], left := -1, off := true }
def Dev.change (D : Dev) : Dev × Int :=
  if D.left < 0 then ({ D with changes := D.changes + 1 }, 0)
  else if D.left = 0 then (({ D with changes := D.changes + 1, left := -1 } : Dev).cut D.kept D.torn D.half, 6)
  else ({ D with changes := D.changes + 1, left := D.left - 1 }, 0)
def Dev.settle : List (Nat × List UInt8) → List (List UInt8) → List (List UInt8)
  | [], s => s
  | p :: l, s => Dev.settle l (s.set p.1 p.2)
def Dev.may (D : Dev) (i : Int) : Int := if D.off then 6 else if i < 0 ∨ (D.sure.length : Int) ≤ i then 2 else 0
def Dev.barrier (D : Dev) : Dev × Int :=
  if D.off then (D, 6) else if D.change.2 = 0 then ({ D.change.1 with sure := Dev.settle D.change.1.loose D.change.1.sure, loose := [] }, 0) else D.change
def Dev.write (D : Dev) (i : Int) (b : List UInt8) : Dev × Int :=
  if D.may i ≠ 0 then (D, D.may i) else if b.length ≠ 256 then (D, 1) else ({ D with loose := D.loose ++ [(i.toNat, b)] } : Dev).change
def Dev.now : List (Nat × List UInt8) → Nat → List UInt8 → List UInt8
  | [], _, s => s
  | p :: l, i, s => Dev.now l i (if p.1 = i then p.2 else s)
def Dev.plan (D : Dev) (after : Int) (kept : List Int) (torn half : Int) : Dev := { D with left := max after (-1), kept, torn, half }
/-- A sector of noughts. -/
def zsec : List UInt8 := List.replicate 256 0
theorem zsec_length : zsec.length = 256 := by unfold zsec; exact List.length_replicate
def Dev.fresh (n : Nat) : Dev := { sure := List.replicate n zsec, loose := [], left := -1, kept := [], torn := 0, half := 0, changes := 0, off := false }

/-- What holds of every device that there is. -/
structure Dev.Wf (D : Dev) : Prop where
  lo : 1 ≤ D.sure.length
  hi : D.sure.length ≤ 4096
  full : ∀ s ∈ D.sure, s.length = 256
  loose : ∀ p ∈ D.loose, p.1 < D.sure.length ∧ p.2.length = 256
  left : -1 ≤ D.left ∧ D.left ≤ 9223372036854775807
  torn : -9223372036854775808 ≤ D.torn ∧ D.torn ≤ 9223372036854775807
  half : -9223372036854775808 ≤ D.half ∧ D.half ≤ 9223372036854775807
  many : (D.loose.length : Int) ≤ D.changes + 1
  changes : 0 ≤ D.changes ∧ D.changes ≤ 1000000000

theorem Dev.lay_wf {s : List (List UInt8)} {p : Nat × List UInt8} {n : Nat} (hn : n ≤ 256) (hs : ∀ x ∈ s, x.length = 256) (hp : p.1 < s.length ∧ p.2.length = 256) :
    (Dev.lay s p n).length = s.length ∧ ∀ x ∈ Dev.lay s p n, x.length = 256 := by
  refine ⟨by simp [Dev.lay], fun x hx => ?_⟩
  rcases List.mem_or_eq_of_mem_set hx with h | rfl
  · exact hs x h
  · have := hs (s.getD p.1 []) (by rw [List.getD_eq_getElem?_getD, List.getElem?_eq_getElem hp.1]; simp)
    simp only [List.length_append, List.length_take, List.length_drop, this, hp.2]
    omega
theorem Dev.tear_le (kept : List Int) (torn half : Int) (k : Nat) : Dev.tear kept torn half k ≤ 256 := by
  unfold Dev.tear
  split
  · omega
  · split <;> omega
theorem Dev.cutFrom_wf (kept : List Int) (torn half : Int) : ∀ (l : List (Nat × List UInt8)) (k : Nat) (s : List (List UInt8)), (∀ x ∈ s, x.length = 256) → (∀ p ∈ l, p.1 < s.length ∧ p.2.length = 256) →
    (Dev.cutFrom kept torn half k l s).length = s.length ∧ ∀ x ∈ Dev.cutFrom kept torn half k l s, x.length = 256
  | [], k, s, hs, _ => ⟨rfl, hs⟩
  | p :: l, k, s, hs, hl => by
    have h1 := Dev.lay_wf (Dev.tear_le kept torn half k) hs (hl p (by simp))
    have h2 := Dev.cutFrom_wf kept torn half l (k + 1) _ h1.2 (fun q hq => by rw [h1.1]; exact hl q (by simp [hq]))
    exact ⟨h2.1.trans h1.1, h2.2⟩
theorem Dev.settle_wf : ∀ (l : List (Nat × List UInt8)) (s : List (List UInt8)), (∀ x ∈ s, x.length = 256) → (∀ p ∈ l, p.1 < s.length ∧ p.2.length = 256) →
    (Dev.settle l s).length = s.length ∧ ∀ x ∈ Dev.settle l s, x.length = 256
  | [], s, hs, _ => ⟨rfl, hs⟩
  | p :: l, s, hs, hl => by
    have hp := hl p (by simp)
    have h2 := Dev.settle_wf l (s.set p.1 p.2) (fun x hx => by rcases List.mem_or_eq_of_mem_set hx with h | rfl; exact hs x h; exact hp.2) (fun q hq => by rw [List.length_set]; exact hl q (by simp [hq]))
    exact ⟨h2.1.trans (by simp), h2.2⟩
theorem Dev.cut_wf {D : Dev} (h : D.Wf) (kept : List Int) (torn half : Int) : (D.cut kept torn half).Wf := by
  unfold Dev.cut
  split
  · exact h
  · have h1 := Dev.cutFrom_wf kept torn half D.loose 0 D.sure h.full h.loose
    have hc := h.changes
    exact ⟨by simp only [h1.1]; exact h.lo, by simp only [h1.1]; exact h.hi, h1.2, by simp, by simp, h.torn, h.half, by simp; omega, h.changes⟩
/-- A device between two calls: no more is loose than was written. -/
structure Dev.Ok (D : Dev) : Prop where
  wf : D.Wf
  many : (D.loose.length : Int) ≤ D.changes
  keptb : D.kept.length ≤ 1000000000000
theorem Dev.cut_ok {D : Dev} (h : D.Ok) (kept : List Int) (torn half : Int) : (D.cut kept torn half).Ok := by
  refine ⟨Dev.cut_wf h.wf _ _ _, ?_, ?_⟩
  · have := h.many
    have := h.wf.changes
    unfold Dev.cut
    split
    · omega
    · simp; omega
  · unfold Dev.cut
    split <;> exact h.keptb
/-- A change; that of a write counts a loose one more. -/
theorem Dev.change_ok {D : Dev} (h : D.Wf) (hc : D.changes < 1000000000) (hk : D.kept.length ≤ 1000000000000) : D.change.1.Ok := by
  have hl := h.left
  have hm := h.many
  have hg := h.changes
  unfold Dev.change
  split
  · exact ⟨⟨h.lo, h.hi, h.full, h.loose, h.left, h.torn, h.half, by first | omega | (simp only; omega), by first | omega | (simp only; omega)⟩, by first | omega | (simp only; omega), hk⟩
  · split
    · have hD : ({ D with changes := D.changes + 1, left := -1 } : Dev).Ok := ⟨⟨h.lo, h.hi, h.full, h.loose, by simp, h.torn, h.half, by simp only; omega, by simp only; omega⟩, by simp only; omega, hk⟩
      exact Dev.cut_ok hD _ _ _
    · exact ⟨⟨h.lo, h.hi, h.full, h.loose, by first | omega | (simp only; omega), h.torn, h.half, by first | omega | (simp only; omega), by first | omega | (simp only; omega)⟩, by first | omega | (simp only; omega), hk⟩
theorem Dev.may_zero {D : Dev} {i : Int} (h : D.may i = 0) : D.off = false ∧ 0 ≤ i ∧ i < D.sure.length := by
  unfold Dev.may at h
  split at h
  · simp at h
  · split at h
    · simp at h
    · rename_i h1 h2
      exact ⟨by simpa using h1, by omega, by omega⟩
theorem Dev.write_ok {D : Dev} (h : D.Ok) (hc : D.changes < 1000000000) (i : Int) (b : List UInt8) : (D.write i b).1.Ok := by
  unfold Dev.write
  split
  · exact h
  · split
    · exact h
    · rename_i h1 h2
      obtain ⟨h3, h4, h5⟩ := Dev.may_zero (by simpa using h1)
      have hm := h.many
      refine Dev.change_ok ⟨h.wf.lo, h.wf.hi, h.wf.full, fun p hp => ?_, h.wf.left, h.wf.torn, h.wf.half, by simp; omega, h.wf.changes⟩ hc h.keptb
      rcases List.mem_append.1 hp with h6 | h6
      · exact h.wf.loose p h6
      · simp at h6
        subst h6
        exact ⟨by first | omega | (simp only; omega), by simpa using h2⟩
theorem Dev.barrier_ok {D : Dev} (h : D.Ok) (hc : D.changes < 1000000000) : D.barrier.1.Ok := by
  unfold Dev.barrier
  split
  · exact h
  · have h1 := Dev.change_ok h.wf hc h.keptb
    split
    · have h2 := Dev.settle_wf D.change.1.loose D.change.1.sure h1.wf.full h1.wf.loose
      have h3 := h1.wf.changes
      exact ⟨⟨by simp only [h2.1]; exact h1.wf.lo, by simp only [h2.1]; exact h1.wf.hi, h2.2, by simp, h1.wf.left, h1.wf.torn, h1.wf.half, by simp; omega, h3⟩, by simp; omega, h1.keptb⟩
    · exact h1
theorem Dev.plan_ok {D : Dev} (h : D.Ok) (after : Int) (kept : List Int) (torn half : Int) (ha : after ≤ 9223372036854775807) (ht : -9223372036854775808 ≤ torn ∧ torn ≤ 9223372036854775807)
    (hh : -9223372036854775808 ≤ half ∧ half ≤ 9223372036854775807) (hk : kept.length ≤ 1000000000000) : (D.plan after kept torn half).Ok :=
  ⟨⟨h.wf.lo, h.wf.hi, h.wf.full, h.wf.loose, by simp only [Dev.plan]; omega, ht, hh, h.wf.many, h.wf.changes⟩, h.many, hk⟩
theorem Dev.fresh_ok (n : Nat) (h1 : 1 ≤ n) (h2 : n ≤ 4096) : (Dev.fresh n).Ok :=
  ⟨⟨by simpa [Dev.fresh] using h1, by simpa [Dev.fresh] using h2, fun s hs => by simp only [Dev.fresh, List.mem_replicate] at hs; rw [hs.2]; exact zsec_length, by simp [Dev.fresh], by simp [Dev.fresh], by simp [Dev.fresh], by simp [Dev.fresh], by simp [Dev.fresh], by simp [Dev.fresh]⟩, by simp [Dev.fresh], by simp [Dev.fresh]⟩
theorem Dev.write_calm {D : Dev} (h : D.left < 0) (ho : D.off = false) {i : Int} (h0 : 0 ≤ i) (h1 : i < D.sure.length) {b : List UInt8} (hb : b.length = 256) :
    D.write i b = ({ D with loose := D.loose ++ [(i.toNat, b)], changes := D.changes + 1 }, 0) := by
  have hm : D.may i = 0 := by simp only [Dev.may, ho]; rw [if_neg (by simp), if_neg (by omega)]
  unfold Dev.write
  rw [if_neg (by simp [hm]), if_neg (by simp [hb])]
  unfold Dev.change
  rw [if_pos (by simpa using h)]
theorem Dev.barrier_calm {D : Dev} (h : D.left < 0) (ho : D.off = false) : D.barrier = ({ D with sure := Dev.settle D.loose D.sure, loose := [], changes := D.changes + 1 }, 0) := by
  have hc : D.change = ({ D with changes := D.changes + 1 }, 0) := by unfold Dev.change; rw [if_pos h]
  unfold Dev.barrier
  rw [hc]
  simp [ho]
end Go.Proofs.Yteggldplmbegfaa
