/- THE DOCUMENT's small functions, walked: Sum, Seal, Field, Lie. -/
import Derived.Test.YteggldplmbegfaaL4d
set_option linter.unusedVariables false
set_option linter.unusedSimpArgs false
namespace Go.Proofs.Yteggldplmbegfaa
open Go.RowKit

set_option maxRecDepth 20000 in
set_option maxHeartbeats 1000000 in
theorem rSum_any (w : World) (l : List UInt8) (hl : l.length ≤ 1000000) :
    Calls Try.prog 94 #[.string (str l)] w fun e w' => e = .returned (.int .u32 (adler l : Nat)) ∧ w' = w := by
  have hsz := str_size l
  go_enter Try.func94, Try.ntmps94
  go_wp2_with fail
  go_loopw [5, 3, 4] (fun i lo hi wr => ∃ k a b : Nat, k ≤ l.length ∧ i = .int .i64 k ∧ lo = .int .i64 a ∧ hi = .int .i64 b ∧ wr = w ∧ a ≤ 1 + 255 * k ∧ b ≤ 65521 * k ∧ Hid (a % 65521 = (adlerP (l.take k)).1 ∧ b % 65521 = (adlerP (l.take k)).2)) (fun i _ _ _ => l.length - (intOf i).toNat)
  case atStart => exact ⟨0, 1, 0, Nat.zero_le _, rfl, rfl, rfl, rfl, by omega, by omega, Lib.hid ⟨rfl, rfl⟩⟩
  case round =>
    obtain ⟨k, a, b, hk, rfl, rfl, rfl, rfl, ha, hb, hx⟩ := hrel
    by_cases hlt : k < l.length
    · have hlti : (k : Int) < (l.length : Int) := by omega
      obtain ⟨c, hc⟩ : ∃ c, c = l[k] := ⟨_, rfl⟩
      have hcs : (str l)[k]'(by rw [hsz]; exact hlt) = c := by rw [hc]; rfl
      have hcl := c.toNat_lt
      have e1 : wrap64 ((a : Int) + wrap64 ((c.toNat : Nat) : Int)) = ((a + c.toNat : Nat) : Int) := by unfold wrap64; omega
      have e2 : wrap64 ((b : Int) + ((a + c.toNat : Nat) : Int).tmod 65521) = ((b + (a + c.toNat) % 65521 : Nat) : Int) := by
        rw [Int.tmod_eq_emod_of_nonneg (by omega)]; unfold wrap64; omega
      have HX : Hid ((a + c.toNat) % 65521 = (adlerP (l.take (k + 1))).1 ∧ (b + (a + c.toNat) % 65521) % 65521 = (adlerP (l.take (k + 1))).2) := by
        have h2 := hx.out
        have e : adlerP (l.take (k + 1)) = halves (adlerP (l.take k)) c := by
          rw [List.take_succ_eq_append_getElem hlt, ← hc, adlerP, List.foldl_append]
          rfl
        show _ ∧ _
        rw [e]
        unfold halves
        simp only
        rw [← h2.1, ← h2.2]
        constructor <;> omega
      have hm : (a + c.toNat) % 65521 < 65521 := Nat.mod_lt _ (by omega)
      have E1 := Lib.hid e1
      have E2 := Lib.hid e2
      have HCS := Lib.hid hcs
      clear hc hcs hx e1 e2
      go_wp2_with fail
      refine ⟨⟨k + 1, a + c.toNat, b + (a + c.toNat) % 65521, by omega, by go_num, ?_, ?_, by first | trivial | rfl, by omega, by omega, HX⟩, ?_⟩
      · rw [HCS.out, E1.out]
      · rw [HCS.out, E1.out, E2.out]
      · simp [intOf]; omega
    · obtain rfl : k = l.length := by omega
      have h2 := hx.out
      rw [List.take_length] at h2
      have h3 := adlerP_lt l (1, 0) (by decide) (by decide)
      have e1 : ((b : Int) % 65521 * 65536 + (a : Int) % 65521) = ((adler l : Nat) : Int) := by
        unfold adler adlerP
        unfold adlerP at h2
        rw [← h2.1, ← h2.2]
        omega
      clear hx h2 h3
      go_wp2
      go_ret
      exact ⟨by rw [← e1]; rfl, rfl⟩
/-- Bytes that are typed out, as a text. -/
theorem conv_row (w : World) (bs : List UInt8) (vs : Array Value) (k : Nat) (hv : vs = (bv bs).toArray) (hk : bs.length = k) : (convert 33 9 (.slice (some ⟨w.heap.size, 0, none⟩) k k)).run Try.prog (w.alloc (.cells vs 5 (0, 0))) = .ok (.string (str bs)) (w.alloc (.cells vs 5 (0, 0))) := by
  subst hv hk
  exact run_bytes_str (P := Try.prog) _ 33 9 5 Try.underlying33 Try.underlying5 Try.underlying9 _ bs.length bs.length 5 bs rfl (row_at (heap_alloc_new _ _) rfl (Nat.le_refl _))
theorem str_append (a b : List UInt8) : str a ++ str b = str (a ++ b) := by
  apply ByteArray.ext
  simp [str, ByteArray.data_append]
theorem bv_be4 (n : Nat) (hn : n < 4294967296) : bv (be 4 n) = [.int .u8 ((n : Int) / 16777216), .int .u8 ((n : Int) / 65536 % 256), .int .u8 ((n : Int) / 256 % 256), .int .u8 ((n : Int) % 256)] := by
  simp only [be, bv, List.nil_append, List.cons_append, List.map_cons, List.map_nil, UInt8.toNat_ofNat']
  have a1 : ((n / 256 / 256 / 256 % 256 % 2 ^ 8 : Nat) : Int) = (n : Int) / 16777216 := by omega
  have a2 : ((n / 256 / 256 % 256 % 2 ^ 8 : Nat) : Int) = (n : Int) / 65536 % 256 := by omega
  have a3 : ((n / 256 % 256 % 2 ^ 8 : Nat) : Int) = (n : Int) / 256 % 256 := by omega
  have a4 : ((n % 256 % 2 ^ 8 : Nat) : Int) = (n : Int) % 256 := by omega
  rw [a1, a2, a3, a4]
set_option maxRecDepth 20000 in
set_option maxHeartbeats 1000000 in
theorem rSeal_any (w : World) (l : List UInt8) (hl : l.length ≤ 1000000) :
    Calls Try.prog 65 #[.string (str l)] w fun e w' => e = .returned (.string (str (seal_ l))) ∧ Below w.heap.size w w' := by
  have hn : adler l < 4294967296 := by
    have h3 := adlerP_lt l (1, 0) (by decide) (by decide)
    unfold adler adlerP
    omega
  go_enter Try.func65, Try.ntmps65
  go_wp2_with fail
  refine (rSum_any w l hl).mono ?_
  rintro e w1 ⟨rfl, rfl⟩
  obtain ⟨n, hnn⟩ : ∃ n, n = adler l := ⟨_, rfl⟩
  rw [← hnn] at hn ⊢
  have HN := Lib.hid hnn
  have hcv := conv_row w1 (be 4 n) #[.int .u8 ((n : Int) / 16777216), .int .u8 ((n : Int) / 65536 % 256), .int .u8 ((n : Int) / 256 % 256), .int .u8 ((n : Int) % 256)] 4 (by rw [bv_be4 n hn]) (be_length 4 n)
  have hba : Below w1.heap.size w1 (w1.alloc (.cells #[.int .u8 ((n : Int) / 16777216), .int .u8 ((n : Int) / 65536 % 256), .int .u8 ((n : Int) / 256 % 256), .int .u8 ((n : Int) % 256)] 5 (0, 0))) := (Below.refl _ _).alloc (Nat.le_refl _) _
  have HB := Lib.hid hba
  clear hnn hba
  have hgt : ((str l).size + (str (be 4 n)).size > 9223372036854775807) = False := by rw [str_size, str_size, be_length]; simp; omega
  go_wp2
  go_ret
  refine ⟨?_, HB.out⟩
  unfold seal_
  rw [← HN.out, ← str_append]
  rfl
set_option maxRecDepth 20000 in
set_option maxHeartbeats 1000000 in
theorem rField_any (w : World) (l : List UInt8) (hl : l.length ≤ 65535) :
    Calls Try.prog 64 #[.string (str l)] w fun e w' => e = .returned (.tuple #[.string (str (field l)), .bool true]) ∧ Below w.heap.size w w' := by
  have hsz := str_size l
  by_cases h255 : l.length < 255
  · have h1 : decide ((l.length : Int) > 65535) = false := decide_eq_false (by omega)
    have h2 : decide ((l.length : Int) < 255) = true := decide_eq_true (by omega)
    have hcv := conv_row w [UInt8.ofNat l.length] #[.int .u8 (l.length : Int)] 1 (by simp only [bv, List.map_cons, List.map_nil, UInt8.toNat_ofNat']; congr 2; congr 1; congr 1; omega) rfl
    have hba : Below w.heap.size w (w.alloc (.cells #[.int .u8 (l.length : Int)] 5 (0, 0))) := (Below.refl _ _).alloc (Nat.le_refl _) _
    have HB := Lib.hid hba
    clear hba
    have hgt : ((str [UInt8.ofNat l.length]).size + l.length > 9223372036854775807) = False := by rw [str_size]; simp; omega
    go_enter Try.func64, Try.ntmps64
    go_wp2
    go_ret2
    refine ⟨?_, HB.out⟩
    unfold field
    rw [if_pos h255, show UInt8.ofNat l.length :: l = [UInt8.ofNat l.length] ++ l from rfl, ← str_append]
    rfl
  · have h1 : decide ((l.length : Int) > 65535) = false := decide_eq_false (by omega)
    have h2 : decide ((l.length : Int) < 255) = false := decide_eq_false (by omega)
    have hcv := conv_row w [255, UInt8.ofNat (l.length / 256), UInt8.ofNat l.length] #[.int .u8 255, .int .u8 ((l.length : Int) / 256), .int .u8 ((l.length : Int) % 256)] 3 (by
      simp only [bv, List.map_cons, List.map_nil, UInt8.toNat_ofNat']
      have a1 : ((l.length / 256 % 2 ^ 8 : Nat) : Int) = (l.length : Int) / 256 := by omega
      have a2 : ((l.length % 2 ^ 8 : Nat) : Int) = (l.length : Int) % 256 := by omega
      rw [a1, a2]
      rfl) rfl
    have hba : Below w.heap.size w (w.alloc (.cells #[.int .u8 255, .int .u8 ((l.length : Int) / 256), .int .u8 ((l.length : Int) % 256)] 5 (0, 0))) := (Below.refl _ _).alloc (Nat.le_refl _) _
    have HB := Lib.hid hba
    clear hba
    have hgt : ((str [255, UInt8.ofNat (l.length / 256), UInt8.ofNat l.length]).size + l.length > 9223372036854775807) = False := by rw [str_size]; simp; omega
    go_enter Try.func64, Try.ntmps64
    go_wp2
    go_ret2
    refine ⟨?_, HB.out⟩
    unfold field
    rw [if_neg h255, show 255 :: UInt8.ofNat (l.length / 256) :: UInt8.ofNat l.length :: l = [255, UInt8.ofNat (l.length / 256), UInt8.ofNat l.length] ++ l from rfl, ← str_append]
    rfl
theorem lie_take (l : List (List UInt8)) (k : Nat) (hk : k < l.length) : lie (l.take (k + 1)) = lie (l.take k) ++ field (seal_ l[k]) := by
  rw [List.take_succ_eq_append_getElem hk, lie_append, lie_cons, lie_nil, List.append_nil]
theorem lie_le (l : List (List UInt8)) (h : ∀ r ∈ l, r.length ≤ 65531) : (lie l).length ≤ l.length * 65538 := by
  induction l with
  | nil => simp [lie_nil]
  | cons r l ih =>
    have h1 := ih (fun x hx => h x (by simp [hx]))
    have h2 := h r (by simp)
    have h3 : need r ≤ 65538 := by unfold need; split <;> omega
    rw [lie_cons, List.length_append, field_length, List.length_cons]
    omega
set_option maxRecDepth 20000 in
set_option maxHeartbeats 1000000 in
theorem rLie_any (w : World) (v : Value) (l : List (List UInt8)) (h : TxtIs w v l) (hl : l.length ≤ 1000000) (hsh : ∀ r ∈ l, r.length ≤ 65531) :
    Calls Try.prog 34 #[v] w fun e w' => e = .returned (.string (str (lie l))) ∧ Below w.heap.size w w' := by
  obtain ⟨A, c, rfl⟩ : ∃ B d, v = .slice B l.length d := by obtain ⟨T, hx⟩ := h; exact hx.shape
  obtain ⟨n, hn⟩ : ∃ n, n = l.length := ⟨_, rfl⟩
  rw [← hn] at hl h ⊢
  have HN := Lib.hid hn
  have H := Lib.hid h
  have HS := Lib.hid hsh
  clear hn h hsh
  go_enter Try.func34, Try.ntmps34
  go_wp2_with fail
  go_loopw [4, 3] (fun i s wr => ∃ k : Nat, k ≤ n ∧ i = .int .i64 k ∧ s = .string (str (lie (l.take k))) ∧ Below w.heap.size w wr) (fun i _ _ => n - (intOf i).toNat)
  case atStart => exact ⟨0, Nat.zero_le _, rfl, rfl, Below.refl _ _⟩
  case round =>
    obtain ⟨k, hk, rfl, rfl, hb⟩ := hrel
    by_cases hlt : k < n
    · have hlti : (k : Int) < (n : Int) := by omega
      have hkl : k < l.length := by have := HN.out; omega
      obtain ⟨g, o, hA, hc⟩ := (H.out.below hb).at_ HN.out.symm k hkl
      subst hA
      obtain ⟨r, hr⟩ : ∃ r, r = l[k] := ⟨_, rfl⟩
      rw [← hr] at hc
      have hrl : r.length ≤ 65531 := HS.out r (by rw [hr]; exact List.getElem_mem _)
      have hlk := lie_take l k hkl
      rw [← hr] at hlk
      have hle := lie_le (l.take k) (fun x hx => HS.out x (List.mem_of_mem_take hx))
      have hle2 : (lie (l.take k)).length ≤ 65538000000 := by
        have h5 : (l.take k).length ≤ 1000000 := by rw [List.length_take]; omega
        have := Nat.mul_le_mul_right 65538 h5
        omega
      have HLK := Lib.hid hlk
      have HB := Lib.hid hb
      clear hr hlk hle hb hkl
      go_wp2_with fail
      refine (rSeal_any wr r (by omega)).mono ?_
      rintro e w2 ⟨rfl, hb2⟩
      have B2 := Lib.hid (HB.out.trans (hb2.mono HB.out.size))
      clear hb2 HB
      go_wp2_with fail
      refine (rField_any w2 (seal_ r) (by rw [seal_length]; omega)).mono ?_
      rintro e w3 ⟨rfl, hb3⟩
      have B3 := Lib.hid (B2.out.trans (hb3.mono B2.out.size))
      have hgt : ((str (lie (l.take k))).size + (str (field (seal_ r))).size > 9223372036854775807) = False := by
        rw [str_size, str_size, field_length]
        have : need r ≤ 65538 := by unfold need; split <;> omega
        simp
        omega
      have hsa := str_append (lie (l.take k)) (field (seal_ r))
      rw [← HLK.out] at hsa
      clear hb3 B2
      go_wp2
      go_roundw
      case rel => exact ⟨k + 1, by omega, by go_num, by first | rfl | rw [hsa], B3.out⟩
      case measure => simp [intOf]; omega
    · obtain rfl : k = n := by omega
      rw [List.take_of_length_le (by have := HN.out; omega)]
      go_wp2
      go_ret
      exact ⟨rfl, hb⟩
end Go.Proofs.Yteggldplmbegfaa
