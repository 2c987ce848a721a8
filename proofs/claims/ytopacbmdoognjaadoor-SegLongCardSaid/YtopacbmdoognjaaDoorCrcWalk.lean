/- The walk of crc.Step: what the Go text computes is the plain step. -/
import Derived.Test.YtopacbmdoognjaaDoorProg
import Derived.Test.YtopacbmdoognjaaDoorPlain
import Derived.WalkKit
import Derived.WalkSpells
import Derived.WalkLawsBesides
import Derived.Outline
import Derived.Lib.Hide
namespace Go.Proofs.YtopacbmdoognjaaDoor.Crc
open Go Go.RowKit
/-- The package's table lies where it must. -/
def Tab (w : World) : Prop := ∀ i, i < 16 → w.cell? ⟨0, i, none⟩ = some (.int .u32 ((tabAt i : Nat) : Int))

theorem and15 (X : Nat) : X &&& 15 = X % 16 := Nat.and_two_pow_sub_one_eq_mod X 4

set_option maxHeartbeats 400000 in
theorem Step_calls (r b : Nat) (hr : r < 4294967296) (hb : b < 256) (w : World) (hT : Tab w) :
    Calls Tryd.prog 25 #[.int .u32 (r : Int), .int .u8 (b : Int)] w fun e w' => e = .returned (.int .u32 ((step r b : Nat) : Int)) ∧ w = w' := by
  have HT := Lib.hid hT
  clear hT
  have hx : r ^^^ b < 4294967296 := Nat.xor_lt_two_pow (n := 32) hr (by omega)
  have e0 := u32_xor_nat r b hr (by omega)
  go_enter Tryd.func25, Tryd.ntmps25
  go_wp2
  clear e0
  go_loop [0, 9] (fun x i => ∃ k : Nat, k ≤ 2 ∧ i = .int .i64 k ∧ x = .int .u32 ((Crc.bits (4 * k) (r ^^^ b) : Nat) : Int)) (fun _ i => (2 - intOf i).toNat)
  case atStart => exact ⟨0, by omega, rfl, rfl⟩
  case round =>
    obtain ⟨k, hk, rfl, rfl⟩ := hrel
    have hXl : Crc.bits (4 * k) (r ^^^ b) < 4294967296 := bits_lt _ _ hx
    by_cases hlt : k < 2
    · have hn : Crc.bits (4 * (k + 1)) (r ^^^ b) = (Crc.bits (4 * k) (r ^^^ b) / 16) ^^^ tabAt (Crc.bits (4 * k) (r ^^^ b) % 16) := by
        rw [show 4 * (k + 1) = 4 * k + 4 from rfl, bits_add, nib_eq]
      have HN := Lib.hid hn
      clear hn
      generalize Crc.bits (4 * k) (r ^^^ b) = X at *
      have e1 : Go.bits .and .u32 (X : Int) 15 = (X : Int) % 16 := by
        have := u32_and_nat X 15 hXl (by omega)
        rw [and15] at this
        simpa using this
      have hc := HT.out (X % 16) (Nat.mod_lt _ (by decide))
      have ht := tabAt_lt (X % 16)
      have e2 : Go.bits .xor .u32 ((X : Int) / 16) (tabAt (X % 16) : Int) = ((X / 16 ^^^ tabAt (X % 16) : Nat) : Int) := by
        simpa using u32_xor_nat (X / 16) (tabAt (X % 16)) (by omega) ht
      go_wp2
      clear e1 e2
      go_round
      case rel => exact ⟨k + 1, by omega, by go_num, by rw [HN.out]⟩
      case measure => simp [intOf]; omega
    · obtain rfl : k = 2 := by omega
      go_wp2
      go_ret
      exact ⟨rfl, rfl⟩

set_option maxHeartbeats 400000 in
theorem refStep_calls (r b : Nat) (hr : r < 4294967296) (hb : b < 256) (w : World) :
    Calls Tryd.prog 26 #[.int .u32 (r : Int), .int .u8 (b : Int)] w fun e w' => e = .returned (.int .u32 ((step r b : Nat) : Int)) ∧ w = w' := by
  have hx : r ^^^ b < 4294967296 := Nat.xor_lt_two_pow (n := 32) hr (by omega)
  have e0 := u32_xor_nat r b hr (by omega)
  go_enter Tryd.func26, Tryd.ntmps26
  go_wp2
  clear e0
  go_loop [0, 5] (fun x i => ∃ k : Nat, k ≤ 8 ∧ i = .int .i64 k ∧ x = .int .u32 ((Crc.bits k (r ^^^ b) : Nat) : Int)) (fun _ i => (8 - intOf i).toNat)
  case atStart => exact ⟨0, by omega, rfl, rfl⟩
  case round =>
    obtain ⟨k, hk, rfl, rfl⟩ := hrel
    have hXl : Crc.bits k (r ^^^ b) < 4294967296 := bits_lt _ _ hx
    by_cases hlt : k < 8
    · have hn : Crc.bits (k + 1) (r ^^^ b) = bit (Crc.bits k (r ^^^ b)) := by
        rw [bits_add]; rfl
      have HN := Lib.hid hn
      clear hn
      generalize Crc.bits k (r ^^^ b) = X at *
      have e2 : Go.bits .xor .u32 ((X : Int) / 2) 3988292384 = ((X / 2 ^^^ poly : Nat) : Int) := by
        simpa [poly] using u32_xor_nat (X / 2) poly (by omega) (by decide)
      by_cases h1 : X % 2 = 1
      · have h1' : ((X : Int) % 2 == 1) = true := by simp; omega
        go_wp2
        clear e2
        go_round
        case rel => exact ⟨k + 1, by omega, by go_num, by rw [HN.out]; simp [bit, h1]⟩
        case measure => simp [intOf]; omega
      · have h1' : ((X : Int) % 2 == 1) = false := by simp; omega
        go_wp2
        clear e2
        go_round
        case rel => exact ⟨k + 1, by omega, by go_num, by rw [HN.out]; simp [bit, h1]⟩
        case measure => simp [intOf]; omega
    · obtain rfl : k = 8 := by omega
      go_wp2
      go_ret
      exact ⟨rfl, rfl⟩

/-- A slice of strings that is read. -/
def Strs (w : World) (A : Option Addr) (ss : List ByteArray) : Prop :=
  0 < ss.length → ∃ b off, A = some ⟨b, off, none⟩ ∧ ∀ i, i < ss.length → w.cell? ⟨b, off + i, none⟩ = some (.string (ss.getD i ByteArray.empty))
def cat (ss : List ByteArray) : List UInt8 := ss.flatMap fun s => s.data.toList
theorem cat_take_succ (ss : List ByteArray) (k : Nat) (h : k < ss.length) : cat (ss.take (k + 1)) = cat (ss.take k) ++ (ss.getD k ByteArray.empty).data.toList := by
  unfold cat
  rw [List.take_succ_eq_append_getElem h, List.flatMap_append]
  simp [List.getD_eq_getElem?_getD, h]
theorem take_snoc (s : ByteArray) (k : Nat) (h : k < s.size) : s.data.toList.take (k + 1) = s.data.toList.take k ++ [s[k]] := by
  rw [List.take_succ_eq_append_getElem (by simpa using h)]; rfl
theorem take_size (s : ByteArray) : s.data.toList.take s.size = s.data.toList := by
  rw [List.take_of_length_le]; simp

set_option maxHeartbeats 400000 in
theorem refSum_calls (s : ByteArray) (hs : s.size ≤ maxLen) (w : World) :
    Calls Tryd.prog 24 #[.string s] w fun e w' => e = .returned (.int .u32 ((sum s.data.toList : Nat) : Int)) ∧ w = w' := by
  unfold maxLen at hs
  go_enter Tryd.func24, Tryd.ntmps24
  go_wp2
  go_loop [3, 4] (fun x i => ∃ k : Nat, k ≤ s.size ∧ i = .int .i64 k ∧ x = .int .u32 ((over 4294967295 (s.data.toList.take k) : Nat) : Int)) (fun _ i => s.size - (intOf i).toNat)
  case atStart => exact ⟨0, by omega, rfl, by simp [over]⟩
  case round =>
    obtain ⟨k, hk, rfl, rfl⟩ := hrel
    have hXl : over 4294967295 (s.data.toList.take k) < 4294967296 := over_lt _ _ (by decide)
    by_cases hlt : k < s.size
    · have hn : over 4294967295 (s.data.toList.take (k + 1)) = step (over 4294967295 (s.data.toList.take k)) s[k].toNat := by
        rw [take_snoc s k hlt, over_snoc]
      have HN := Lib.hid hn
      clear hn
      generalize over 4294967295 (s.data.toList.take k) = X at *
      go_wp2_with (go_at_call 26; refine (refStep_calls _ _ hXl (by have := s[k].toNat_lt; omega) _).mono ?_; rintro e w' ⟨rfl, rfl⟩)
      go_round
      case rel => exact ⟨k + 1, by omega, by go_num, by rw [HN.out]⟩
      case measure => simp [intOf]; omega
    · obtain rfl : k = s.size := by omega
      rw [take_size]
      have he : over 4294967295 s.data.toList < 4294967296 := over_lt _ _ (by decide)
      have HE := Lib.hid (show sum s.data.toList = 4294967295 ^^^ over 4294967295 s.data.toList from rfl)
      generalize over 4294967295 s.data.toList = X at *
      have e2 : Go.bits .xor .u32 (X : Int) 4294967295 = ((4294967295 ^^^ X : Nat) : Int) := by
        have := u32_xor_nat X 4294967295 he (by decide)
        rw [Nat.xor_comm] at this
        simpa using this
      go_wp2
      go_ret
      exact ⟨by rw [HE.out]; rfl, rfl⟩

set_option maxHeartbeats 1000000 in
theorem Sum_calls (A : Option Addr) (c : Nat) (ss : List ByteArray) (hlen : ss.length ≤ maxLen) (hss : ∀ s ∈ ss, s.size ≤ maxLen) (w : World) (hT : Tab w) (hA : Strs w A ss) :
    Calls Tryd.prog 23 #[.slice A ss.length c] w fun e w' => e = .returned (.int .u32 ((sum (cat ss) : Nat) : Int)) ∧ w = w' := by
  unfold maxLen at hlen
  have HS := Lib.hid hss
  have HA := Lib.hid hA
  have HT := Lib.hid hT
  clear hss hA hT
  go_enter Tryd.func23, Tryd.ntmps23
  go_wp2
  go_loop [3, 9] (fun x i => ∃ k : Nat, k ≤ ss.length ∧ i = .int .i64 k ∧ x = .int .u32 ((over 4294967295 (cat (ss.take k)) : Nat) : Int)) (fun _ i => ss.length - (intOf i).toNat)
  case atStart => exact ⟨0, by omega, rfl, by simp [over, cat]⟩
  case round =>
    obtain ⟨k, hk, rfl, rfl⟩ := hrel
    by_cases hlt : k < ss.length
    · have hn := cat_take_succ ss k hlt
      have HN := Lib.hid hn
      obtain ⟨b, off, rfl, hc⟩ := HA.out (by omega)
      have hck := hc k hlt
      have hsz : (ss.getD k ByteArray.empty).size ≤ maxLen := HS.out _ (by simp [List.getD_eq_getElem?_getD, hlt])
      unfold maxLen at hsz
      clear hc hn
      generalize ss.getD k ByteArray.empty = s at *
      generalize cat (ss.take k) = pre at *
      go_wp2
      go_loop [3, 15] (fun x i => ∃ j : Nat, j ≤ s.size ∧ i = .int .i64 j ∧ x = .int .u32 ((over 4294967295 (pre ++ s.data.toList.take j) : Nat) : Int)) (fun _ i => s.size - (intOf i).toNat)
      case atStart => exact ⟨0, by omega, rfl, by simp⟩
      case round =>
        obtain ⟨j, hj, rfl, rfl⟩ := hrel
        have hXl : over 4294967295 (pre ++ s.data.toList.take j) < 4294967296 := over_lt _ _ (by decide)
        by_cases hjt : j < s.size
        · have hm : over 4294967295 (pre ++ s.data.toList.take (j + 1)) = step (over 4294967295 (pre ++ s.data.toList.take j)) s[j].toNat := by
            rw [take_snoc s j hjt, ← List.append_assoc, over_snoc]
          have HM := Lib.hid hm
          clear hm
          generalize over 4294967295 (pre ++ s.data.toList.take j) = X at *
          go_wp2_with (go_at_call 25; refine (Step_calls _ _ hXl (by have := s[j].toNat_lt; omega) _ HT.out).mono ?_; rintro e w' ⟨rfl, rfl⟩)
          go_round
          case rel => exact ⟨j + 1, by omega, by go_num, by rw [HM.out]⟩
          case measure => simp [intOf]; omega
        · obtain rfl : j = s.size := by omega
          rw [take_size]
          go_wp2
          go_round
          case rel => exact ⟨k + 1, by omega, by go_num, by rw [HN.out]⟩
          case measure => simp [intOf]; omega
    · obtain rfl : k = ss.length := by omega
      rw [List.take_length]
      have he : over 4294967295 (cat ss) < 4294967296 := over_lt _ _ (by decide)
      have HE := Lib.hid (show sum (cat ss) = 4294967295 ^^^ over 4294967295 (cat ss) from rfl)
      generalize over 4294967295 (cat ss) = X at *
      have e2 : Go.bits .xor .u32 (IntKind.max .u32) (X : Int) = ((4294967295 ^^^ X : Nat) : Int) := by
        have := u32_xor_nat 4294967295 X (by decide) he
        simpa [IntKind.max, IntKind.signed, IntKind.bits] using this
      go_wp2
      go_ret
      exact ⟨by rw [HE.out]; rfl, rfl⟩
end Go.Proofs.YtopacbmdoognjaaDoor.Crc
