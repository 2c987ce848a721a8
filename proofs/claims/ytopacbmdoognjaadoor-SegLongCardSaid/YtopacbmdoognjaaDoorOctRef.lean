/- The walks of the document's answer for octets: Num, Text. -/
import Derived.Test.YtopacbmdoognjaaDoorPlain
import Derived.Test.YtopacbmdoognjaaDoorProg
import Derived.WalkKit
import Derived.WalkSpells
import Derived.WalkLawsBesides
import Derived.Outline
import Derived.Lib.Hide
import Derived.Deep.RegionWith
import Derived.Laws.BytesArg
namespace Go.Proofs.YtopacbmdoognjaaDoor.Oct
open Go Go.RowKit
theorem bcell {W w1 : World} (hb : Below W.heap.size W w1) : (∀ b o, b < W.heap.size → w1.cell? ⟨b, o, none⟩ = W.cell? ⟨b, o, none⟩) ∧ (∀ b o, b < W.heap.size → w1.frozen? ⟨b, o, none⟩ = W.frozen? ⟨b, o, none⟩) :=
  ⟨fun b o h => hb.cell (p := ⟨b, o, none⟩) h, fun b o h => hb.frozen (p := ⟨b, o, none⟩) h⟩
theorem wid_step (b : Int) (h1 : 0 < b) (h2 : b ≤ 8) : wid b = wid (b - 1) + 1 := by unfold wid; omega
theorem one_byte {w : World} {a : Nat} {x : Int} (h : w.cell? ⟨a, 0, none⟩ = some (.int .u8 x)) :
    (convert 32 9 (.slice (some ⟨a, 0, none⟩) 1 1)).run Tryd.prog w = .ok (.string (bs [UInt8.ofNat x.toNat])) w := by
  have := run_convert_bytes_arg (P := Tryd.prog) w 32 5 Tryd.underlying32 Tryd.underlying5 a 0 1 1 [x] rfl (fun i hi => by
    obtain rfl : i = 0 := by omega
    simpa using h) 9 Tryd.underlying9
  rw [this]
  rfl
set_option maxRecDepth 100000 in
set_option maxHeartbeats 1000000 in
theorem RefNum_calls (k : Nat) : ∀ (n : Nat) (b : Int) (w : World), wid b ≤ k → b ≤ 8 → n < 18446744073709551616 →
    Calls Tryd.prog 79 #[.int .u64 (n : Int), .int .i64 b] w fun e w' => e = .returned (.string (bs (be (wid b) n))) ∧ Below w.heap.size w w' := by
  induction k with
  | zero =>
    intro n b w hk h8 hn
    have h0 : b ≤ 0 := by unfold wid at hk; omega
    have e0 : wid b = 0 := by omega
    rw [e0]
    clear e0 hk
    go_enter Tryd.func79, Tryd.ntmps79
    go_wp2_with fail
    go_ret
    exact ⟨rfl, Below.refl _ _⟩
  | succ k ih =>
    intro n b w hk h8 hn
    by_cases h0 : b ≤ 0
    · have e0 : wid b = 0 := by unfold wid; omega
      rw [e0]
      clear e0 hk
      go_enter Tryd.func79, Tryd.ntmps79
      go_wp2_with fail
      go_ret
      exact ⟨rfl, Below.refl _ _⟩
    · have hw := wid_step b (by omega) h8
      have IH := Lib.hid (show ∀ W, Calls Tryd.prog 79 #[.int .u64 ((n : Int) / 256), .int .i64 (b - 1)] W fun e w' => e = .returned (.string (bs (be (wid (b - 1)) (n / 256)))) ∧ Below W.heap.size W w' from
        fun W => by have := ih (n / 256) (b - 1) W (by omega) (by omega) (by omega); rw [Int.natCast_ediv] at this; exact this)
      have HE := Lib.hid (show be (wid b) n = be (wid (b - 1)) (n / 256) ++ [UInt8.ofNat n] by rw [hw]; rfl)
      have hl : (be (wid (b - 1)) (n / 256)).length ≤ 8 := by rw [be_length]; exact wid_le _
      clear ih hw hk
      go_enter Tryd.func79, Tryd.ntmps79
      go_wp2_with fail
      have e1 : IntKind.u64.wrap ((n : Int) / 256) = (n : Int) / 256 := by rw [IntKind.wrap_u64]; omega
      have e2 : IntKind.i64.wrap (b - 1) = b - 1 := IntWalk.i64_in _ (by omega)
      have e3 : IntKind.u8.wrap ((n : Int).tmod 256) = ((UInt8.ofNat n).toNat : Int) := by
        rw [IntKind.wrap_u8', UInt8.toNat_ofNat', Int.tmod_eq_emod_of_nonneg (by omega)]
        omega
      have hcb : ∀ (W : World) (a : Nat), W.cell? ⟨a, 0, none⟩ = some (.int .u8 ((n : Int) % 256)) → (convert 32 9 (.slice (some ⟨a, 0, none⟩) 1 1)).run Tryd.prog W = .ok (.string (bs [UInt8.ofNat n])) W := fun W a h => by
        rw [one_byte h]
        congr 4
        apply UInt8.toNat_inj.1
        rw [UInt8.toNat_ofNat', UInt8.toNat_ofNat']
        omega
      have hcat : (bs (be (wid (b - 1)) (n / 256))).size + (bs [UInt8.ofNat n]).size ≤ 9223372036854775807 := by rw [bs_size, bs_size]; simp; omega
      go_region_with
        (first | (go_at_call 79; refine (IH.out _).mono ?_; rintro e' w2 ⟨rfl, hb1⟩; obtain ⟨hc1, hf1⟩ := bcell hb1))
      all_goals
        go_wp2_with fail
        go_ret
        refine ⟨by rw [HE.out, ← bs_append]; rfl, ?_⟩
        first
          | exact ((Below.refl _ w).drew).trans hb1
          | exact (((Below.refl _ w).drew).trans hb1).alloc hb1.size _
          | exact ((Below.refl _ w).alloc (Nat.le_refl _) _).drew.trans (hb1.mono (by simp))
          | (go_show; fail)

set_option maxRecDepth 100000 in
set_option maxHeartbeats 1000000 in
theorem RefNum_big (n : Nat) (b : Int) (w : World) (h8 : 8 < b) (hn : n < 18446744073709551616) :
    Calls Tryd.prog 79 #[.int .u64 (n : Int), .int .i64 b] w fun e w' => e = .returned (.string (bs (be (wid b) n))) ∧ Below w.heap.size w w' := by
  have IH := Lib.hid (show ∀ W, Calls Tryd.prog 79 #[.int .u64 ((n : Int) / 256), .int .i64 7] W fun e w' => e = .returned (.string (bs (be 7 (n / 256)))) ∧ Below W.heap.size W w' from
    fun W => by have := RefNum_calls 7 (n / 256) 7 W (by decide) (by omega) (by omega); rw [Int.natCast_ediv] at this; exact this)
  have HE := Lib.hid (show be (wid b) n = be 7 (n / 256) ++ [UInt8.ofNat n] by rw [show wid b = 8 by unfold wid; omega]; rfl)
  have hl : (be 7 (n / 256)).length ≤ 8 := by rw [be_length]; omega
  go_enter Tryd.func79, Tryd.ntmps79
  go_wp2_with fail
  have e1 : IntKind.u64.wrap ((n : Int) / 256) = (n : Int) / 256 := by rw [IntKind.wrap_u64]; omega
  have e3 : IntKind.u8.wrap ((n : Int).tmod 256) = ((UInt8.ofNat n).toNat : Int) := by
    rw [IntKind.wrap_u8', UInt8.toNat_ofNat', Int.tmod_eq_emod_of_nonneg (by omega)]
    omega
  have hcb : ∀ (W : World) (a : Nat), W.cell? ⟨a, 0, none⟩ = some (.int .u8 ((n : Int) % 256)) → (convert 32 9 (.slice (some ⟨a, 0, none⟩) 1 1)).run Tryd.prog W = .ok (.string (bs [UInt8.ofNat n])) W := fun W a h => by
    rw [one_byte h]
    congr 4
    apply UInt8.toNat_inj.1
    rw [UInt8.toNat_ofNat', UInt8.toNat_ofNat']
    omega
  have hcat : (bs (be 7 (n / 256))).size + (bs [UInt8.ofNat n]).size ≤ 9223372036854775807 := by rw [bs_size, bs_size]; simp; omega
  go_region_with
    (first | (go_at_call 79; refine (IH.out _).mono ?_; rintro e' w2 ⟨rfl, hb1⟩; obtain ⟨hc1, hf1⟩ := bcell hb1))
  all_goals
    go_wp2_with fail
    go_ret
    refine ⟨by rw [HE.out, ← bs_append]; rfl, ?_⟩
    first
      | exact ((Below.refl _ w).drew).trans hb1
      | exact (((Below.refl _ w).drew).trans hb1).alloc hb1.size _
      | exact ((Below.refl _ w).alloc (Nat.le_refl _) _).drew.trans (hb1.mono (by simp))
theorem RefNum_any (n : Nat) (b : Int) (w : World) (hn : n < 18446744073709551616) :
    Calls Tryd.prog 79 #[.int .u64 (n : Int), .int .i64 b] w fun e w' => e = .returned (.string (bs (be (wid b) n))) ∧ Below w.heap.size w w' := by
  by_cases h : 8 < b
  · exact RefNum_big n b w h hn
  · exact RefNum_calls (wid b) n b w (Nat.le_refl _) (by omega) hn
set_option maxHeartbeats 400000 in
theorem RefText_calls (s : ByteArray) (hs : s.size ≤ 4000000000000000000) (w : World) :
    Calls Tryd.prog 96 #[.string s] w fun e w' => e = .returned (.string (bs (txt s.data.toList))) ∧ Below w.heap.size w w' := by
  have hcat : (bs (be (wid 2) s.size)).size + s.size ≤ 9223372036854775807 := by rw [bs_size, be_length]; have := wid_le 2; omega
  go_enter Tryd.func96, Tryd.ntmps96
  go_wp2_with fail
  refine (RefNum_any s.size 2 _ (by omega)).mono ?_
  rintro e w1 ⟨rfl, hb1⟩
  go_wp2_with fail
  go_ret
  exact ⟨by rw [← bs_self s, bs_append]; simp [txt, bs_self]; rfl, hb1⟩
end Go.Proofs.YtopacbmdoognjaaDoor.Oct
