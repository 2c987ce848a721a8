/- slices.Concat of frames; frames among the arguments, opened; FeedFrames. -/
import Derived.Test.YtopacbmdoognjaaDoorFeedGrow
import Derived.Test.YtopacbmdoognjaaDoorFeedTakes
namespace Go.Proofs.YtopacbmdoognjaaDoor.Fd
open Go Go.RowKit Frame Oct Frm
theorem Grow_calls (n : Nat) (hn : n ≤ 1000000) (w : World) :
    Calls Tryd.prog 91 #[.slice none 0 0, .int .i64 (n : Int)] w fun e w' =>
      ∃ v, e = .returned v ∧ w'.ownsRow w.heap.size 35 3 v 0 [] ∧ Below w.heap.size w w' := by
  obtain ⟨i0, hi0, hz0, hz1, hz2⟩ := info_parts infoF
  rcases Nat.eq_zero_or_pos n with rfl | h0
  · have h := Any8.slices_Grow_room Tryd.growFrames none 0 0 0 w (by omega) (by omega) (by omega) (by omega)
    refine h.mono ?_
    rintro e w' ⟨he, rfl⟩
    exact ⟨_, he, World.ownsRow_nil _ _ _ _, Below.refl _ _⟩
  · obtain ⟨m, rfl⟩ : ∃ m, n = m + 1 := ⟨n - 1, by omega⟩
    have h := Any8.slices_Grow_grow Tryd.growFrames i0 _ hi0 hz0 (by omega) none 0 0 (m + 1) [] w (by omega) (by omega) (by rw [hz2]; omega) (by omega) (by simp) (fun _ => rfl) (fun a ha => by cases ha)
    have e25 : Tryd.growFrames_ren.t 25 = 35 := rfl
    rw [e25] at h
    simp only [Nat.zero_add] at h
    have hge := grownCap_ge w (m + 1) 0 35
    have hle := grownCap_le_maxLen w (m + 1) 0 35 (by unfold maxLen; omega)
    generalize grownCap w (m + 1) 0 35 = G at h hge hle
    refine h.mono ?_
    rintro e w' ⟨he, rfl⟩
    refine ⟨_, he, ?_, ?_⟩
    · refine World.ownsRow_made w.drew _ _ (Nat.le_refl _) hle ?_
      simp only [Array.size_append, size_zeroCells, Value.cells]
      simp
      omega
    · exact ((Below.refl w.heap.size w).drew).alloc (Nat.le_refl _) _
set_option maxRecDepth 100000 in
set_option maxHeartbeats 1000000 in
theorem Concat_calls (p : Nat) (A B : Option Addr) (c d : Nat) (l m : List Fm) (hl : l.length ≤ 1000) (hm : m.length ≤ 1000) (hA : A = none → l.length = 0 ∧ c = 0) (hB : B = none → m.length = 0 ∧ d = 0) (w : World)
    (hp : Has p #[.slice A l.length c, .slice B m.length d] 68 w) (hN : FrS A l w) (hM : FrS B m w) :
    Calls Tryd.prog 52 #[.slice (some ⟨p, 0, none⟩) 2 2] w fun e w' =>
      ∃ v, e = .returned v ∧ FL v (l ++ m) w' ∧ Below w.heap.size w w' := by
  have c0 := hp.cell 0
  have c1 := hp.cell 1
  have HP := Lib.hid hp
  have HN := Lib.hid hN
  have HX := Lib.hid hM
  have HA := Lib.hid hA
  have HB := Lib.hid hB
  have HG := Lib.hid (fun W => Grow_calls (l.length + m.length) (by omega) W)
  have HL := Lib.hid (fcs_length l)
  have HM := Lib.hid (fcs_length m)
  have HFA := Lib.hid (fcs_append l m)
  have HLA := Lib.hid (show (l ++ m).length = l.length + m.length from List.length_append)
  obtain ⟨i0, hi0, hz0, hz1, hz2⟩ := info_parts infoF
  clear hp hN hM hA hB
  generalize l.length = n at *
  generalize m.length = k2 at *
  go_enter Tryd.func52, Tryd.ntmps52
  go_wp2_with fail
  go_loop [3, 11] (fun s i => ∃ k : Nat, k ≤ 2 ∧ i = .int .i64 k ∧ s = .int .i64 ((if k = 0 then 0 else if k = 1 then n else n + k2 : Nat) : Int)) (fun _ i => 2 - (intOf i).toNat)
  case atStart => exact ⟨0, by omega, rfl, rfl⟩
  case round =>
    obtain ⟨k, hk, rfl, rfl⟩ := hrel
    obtain rfl | rfl | rfl : k = 0 ∨ k = 1 ∨ k = 2 := by omega
    · simp only [if_pos]
      go_wp2_with fail
      exact ⟨⟨1, by omega, rfl, by simp⟩, by simp [intOf]⟩
    · simp only [Nat.one_ne_zero, if_false, if_true]
      go_wp2_with fail
      exact ⟨⟨2, by omega, rfl, by simp⟩, by simp [intOf]⟩
    · simp only [show ¬ (2 = 0) by omega, show ¬ (2 = 1) by omega, if_false]
      go_wp2_with fail
      refine (HG.out _).mono ?_
      rintro e w1 ⟨v1, rfl, hown, hbel⟩
      have OW := Lib.hid hown
      have B1 := Lib.hid hbel
      clear hown hbel
      go_wp2_with fail
      go_loopw [6, 27] (fun v i wr => ∃ k : Nat, k ≤ 2 ∧ i = .int .i64 k ∧
        Hid (Below w.heap.size w wr) ∧ Hid (wr.ownsRow w.heap.size 35 3 v (if k = 0 then 0 else if k = 1 then n else n + k2) (if k = 0 then [] else if k = 1 then fcs l else fcs l ++ fcs m))) (fun _ i _ => 2 - (intOf i).toNat)
      case atStart => exact ⟨0, by omega, rfl, B1, by simpa using OW⟩
      case round =>
        obtain ⟨k, hk, rfl, hB, hO⟩ := hrel
        have HP2 := Lib.hid (HP.out.below hB.out)
        have p0 := HP2.out.cell 0
        have p1 := HP2.out.cell 1
        have N2 := Lib.hid (HN.out.below hB.out)
        have X2 := Lib.hid (HX.out.below hB.out)
        have hs := hB.out.size
        obtain rfl | rfl | rfl : k = 0 ∨ k = 1 ∨ k = 2 := by omega
        · simp only [if_pos] at hO ⊢
          go_wp2_with (at_builtin; refine append_any _ rfl _ _ 68 rfl w.heap.size 35 i0 _ 3 24 Tryd.underlying68 hi0 hz0 hz1 hz2 rfl (by decide) _ 0 [] rfl hO.out A n c (fcs l) rfl HL.out HA.out N2.out.cells (fcs_oneCell l) (by unfold maxLen; omega) (by omega) hs ?_; intro v3 w3 hown3 hgrow3; have O3 := Lib.hid hown3; have B3 := Lib.hid (Sg.below_grown hB.out hgrow3 hs (fun g hg => (hO.out.lt g hg).1)); clear hown3 hgrow3)
          simp only [Nat.zero_add, List.nil_append] at O3
          exact ⟨⟨1, by omega, rfl, B3, by simpa using O3⟩, by simp [intOf]⟩
        · simp only [Nat.one_ne_zero, if_false, if_true] at hO ⊢
          go_wp2_with (at_builtin; refine append_any _ rfl _ _ 68 rfl w.heap.size 35 i0 _ 3 24 Tryd.underlying68 hi0 hz0 hz1 hz2 rfl (by decide) _ n (fcs l) rfl hO.out B k2 d (fcs m) rfl HM.out HB.out X2.out.cells (fcs_oneCell m) (by unfold maxLen; omega) (by omega) hs ?_; intro v3 w3 hown3 hgrow3; have O3 := Lib.hid hown3; have B3 := Lib.hid (Sg.below_grown hB.out hgrow3 hs (fun g hg => (hO.out.lt g hg).1)); clear hown3 hgrow3)
          exact ⟨⟨2, by omega, rfl, B3, by simpa using O3⟩, by simp [intOf]⟩
        · simp only [show ¬ (2 = 0) by omega, show ¬ (2 = 1) by omega, if_false] at hO ⊢
          go_wp2_with fail
          go_ret
          have hO2 := hO.out
          rw [← HFA.out] at hO2
          exact ⟨_, rfl, FL.of_own hO2, hB.out⟩
end Go.Proofs.YtopacbmdoognjaaDoor.Fd
