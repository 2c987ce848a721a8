/- slices.Grow, slices.Concat of notes. -/
import Derived.Test.YtopacbmdoognjaaNotesGrow
import Derived.Test.YtopacbmdoognjaaNotesMath
import Derived.WalkKit
import Derived.Laws.AppendOwnNone
import Derived.OwnWalk
import Derived.WalkLawsBesides
import Derived.Outline
import Derived.Lib.Hide
import Derived.Deep.RegionHeld3
import Derived.Deep.RegionWith
namespace Go.Proofs.Ytopacbmdoognjaa.Not
open Go Go.RowKit Frame
theorem infoN : (Try.prog.info? 76).map (fun i => (i.zero, i.size, i.bytes)) = some (some (.agg #[.int .u64 0, .int .u8 0, .string ⟨#[]⟩]), 3, 32) := by kernel_rfl
theorem below_grown {B : Nat} {a w w' : World} {row : Option Nat} (h : Below B a w) (hg : w.grownBy w' row) (hB : B ≤ w.heap.size) (hr : ∀ g, row = some g → B ≤ g) : Below B a w' :=
  ⟨hg.os.trans h.os, hg.tape.trans h.tape, hg.output.trans h.output, Nat.le_trans h.size hg.size, fun i hi => (hg.block i (by omega) (fun e => by have := hr i e.symm; omega)).trans (h.block i hi)⟩
theorem has_grown {b : Nat} {cs : Array Value} {t : TypeId} {w w' : World} {row : Option Nat} (h : Has b cs t w) (hg : w.grownBy w' row) (hne : some b ≠ row) : Has b cs t w' := (hg.block b h.lt hne).trans h
theorem Grow_calls (n : Nat) (hn : n ≤ 1000000) (w : World) :
    Calls Try.prog 96 #[.slice none 0 0, .int .i64 ((n + 1 : Nat) : Int)] w fun e w' =>
      ∃ cap, e = .returned (.slice (some ⟨w.heap.size, 0, none⟩) 0 cap) ∧ n + 1 ≤ cap ∧ w'.ownsRow w.heap.size 76 3 (.slice (some ⟨w.heap.size, 0, none⟩) 0 cap) 0 [] ∧ Below w.heap.size w w' ∧ w.heap.size < w'.heap.size := by
  obtain ⟨i0, hi0, hz0, hz1, hz2⟩ := info_parts infoN
  have h := Any8.slices_Grow_grow Try.growNotes i0 _ hi0 hz0 (by omega) none 0 0 (n + 1) [] w (by omega) (by omega) (by rw [hz2]; omega) (by omega) (by simp) (fun _ => rfl) (fun a ha => by cases ha)
  have e25 : Try.growNotes_ren.t 25 = 76 := rfl
  rw [e25] at h
  simp only [Nat.zero_add] at h
  have hge := grownCap_ge w (n + 1) 0 76
  have hle := grownCap_le_maxLen w (n + 1) 0 76 (by unfold maxLen; omega)
  generalize grownCap w (n + 1) 0 76 = G at h hge hle
  refine h.mono ?_
  rintro e w' ⟨he, rfl⟩
  refine ⟨G, he, hge, ?_, ?_, ?_⟩
  · refine World.ownsRow_made w.drew _ _ (Nat.le_refl _) hle ?_
    simp only [Array.size_append, size_zeroCells, Value.cells]
    simp
    omega
  · exact ((Below.refl w.heap.size w).drew).alloc (Nat.le_refl _) _
  · simp
set_option maxRecDepth 100000 in
set_option maxHeartbeats 1000000 in
theorem Concat_calls (p q : Nat) (A : Option Addr) (l : List Nt) (c : Nat) (x : Nt) (hl : l.length ≤ 1000) (hA : A = none → l.length = 0 ∧ c = 0) (w : World)
    (hp : Has p #[.slice A l.length c, .slice (some ⟨q, 0, none⟩) 1 1] 71 w) (hN : Nts A l w) (hx : Nts (some ⟨q, 0, none⟩) [x] w) :
    Calls Try.prog 85 #[.slice (some ⟨p, 0, none⟩) 2 2] w fun e w' =>
      ∃ g cap, e = .returned (.slice (some ⟨g, 0, none⟩) (l.length + 1) cap) ∧ w.heap.size ≤ g ∧ w'.ownsRow w.heap.size 76 3 (.slice (some ⟨g, 0, none⟩) (l.length + 1) cap) (l.length + 1) (css (l ++ [x])) ∧ Below w.heap.size w w' := by
  have c0 := hp.cell 0
  have c1 := hp.cell 1
  have HP := Lib.hid hp
  have HN := Lib.hid hN
  have HX := Lib.hid hx
  have HA := Lib.hid hA
  have HG := Lib.hid (fun W => Grow_calls l.length (by omega) W)
  have HC := Lib.hid (css_append l [x])
  have HL := Lib.hid (css_length l)
  obtain ⟨i0, hi0, hz0, hz1, hz2⟩ := info_parts infoN
  clear hp hN hx hA
  generalize l.length = n at *
  go_enter Try.func85, Try.ntmps85
  go_wp2_with fail
  go_loop [3, 11] (fun s i => ∃ k : Nat, k ≤ 2 ∧ i = .int .i64 k ∧ s = .int .i64 ((if k = 0 then 0 else if k = 1 then n else n + 1 : Nat) : Int)) (fun _ i => 2 - (intOf i).toNat)
  case atStart => exact ⟨0, by omega, rfl, rfl⟩
  case round =>
    obtain ⟨k, hk, rfl, rfl⟩ := hrel
    obtain rfl | rfl | rfl : k = 0 ∨ k = 1 ∨ k = 2 := by omega
    · simp only [if_pos]
      go_wp2_with fail
      exact ⟨⟨1, by omega, rfl, by simp⟩, by simp [intOf]⟩
    · simp only [Nat.one_ne_zero, if_false, if_true]
      go_wp2_with fail
      exact ⟨⟨2, by omega, rfl, by simp⟩, by simp [intOf]⟩
    · simp only [show ¬ (2 = 0) by omega, show ¬ (2 = 1) by omega, if_false]
      go_wp2_with fail
      refine (HG.out _).mono ?_
      rintro e w1 ⟨cap, rfl, hcap, hown, hbel, hlt⟩
      have OW := Lib.hid hown
      have B1 := Lib.hid hbel
      clear hown hbel
      go_wp2_with fail
      go_loopw [6, 27] (fun v i wr => ∃ k : Nat, k ≤ 2 ∧ i = .int .i64 k ∧ v = .slice (some ⟨w.heap.size, 0, none⟩) (if k = 0 then 0 else if k = 1 then n else n + 1) cap ∧
        Hid (Below w.heap.size w wr) ∧ Hid (wr.ownsRow w.heap.size 76 3 v (if k = 0 then 0 else if k = 1 then n else n + 1) (if k = 0 then [] else if k = 1 then css l else css l ++ css [x]))) (fun _ i _ => 2 - (intOf i).toNat)
      case atStart => exact ⟨0, by omega, rfl, by simp, B1, by simpa using OW⟩
      case round =>
        obtain ⟨k, hk, rfl, rfl, hB, hO⟩ := hrel
        have P2 := Lib.hid (HP.out.below hB.out)
        have p0 := P2.out.cell 0
        have p1 := P2.out.cell 1
        have N2 := Lib.hid (HN.out.below hB.out)
        have X2 := Lib.hid (HX.out.below hB.out)
        have hs := hB.out.size
        obtain rfl | rfl | rfl : k = 0 ∨ k = 1 ∨ k = 2 := by omega
        · simp only [if_pos] at hO ⊢
          go_wp2_with (at_builtin; refine wpList_append_fits_any _ rfl _ _ _ rfl w.heap.size 76 i0 3 Try.underlying71 hi0 hz1 w.heap.size 0 cap [] rfl hO.out A n c (css l) rfl HL.out HA.out N2.out.cells (css_oneCell l) (by omega) ?_; intro w3 hown3 hgrow3; have O3 := Lib.hid hown3; have B3 := Lib.hid (below_grown hB.out hgrow3 hs (fun g hg => by simp at hg; omega)); clear hown3 hgrow3)
          simp only [Nat.zero_add, List.nil_append] at O3
          exact ⟨⟨1, by omega, rfl, by simp, B3, by simpa using O3⟩, by simp [intOf]⟩
        · simp only [Nat.one_ne_zero, if_false, if_true] at hO ⊢
          go_wp2_with (at_builtin; refine wpList_append_fits_any _ rfl _ _ _ rfl w.heap.size 76 i0 3 Try.underlying71 hi0 hz1 w.heap.size n cap (css l) rfl hO.out (some ⟨q, 0, none⟩) 1 1 (css [x]) rfl (css_length [x]) (fun h => by cases h) X2.out.cells (css_oneCell [x]) (by omega) ?_; intro w3 hown3 hgrow3; have O3 := Lib.hid hown3; have B3 := Lib.hid (below_grown hB.out hgrow3 hs (fun g hg => by simp at hg; omega)); clear hown3 hgrow3)
          exact ⟨⟨2, by omega, rfl, by simp, B3, by simpa using O3⟩, by simp [intOf]⟩
        · simp only [show ¬ (2 = 0) by omega, show ¬ (2 = 1) by omega, if_false] at hO ⊢
          go_wp2_with fail
          go_ret
          exact ⟨w.heap.size, cap, rfl, Nat.le_refl _, by rw [HC.out]; exact hO.out, hB.out⟩
end Go.Proofs.Ytopacbmdoognjaa.Not
