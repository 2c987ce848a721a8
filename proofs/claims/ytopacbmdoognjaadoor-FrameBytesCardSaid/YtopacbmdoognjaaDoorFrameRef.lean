/- The walk of stairwellref07.Parse. -/
import Derived.Test.YtopacbmdoognjaaDoorFrameWalk
import Derived.Test.YtopacbmdoognjaaDoorOctRef
import Derived.Deep.QuietTactic
import Derived.BigQuiet
import Derived.Deep.RegionHeld3
namespace Go.Proofs.YtopacbmdoognjaaDoor.Frm
open Go Go.RowKit Frame Oct
theorem drewN_bel {B : Nat} {a w : World} (h : Below B a w) (n : Nat) : Below B a (w.drewN n) := ⟨h.os, h.tape, h.output, h.size, h.block⟩
theorem drewN_has {b : Nat} {cs : Array Value} {t : TypeId} {w : World} (h : Has b cs t w) (n : Nat) : Has b cs t (w.drewN n) := h
theorem bs_beq (a b : List UInt8) : ((bs a).toList == (bs b).toList) = (a == b) := by rw [ByteArray.toList_eq, ByteArray.toList_eq]; rfl
theorem after_drew {w w2 : World} (h : Below w.drew.heap.size w.drew w2) : Below w.heap.size w w2 := ⟨h.os, h.tape, h.output, h.size, h.block⟩
theorem zf0 {b : Nat} {t : TypeId} {w : World} (h : Has b zeroF t w) : w.cell? ⟨b, 0, none⟩ = some (.int .u8 0) := h.cell 0
theorem zf1 {b : Nat} {t : TypeId} {w : World} (h : Has b zeroF t w) : w.cell? ⟨b, 1, none⟩ = some (.int .u8 0) := h.cell 1
theorem zf2 {b : Nat} {t : TypeId} {w : World} (h : Has b zeroF t w) : w.cell? ⟨b, 2, none⟩ = some (.string ⟨#[]⟩) := h.cell 2
/-- A byte of a string, by its place. -/
theorem idx (l : List UInt8) (i : Int) (k : Nat) (hi : i = (k : Int)) (hk : k < l.length) (w : World) : (Instr.index 9 (.string (bs l)) (.int .i64 i)).run Tryd.prog w = .ok (.int .u8 ((l.getD k 0).toNat : Int)) w := by
  subst hi
  have hs : k < (bs l).size := by rw [bs_size]; exact hk
  rw [run_index_string _ _ _ _ _ Tryd.underlying9, dif_pos ⟨by omega, by omega⟩]
  congr 3
  simp only [Int.toNat_natCast, List.getD_eq_getElem?_getD, List.getElem?_eq_getElem hk, Option.getD_some]
  rfl
theorem len_eq (l : List UInt8) (h : ¬ l.length < 4) : len l = (l.getD 2 0).toNat * 256 + (l.getD 3 0).toNat := by
  match l, h with
  | a :: b :: c :: d :: l, _ => simp [len, num]
  | [], h => simp at h
  | [_], h => simp at h
  | [_, _], h => simp at h
  | [_, _, _], h => simp at h
set_option maxRecDepth 100000 in
set_option maxHeartbeats 4000000 in
theorem refParse_calls (l : List UInt8) (hl : l.length ≤ 1000000000) (w : World) :
    Calls Tryd.prog 29 #[.string (bs l)] w fun e w' => e = .returned (.tuple #[FV (parse l).1, .int .i64 (parse l).2.1, .int .i64 (parse l).2.2]) ∧ Below w.heap.size w w' := by
  have hzl : (bs l).size = l.length := bs_size _
  by_cases h4 : l.length < 4
  · have HE := Lib.hid (show parse l = (zero, 0, 3) by unfold parse; rw [if_pos h4])
    go_enter Tryd.func29, Tryd.ntmps29
    go_wp2_with fail
    refine bodyPost_ret (v := .tuple #[FV zero, .int .i64 0, .int .i64 3]) (by simp [results, Tryd.results29, go_sem, FV, zero, bs]) rfl ?_
    rw [HE.out]
    exact ⟨rfl, (Below.refl _ _).alloc (Nat.le_refl _) _⟩
  · have q2 := idx l 2 2 rfl (by omega)
    have q3 := idx l 3 3 rfl (by omega)
    have HLE := Lib.hid (len_eq l h4)
    have u2 := (l.getD 2 0).toNat_lt
    have u3 := (l.getD 3 0).toNat_lt
    obtain ⟨n, hn⟩ : ∃ n, len l = n := ⟨_, rfl⟩
    have hnn : ((l.getD 2 0).toNat : Int) * 256 + ((l.getD 3 0).toNat : Int) = (n : Int) := by rw [← hn, HLE.out]; omega
    have hn6 : n < 65536 := by omega
    generalize (l.getD 2 0).toNat = c2 at *
    generalize (l.getD 3 0).toNat = c3 at *
    have hp : parse l = if 2048 < n then (zero, 0, 5) else if l.length < n + 9 then (zero, 0, 3) else if l.getD (n + 8) 0 ≠ 206 then (zero, 0, 4)
      else if (l.drop (n + 4)).take 4 ≠ be 4 (Crc.sum (l.take (n + 4))) then (zero, 0, 14) else (⟨l.getD 0 0, l.getD 1 0, (l.drop 4).take n⟩, n + 9, 0) := by
      unfold parse
      rw [if_neg h4, hn]
    clear hn HLE
    by_cases h5 : 2048 < n
    · have HE := Lib.hid (hp.trans (if_pos h5))
      clear hp
      go_enter Tryd.func29, Tryd.ntmps29
      go_wp2_with fail
      go_quiet (fail)
      go_wp2_with fail
      refine bodyPost_ret (v := .tuple #[FV zero, .int .i64 0, .int .i64 5]) (by simp [results, Tryd.results29, go_sem, FV, zero, bs]) rfl ?_
      rw [HE.out]
      exact ⟨rfl, below3 (drewN_bel ((Below.refl _ _).alloc (Nat.le_refl _) _) _) (Nat.le_refl _) _ _ _⟩
    · rw [if_neg h5] at hp
      by_cases h9 : l.length < n + 9
      · have HE := Lib.hid (hp.trans (if_pos h9))
        clear hp
        go_enter Tryd.func29, Tryd.ntmps29
        go_wp2_with fail
        go_quiet (fail)
        go_wp2_with fail
        refine bodyPost_ret (v := .tuple #[FV zero, .int .i64 0, .int .i64 3]) (by simp [results, Tryd.results29, go_sem, FV, zero, bs]) rfl ?_
        rw [HE.out]
        exact ⟨rfl, below3 (drewN_bel ((Below.refl _ _).alloc (Nat.le_refl _) _) _) (Nat.le_refl _) _ _ _⟩
      · rw [if_neg h9] at hp
        have q8 := idx l ((n : Int) + 8) (n + 8) (by omega) (by omega)
        by_cases h2 : l.getD (n + 8) 0 ≠ 206
        · have HE := Lib.hid (hp.trans (if_pos h2))
          have h2' : (((l.getD (n + 8) 0).toNat : Int) != 206) = true := by
            have : (l.getD (n + 8) 0).toNat ≠ 206 := fun e => h2 (UInt8.toNat_inj.1 e)
            exact bne_iff_ne.2 (by omega)
          clear hp h2
          generalize (l.getD (n + 8) 0).toNat = c8 at *
          go_enter Tryd.func29, Tryd.ntmps29
          go_wp2_with fail
          go_quiet (fail)
          go_wp2_with fail
          refine bodyPost_ret (v := .tuple #[FV zero, .int .i64 0, .int .i64 4]) (by simp [results, Tryd.results29, go_sem, FV, zero, bs]) rfl ?_
          rw [HE.out]
          exact ⟨rfl, below3 (drewN_bel ((Below.refl _ _).alloc (Nat.le_refl _) _) _) (Nat.le_refl _) _ _ _⟩
        · rw [if_neg h2] at hp
          have HPP := Lib.hid hp
          have h2' : (((l.getD (n + 8) 0).toNat : Int) != 206) = false := by
            have h3 : l.getD (n + 8) 0 = 206 := by simpa using h2
            rw [h3]
            decide
          clear hp h2
          generalize (l.getD (n + 8) 0).toNat = c8 at *
          go_enter Tryd.func29, Tryd.ntmps29
          go_wp2_with fail
          go_quiet (fail)
          go_wp2_with fail
          have HZ := Lib.hid (drewN_has (Has.new w zeroF 39) nq)
          have HB := Lib.hid (drewN_bel ((Below.refl w.heap.size w).alloc (Nat.le_refl _) (.cells zeroF 39)) nq)
          change Code.wp _ _ _ _ ((w.alloc (.cells zeroF 39)).drewN nq)
          generalize (w.alloc (.cells zeroF 39)).drewN nq = w1 at *
          have g1 : (0 : Int) ≤ (n : Int) + 4 := by omega
          have g2 : (n : Int) + 4 ≤ (n : Int) + 8 := by omega
          have g3 : (n : Int) + 8 ≤ (l.length : Int) := by omega
          have g4 : (n : Int) + 4 ≤ (l.length : Int) := by omega
          have g5 : ((n : Int) + 4).toNat = n + 4 := by omega
          have g6 : ((n : Int) + 8).toNat = n + 8 := by omega
          have g7 : IntKind.i64.wrap ((n : Int) + 4) = (n : Int) + 4 := IntWalk.i64_in _ (by omega)
          have g8 : IntKind.i64.wrap ((n : Int) + 8) = (n : Int) + 8 := IntWalk.i64_in _ (by omega)
          have x1 : (bs l).extract (n + 4) (n + 8) = bs ((l.drop (n + 4)).take 4) := by rw [show n + 8 = n + 4 + 4 by omega]; exact ba_ext (by simp [bs])
          have x2 : (bs l).extract 0 (n + 4) = bs (l.take (n + 4)) := extract_to _ _
          have hsl := Crc.sum_lt (l.take (n + 4))
          have g9 : IntKind.u64.wrap ((Crc.sum (l.take (n + 4)) : Nat) : Int) = ((Crc.sum (l.take (n + 4)) : Nat) : Int) := IntWalk.u64_in _ (by omega)
          have HSM := Lib.hid (fun W => Crc.refSum_calls (bs (l.take (n + 4))) (by rw [bs_size]; simp only [List.length_take]; unfold maxLen; omega) W)
          rw [bs_toList] at HSM
          have HNM := Lib.hid (fun W => RefNum_any (Crc.sum (l.take (n + 4))) 4 W (by omega))
          have hwd : be 4 (Crc.sum (l.take (n + 4))) = be (wid 4) (Crc.sum (l.take (n + 4))) := rfl
          by_cases hc : (l.drop (n + 4)).take 4 = be 4 (Crc.sum (l.take (n + 4)))
          · have HE := Lib.hid (HPP.out.trans (if_neg (fun h => h hc)))
            have hc2 : ((bs ((l.drop (n + 4)).take 4)).toList == (bs (be (wid 4) (Crc.sum (l.take (n + 4))))).toList) = true := by rw [bs_beq, hc, hwd]; simp
            have q0 := idx l 0 0 rfl (by omega)
            have q1 := idx l 1 1 rfl (by omega)
            have x3 : (bs l).extract 4 (n + 4) = bs ((l.drop 4).take n) := by rw [Nat.add_comm n 4]; exact ba_ext (by simp [bs])
            have g10 : (4 : Int) ≤ (n : Int) + 4 := by omega
            have g11 : IntKind.i64.wrap ((n : Int) + 9) = (n : Int) + 9 := IntWalk.i64_in _ (by omega)
            clear hc
            go_region_held3 (fun _ => True) (trivial)
              (first
                | (go_at_call 24; refine (HSM.out _).mono ?_; rintro e w2 ⟨rfl, rfl⟩)
                | (go_at_call 79; refine (HNM.out _).mono ?_; rintro e w2 ⟨rfl, b2⟩))
            have HZ2 := Lib.hid (HZ.out.below (after_drew b2))
            have HB2 := Lib.hid (bthen HB.out (after_drew b2))
            have z0 := zf0 HZ2.out; have z1 := zf1 HZ2.out; have z2 := zf2 HZ2.out; have zf := HZ2.out.frozen
            clear b2
            go_wp2_with fail
            go_region_held3 (fun _ => True) (trivial) (fail)
            all_goals
              go_wp2_with fail
              refine bodyPost_ret (v := .tuple #[FV ⟨l.getD 0 0, l.getD 1 0, (l.drop 4).take n⟩, .int .i64 ((n + 9 : Nat) : Int), .int .i64 0]) (by simp [results, Tryd.results29, go_sem, FV, z0, z1, z2]) rfl ?_
              rw [HE.out]
              refine ⟨rfl, ?_⟩
              first
                | exact (below3 HB2.out (Nat.le_refl _) _ _ _).drew
                | exact below3 HB2.out.drew (Nat.le_refl _) _ _ _
          · have HE := Lib.hid (HPP.out.trans (if_pos hc))
            have hc2 : ((bs ((l.drop (n + 4)).take 4)).toList == (bs (be (wid 4) (Crc.sum (l.take (n + 4))))).toList) = false := by rw [bs_beq, ← hwd]; simpa using hc
            clear hc
            go_region_held3 (fun _ => True) (trivial)
              (first
                | (go_at_call 24; refine (HSM.out _).mono ?_; rintro e w2 ⟨rfl, rfl⟩)
                | (go_at_call 79; refine (HNM.out _).mono ?_; rintro e w2 ⟨rfl, b2⟩))
            have HZ2 := Lib.hid (HZ.out.below (after_drew b2))
            have HB2 := Lib.hid (bthen HB.out (after_drew b2))
            have z0 := zf0 HZ2.out; have z1 := zf1 HZ2.out; have z2 := zf2 HZ2.out; have zf := HZ2.out.frozen
            clear b2
            go_wp2_with fail
            refine bodyPost_ret (v := .tuple #[FV zero, .int .i64 0, .int .i64 14]) (by simp [results, Tryd.results29, go_sem, FV, zero, z0, z1, z2, bs]) rfl ?_
            rw [HE.out]
            exact ⟨rfl, below3 HB2.out (Nat.le_refl _) _ _ _⟩
end Go.Proofs.YtopacbmdoognjaaDoor.Frm
