/- The walks of stairwellref16: Scan, Same; of Light, total. -/
import Derived.Test.YtjnjcjildiadgaaDoorSegRefB
namespace Go.Proofs.YtjnjcjildiadgaaDoor.Sg
open Go Go.RowKit Frame Oct Frm
set_option maxRecDepth 100000 in
set_option maxHeartbeats 4000000 in
theorem refScan_own (l : List UInt8) (hl : l.length ≤ 1000000000) (w : World) :
    Calls Tryd.prog 50 #[.string (bs l)] w fun e w' => ∃ v, e = .returned (.tuple #[v, .int .i64 (used (scan l))]) ∧ w'.ownsRow w.heap.size 9 1 v (scan l).length (cells (scan l)) ∧ Below w.heap.size w w' := by
  have hzl : (bs l).size = l.length := bs_size _
  obtain ⟨i0, hi0, hz0, hz1, hz2⟩ := info_parts infoS
  have HN0 := Lib.hid (fun W => refNext_calls l hl W)
  go_enter Tryd.func50, Tryd.ntmps50
  go_wp2_with fail
  refine (HN0.out _).mono ?_
  rintro e w1 ⟨rfl, b1⟩
  have HB0 := Lib.hid b1
  clear b1
  go_wp2_with fail
  go_loopw [4, 5, 6, 7, 8] (fun out i r n e wr => ∃ done : List (List UInt8), used done ≤ l.length ∧ i = .int .i64 (used done : Nat) ∧ r = .string (bs (next (l.drop (used done))).1) ∧ n = .int .i64 ((next (l.drop (used done))).2.1 : Nat) ∧ e = .int .i64 (next (l.drop (used done))).2.2 ∧ Hid (scan l = done ++ scan (l.drop (used done))) ∧ Hid (Below w.heap.size w wr) ∧ Hid (wr.ownsRow w.heap.size 9 1 out done.length (cells done))) (fun _ i _ _ _ _ => l.length + 1 - (intOf i).toNat)
  case atStart => exact ⟨[], Nat.zero_le _, rfl, rfl, rfl, rfl, Lib.hid rfl, HB0, Lib.hid (World.ownsRow_nil _ _ _ _)⟩
  case round =>
    obtain ⟨done, hu, rfl, rfl, rfl, rfl, hS, hB, hO⟩ := hrel
    clear HB0
    have hlen := used_len done
    have HUS := Lib.hid (used_snoc done)
    have hst := Lib.hid (scan_step l (used done) done hu hS.out)
    have HSt := Lib.hid (fun h : (next (l.drop (used done))).2.2 ≠ 0 => hS.out.trans (by rw [scan_stop h, List.append_nil]))
    generalize hnx : next (l.drop (used done)) = nx at *
    have HNX := Lib.hid hnx
    clear hnx
    obtain ⟨r, n, e⟩ := nx
    simp only at hst HSt ⊢
    have hs0 := hB.out.size
    by_cases he : e = 0
    · subst he
      obtain ⟨h1, h2, h3⟩ := hst.out rfl
      have H3 := Lib.hid h3
      subst h1
      clear h3 hst HSt hS
      have HN := Lib.hid (fun W => refNext_calls (l.drop (used done + (r.length + 9))) (by simp only [List.length_drop]; omega) W)
      have hext : (bs l).extract (used done + (r.length + 9)) l.length = bs (l.drop (used done + (r.length + 9))) := extract_from _ _
      generalize hud : used done = u at *
      clear hud
      have HO1 := Lib.hid (hO.out.alloc (.cells #[.string (bs r)] 9))
      have tok : True := trivial
      go_wp2_with (at_builtin; have _t := tok; refine wpList_append_own _ rfl _ _ 22 rfl w.heap.size 9 i0 _ 1 16 Tryd.underlying22 hi0 hz0 hz1 hz2 rfl (by decide) _ _ _ rfl HO1.out ⟨wr.heap.size, 0, none⟩ 1 1 [.string (bs r)] rfl rfl ?c1 ?c2 ?c3 ?c4 ?c5 ?_; clear _t tok)
      case c1 => exact cell_one_new _ _ _
      case c2 => intro u hu; simp at hu; subst hu; rfl
      case c3 => unfold maxLen; omega
      case c4 => omega
      case c5 => simp; omega
      intro v' w2 hown' hgrow _
      have HO2 := Lib.hid hown'
      have HB2 := Lib.hid (below_grown (hB.out.alloc hs0 (.cells #[.string (bs r)] 9)) hgrow (by simp; omega) (fun g hg => (HO1.out.lt g hg).1))
      clear hown' hgrow
      go_wp2_with fail
      refine (HN.out _).mono ?_
      rintro e w3 ⟨rfl, b3⟩
      have HB3 := Lib.hid (bthen HB2.out b3)
      have HO3 := Lib.hid (own_below HO2.out b3)
      clear b3
      go_wp2_with fail
      refine ⟨⟨done ++ [r], ?_, ?_, ?_, ?_, ?_, ?_, HB3, Lib.hid ?_⟩, ?_⟩
      · rw [HUS.out]; exact h2
      · rw [HUS.out]; go_num
      · rw [HUS.out]
      · rw [HUS.out]
      · rw [HUS.out]
      · rw [HUS.out]; exact H3
      · rw [List.length_append, cells_append, cells_one]; exact HO3.out
      · simp [intOf]; omega
    · have he' : (e == 0) = false := by simpa using he
      have HSE := Lib.hid (HSt.out he)
      clear he hst HSt hS
      go_wp2_with fail
      go_ret2
      rw [HSE.out]
      exact ⟨_, rfl, hO.out, hB.out⟩
theorem refScan_calls (l : List UInt8) (hl : l.length ≤ 1000000000) (w : World) :
    Calls Tryd.prog 50 #[.string (bs l)] w fun e w' => ∃ v, e = .returned (.tuple #[v, .int .i64 (used (scan l))]) ∧ SV v (scan l) w' ∧ Below w.heap.size w w' :=
  (refScan_own l hl w).mono fun _ _ ⟨v, he, ho, hb⟩ => ⟨v, he, SV.of_own ho, hb⟩
theorem ext_getD (a b : List (List UInt8)) (h : a.length = b.length) (hi : ∀ i, i < a.length → a.getD i [] = b.getD i []) : a = b := by
  apply List.ext_getElem h
  intro i h1 h2
  have := hi i h1
  simpa [List.getD_eq_getElem?_getD, h1, h2] using this
set_option maxRecDepth 100000 in
set_option maxHeartbeats 4000000 in
theorem Same_calls (A B : Option Addr) (c d : Nat) (a b : List (List UInt8)) (ha : a.length ≤ maxLen) (hb : b.length ≤ maxLen) (w : World) (hA : SS A a w) (hB : SS B b w) :
    Calls Tryd.prog 16 #[.slice A a.length c, .slice B b.length d] w fun e w' => e = .returned (.bool (decide (a = b))) ∧ Below w.heap.size w w' := by
  unfold maxLen at ha hb
  have HA := Lib.hid hA
  have HBB := Lib.hid hB
  clear hA hB
  by_cases hlen : a.length = b.length
  · go_enter Tryd.func16, Tryd.ntmps16
    have hle' : ((a.length : Int) != (b.length : Int)) = false := by simp [hlen]
    have HL := Lib.hid hlen
    clear hlen
    go_wp2_with fail
    go_loopw [13] (fun i wr => ∃ k : Nat, k ≤ a.length ∧ i = .int .i64 k ∧ Hid (Below w.heap.size w wr) ∧ Hid (∀ i, i < k → a.getD i [] = b.getD i [])) (fun i _ => a.length - (intOf i).toNat)
    case atStart => exact ⟨0, by omega, rfl, Lib.hid (Below.refl _ _), Lib.hid (fun i h => absurd h (Nat.not_lt_zero i))⟩
    case round =>
      obtain ⟨k, hk, rfl, hW, hP⟩ := hrel
      by_cases hlt : k < a.length
      · have hlb : k < b.length := by have := HL.out; omega
        obtain ⟨g, o, rfl, hg, hi⟩ := (HA.out.below hW.out) (by omega)
        obtain ⟨g', o', rfl, hg', hi'⟩ := (HBB.out.below hW.out) (by omega)
        have c1 := hi k hlt
        have c2 := hi' k hlb
        clear hi hi'
        by_cases he : a.getD k [] = b.getD k []
        · have hP2 := Lib.hid (show ∀ i, i < k + 1 → a.getD i [] = b.getD i [] from fun i h => by
            rcases Nat.lt_succ_iff_lt_or_eq.1 h with h | rfl
            · exact hP.out i h
            · exact he)
          have hq : ((bs (a.getD k [])).toList == (bs (b.getD k [])).toList) = true := by rw [bs_beq, he]; simp
          have hq2 : ((bs (a.getD k [])).toList != (bs (b.getD k [])).toList) = false := by simp only [bne, hq]; rfl
          clear he
          generalize a.getD k [] = x at *
          generalize b.getD k [] = y at *
          go_wp2_with fail
          go_region
          go_wp2_with fail
          exact ⟨⟨k + 1, by omega, by go_num, Lib.hid hW.out.drew, hP2⟩, by simp [intOf]; omega⟩
        · have hE := Lib.hid (show decide (a = b) = false from decide_eq_false (fun e => he (by rw [e])))
          have hq : ((bs (a.getD k [])).toList == (bs (b.getD k [])).toList) = false := by rw [bs_beq]; simpa using he
          have hq2 : ((bs (a.getD k [])).toList != (bs (b.getD k [])).toList) = true := by simp only [bne, hq]; rfl
          clear he
          generalize a.getD k [] = x at *
          generalize b.getD k [] = y at *
          go_wp2_with fail
          go_region
          go_wp2_with fail
          go_ret
          rw [hE.out]
          exact ⟨rfl, hW.out.drew⟩
      · obtain rfl : k = a.length := by omega
        have hE := Lib.hid (show decide (a = b) = true from decide_eq_true (ext_getD a b HL.out hP.out))
        go_wp2_with fail
        go_ret
        rw [hE.out]
        exact ⟨rfl, hW.out⟩
  · have hE := Lib.hid (show decide (a = b) = false from decide_eq_false (fun e => hlen (by rw [e])))
    have hle' : ((a.length : Int) != (b.length : Int)) = true := by simp; omega
    go_enter Tryd.func16, Tryd.ntmps16
    go_wp2_with fail
    go_ret
    rw [hE.out]
    exact ⟨rfl, Below.refl _ _⟩
def lightB (l : List (List UInt8)) : Bool := (l.all fun x => decide (x.length ≤ 400)) && decide (l.length ≤ 12)
theorem light_iff {l : List (List UInt8)} (h : lightB l = true) : l.length ≤ 12 ∧ ∀ x ∈ l, x.length ≤ 400 := by
  unfold lightB at h
  simp at h
  exact ⟨h.2, h.1⟩
set_option maxRecDepth 100000 in
set_option maxHeartbeats 1000000 in
theorem Light_calls (A : Option Addr) (c : Nat) (l : List (List UInt8)) (w : World) (hA : SS A l w) (hl : l.length ≤ maxLen) :
    Calls Tryd.prog 17 #[.slice A l.length c] w fun e w' => e = .returned (.bool (lightB l)) ∧ Below w.heap.size w w' := by
  unfold maxLen at hl
  have HA := Lib.hid hA
  clear hA
  go_enter Tryd.func17, Tryd.ntmps17
  go_wp2
  go_loop [7] (fun i => ∃ k : Nat, k ≤ l.length ∧ i = .int .i64 k ∧ Hid ((l.take k).all (fun x => decide (x.length ≤ 400)) = true)) (fun i => l.length - (intOf i).toNat)
  case atStart => exact ⟨0, by omega, rfl, rfl⟩
  case round =>
    obtain ⟨k, hk, rfl, hP⟩ := hrel
    by_cases hlt : k < l.length
    · obtain ⟨b, off, rfl, hbl, hi⟩ := HA.out (by omega)
      have c0 := hi k hlt
      clear hi
      have HT := Lib.hid (take_succ_getD l k hlt)
      have HM := Lib.hid (getD_mem l k hlt)
      generalize l.getD k [] = x at *
      have hz : (bs x).size = x.length := bs_size _
      by_cases hx : 400 < x.length
      · have HE := Lib.hid (show lightB l = false by
          unfold lightB
          rw [Bool.and_eq_false_iff]
          left
          rw [List.all_eq_false]
          exact ⟨x, HM.out, by simp; omega⟩)
        go_wp2
        go_ret
        rw [HE.out]
        exact ⟨rfl, Below.refl _ _⟩
      · go_wp2
        refine ⟨⟨k + 1, by omega, by go_num, Lib.hid ?_⟩, by simp [intOf]; omega⟩
        rw [HT.out, List.all_append, hP.out]
        simp; omega
    · obtain rfl : k = l.length := by omega
      have HE := Lib.hid (show lightB l = decide (l.length ≤ 12) by
        have := hP.out
        rw [List.take_length] at this
        unfold lightB
        rw [this, Bool.true_and])
      go_wp2
      go_ret
      rw [HE.out]
      refine ⟨?_, Below.refl _ _⟩
      congr 2
      simp; omega
end Go.Proofs.YtjnjcjildiadgaaDoor.Sg
