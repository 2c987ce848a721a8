/- The walks of slices.EqualFunc over frames, of stairwellref08.All, of the laws' Same and light. -/
import Derived.Test.YtopacbmdoognjaaDoorFeedWalk
import Derived.Test.YtopacbmdoognjaaDoorFrameShort
namespace Go.Proofs.YtopacbmdoognjaaDoor.Fd
open Go Go.RowKit Frame Oct Frm
theorem SameR_self (x : Fm) (w : World) : Calls Tryd.prog 90 #[FV x, FV x] w fun e w' => e = .returned (.bool true) ∧ Below w.heap.size w w' := by
  unfold FV
  go_enter Tryd.func90, Tryd.ntmps90
  go_wp2_with fail
  go_ret
  exact ⟨rfl, ((Below.refl _ _).alloc (Nat.le_refl _) _).alloc (by simp) _⟩
set_option maxRecDepth 100000 in
set_option maxHeartbeats 1000000 in
theorem EqualR_calls (A B : Option Addr) (c d : Nat) (l : List Fm) (hl : l.length ≤ maxLen) (w : World) (hA : FrS A l w) (hB : FrS B l w) :
    Calls Tryd.prog 89 #[.slice A l.length c, .slice B l.length d, .func (.func 90) #[] #[]] w fun e w' => e = .returned (.bool true) ∧ Below w.heap.size w w' := by
  unfold maxLen at hl
  have HA := Lib.hid hA
  have HB := Lib.hid hB
  have HS := Lib.hid SameR_self
  unfold FV at HS
  clear hA hB
  go_enter Tryd.func89, Tryd.ntmps89
  go_wp2_with fail
  go_loopw [17] (fun i wr => ∃ k : Nat, k ≤ l.length ∧ i = .int .i64 k ∧ Hid (Below w.heap.size w wr)) (fun i _ => l.length - (intOf i).toNat)
  case atStart => exact ⟨0, by omega, rfl, Lib.hid (Below.refl _ _)⟩
  case round =>
    obtain ⟨k, hk, rfl, hW⟩ := hrel
    by_cases hlt : k < l.length
    · obtain ⟨g, o, rfl, hg, hi⟩ := (HA.out.below hW.out) (by omega)
      obtain ⟨g', o', rfl, hg', hi'⟩ := (HB.out.below hW.out) (by omega)
      obtain ⟨c0, c1, c2⟩ := hi k hlt
      obtain ⟨d0, d1, d2⟩ := hi' k hlt
      clear hi hi'
      generalize l.getD k default = x at *
      go_wp2_with fail
      refine (HS.out x _).mono ?_
      rintro e w1 ⟨rfl, b1⟩
      have B1 := Lib.hid (bthen ((hW.out.alloc hW.out.size (.cells #[.int .u8 x.ch.toNat, .int .u8 x.kd.toNat, .string (bs x.body)] 35)).alloc (by have := hW.out.size; simp; omega) (.cells #[.int .u8 x.ch.toNat, .int .u8 x.kd.toNat, .string (bs x.body)] 39)) b1)
      clear b1
      go_wp2_with fail
      exact ⟨⟨k + 1, by omega, by go_num, B1⟩, by simp [intOf]; omega⟩
    · obtain rfl : k = l.length := by omega
      go_wp2_with fail
      go_ret
      exact ⟨rfl, hW.out⟩
set_option maxRecDepth 100000 in
set_option maxHeartbeats 1000000 in
theorem EqualF_calls (A B : Option Addr) (c d : Nat) (l : List Fm) (hl : l.length ≤ maxLen) (w : World) (hA : FrS A l w) (hB : FrS B l w) :
    Calls Tryd.prog 51 #[.slice A l.length c, .slice B l.length d, .func (.func 31) #[] #[]] w fun e w' => e = .returned (.bool true) ∧ Below w.heap.size w w' := by
  unfold maxLen at hl
  have HA := Lib.hid hA
  have HB := Lib.hid hB
  have HS := Lib.hid Same_self
  unfold FV at HS
  clear hA hB
  go_enter Tryd.func51, Tryd.ntmps51
  go_wp2_with fail
  go_loopw [17] (fun i wr => ∃ k : Nat, k ≤ l.length ∧ i = .int .i64 k ∧ Hid (Below w.heap.size w wr)) (fun i _ => l.length - (intOf i).toNat)
  case atStart => exact ⟨0, by omega, rfl, Lib.hid (Below.refl _ _)⟩
  case round =>
    obtain ⟨k, hk, rfl, hW⟩ := hrel
    by_cases hlt : k < l.length
    · obtain ⟨g, o, rfl, hg, hi⟩ := (HA.out.below hW.out) (by omega)
      obtain ⟨g', o', rfl, hg', hi'⟩ := (HB.out.below hW.out) (by omega)
      obtain ⟨c0, c1, c2⟩ := hi k hlt
      obtain ⟨d0, d1, d2⟩ := hi' k hlt
      clear hi hi'
      generalize l.getD k default = x at *
      go_wp2_with fail
      refine (HS.out x _).mono ?_
      rintro e w1 ⟨rfl, b1⟩
      have B1 := Lib.hid (bthen ((hW.out.alloc hW.out.size (.cells #[.int .u8 x.ch.toNat, .int .u8 x.kd.toNat, .string (bs x.body)] 35)).alloc (by have := hW.out.size; simp; omega) (.cells #[.int .u8 x.ch.toNat, .int .u8 x.kd.toNat, .string (bs x.body)] 35)) b1)
      clear b1
      go_wp2_with fail
      exact ⟨⟨k + 1, by omega, by go_num, B1⟩, by simp [intOf]; omega⟩
    · obtain rfl : k = l.length := by omega
      go_wp2_with fail
      go_ret
      exact ⟨rfl, hW.out⟩
theorem Same_calls (A B : Option Addr) (c d : Nat) (l : List Fm) (hl : l.length ≤ maxLen) (w : World) (hA : FrS A l w) (hB : FrS B l w) :
    Calls Tryd.prog 48 #[.slice A l.length c, .slice B l.length d] w fun e w' => e = .returned (.bool true) ∧ Below w.heap.size w w' := by
  have HE := Lib.hid (EqualR_calls A B c d l hl w hA hB)
  clear hA hB
  go_enter Tryd.func48, Tryd.ntmps48
  go_wp2_with fail
  refine HE.out.mono ?_
  rintro e w1 ⟨rfl, b1⟩
  have B1 := Lib.hid b1
  clear b1
  go_wp2_with fail
  go_ret
  exact ⟨rfl, B1.out⟩
structure AllI (W : World) (s : List UInt8) (done : List Fm) (r : List UInt8) (out : Value) (w : World) : Prop where
  all : Fd.all s = (done ++ (Fd.all r).1, (Fd.all r).2)
  below : Below W.heap.size W w
  own : w.ownsRow W.heap.size 39 3 out done.length (fcs done)
set_option maxRecDepth 100000 in
set_option maxHeartbeats 1000000 in
theorem All_calls (s : List UInt8) (hs : s.length ≤ 1000000) (w : World) :
    Calls Tryd.prog 47 #[.string (bs s)] w fun e w' => ∃ v, e = .returned (.tuple #[v, .string (bs (all s).2.1), .int .i64 (all s).2.2]) ∧ FL v (all s).1 w' ∧ Below w.heap.size w w' := by
  obtain ⟨i0, hi0, hz0, hz1, hz2⟩ := info_parts infoR
  go_enter Tryd.func47, Tryd.ntmps47
  go_wp2_with fail
  go_loopw [0, 5] (fun t out wr => ∃ (done : List Fm) (r : List UInt8), done.length + r.length ≤ s.length ∧ t = .string (bs r) ∧ Hid (AllI w s done r out wr)) (fun t _ _ => strLen t)
  case atStart => exact ⟨[], s, by simp, rfl, Lib.hid ⟨rfl, Below.refl _ _, World.ownsRow_nil _ _ _ _⟩⟩
  case round =>
    obtain ⟨done, r, hdr, rfl, hI⟩ := hrel
    have hzr : (bs r).size = r.length := bs_size _
    have HP := Lib.hid (fun W => refParse_calls r (by omega) W)
    have HPN := Lib.hid (parse_n (l := r))
    have HM := Lib.hid (fun r' (e' : Int) (h : (all r) = ([], r', e')) => show all s = (done, r', e') from by rw [hI.out.all, h]; simp)
    generalize hpr : parse r = pr at *
    have HPR := Lib.hid hpr
    clear hpr
    obtain ⟨x, n, e⟩ := pr
    unfold FV at HP
    simp only at HP HPN
    go_wp2_with fail
    refine (HP.out _).mono ?_
    rintro e0 w2 ⟨rfl, b2⟩
    have B3 := Lib.hid ((bthen hI.out.below b2).alloc (bthen hI.out.below b2).size (.cells #[.int .u8 x.ch.toNat, .int .u8 x.kd.toNat, .string (bs x.body)] 39))
    have O3 := Lib.hid (Sg.own_below (Sg.own_below hI.out.own b2) ((Below.refl w2.heap.size w2).alloc (Nat.le_refl _) (.cells #[.int .u8 x.ch.toNat, .int .u8 x.kd.toNat, .string (bs x.body)] 39)))
    clear b2
    by_cases he3 : e = 3
    · subst he3
      have HF := Lib.hid (HM.out r 0 (all_short (by rw [HPR.out])))
      clear HM HPN
      go_wp2_with fail
      go_ret3
      rw [HF.out]
      exact ⟨_, rfl, FL.of_own O3.out, B3.out⟩
    · have he3' : (e == 3) = false := by simpa using he3
      by_cases he0 : e = 0
      · subst he0
        obtain ⟨hn9, hnl, -⟩ := HPN.out rfl
        have hext : (bs r).extract n r.length = bs (r.drop n) := extract_from _ _
        have hB4 := Lib.hid ((Below.refl (w2.alloc (.cells #[.int .u8 x.ch.toNat, .int .u8 x.kd.toNat, .string (bs x.body)] 39)).heap.size (w2.alloc (.cells #[.int .u8 x.ch.toNat, .int .u8 x.kd.toNat, .string (bs x.body)] 39))).alloc (Nat.le_refl _) (.cells #[.int .u8 x.ch.toNat, .int .u8 x.kd.toNat, .string (bs x.body)] 39))
        have HS4 := Lib.hid (FrS.one (Has.new (w2.alloc (.cells #[.int .u8 x.ch.toNat, .int .u8 x.kd.toNat, .string (bs x.body)] 39)) #[.int .u8 x.ch.toNat, .int .u8 x.kd.toNat, .string (bs x.body)] 39))
        rw [show (w2.alloc (.cells #[.int .u8 x.ch.toNat, .int .u8 x.kd.toNat, .string (bs x.body)] 39)).heap.size = w2.heap.size + 1 by simp] at HS4
        have O4 := Lib.hid (Sg.own_below O3.out hB4.out)
        have B4 := Lib.hid (bthen B3.out hB4.out)
        have hsz4 := B4.out.size
        have HN := Lib.hid (show all s = (done ++ [x] ++ (all (r.drop n)).1, (all (r.drop n)).2) by
          rw [hI.out.all, all_cons (s := r) (by rw [HPR.out]), HPR.out]
          simp)
        have tok : True := trivial
        go_wp2_with (at_builtin; have _t := tok; refine wpList_append_own _ rfl _ _ 71 rfl w.heap.size 39 i0 _ 3 24 Tryd.underlying71 hi0 hz0 hz1 hz2 rfl (by decide) _ _ _ rfl O4.out ⟨w2.heap.size + 1, 0, none⟩ 1 1 (fcs [x]) rfl (fcs_length [x]) ?c1 ?c2 ?c3 ?c4 ?c5 ?_; clear _t tok)
        case c1 => exact HS4.out.cells _ rfl
        case c2 => exact fcs_oneCell [x]
        case c3 => unfold maxLen; omega
        case c4 => omega
        case c5 => exact hsz4
        intro v' w5 hown' hgrow _
        have HI5 := Lib.hid (show AllI w s (done ++ [x]) (r.drop n) v' w5 from ⟨HN.out, Sg.below_grown B4.out hgrow hsz4 (fun g hg => (O4.out.lt g hg).1), by rw [List.length_append, fcs_append]; exact hown'⟩)
        clear hown' hgrow
        go_wp2_with fail
        refine ⟨⟨done ++ [x], r.drop n, ?_, rfl, HI5⟩, ?_⟩
        · simp; omega
        · show (bs (r.drop n)).size < (bs r).size
          rw [bs_size, bs_size, List.length_drop]; omega
      · have he0' : (e != 0) = true := by simpa using he0
        have HF := Lib.hid (HM.out [] e (by rw [all_err (by rw [HPR.out]; exact he3) (by rw [HPR.out]; exact he0), HPR.out]))
        clear HM HPN he0 he3
        go_wp2_with fail
        go_ret3
        rw [HF.out]
        exact ⟨_, rfl, FL.of_own O3.out, B3.out⟩
def lightB (l : List (List UInt8)) : Bool := decide (l.length ≤ 10) && l.all fun x => decide (x.length ≤ 500)
theorem light_iff {l : List (List UInt8)} (h : lightB l = true) : l.length ≤ 10 ∧ ∀ x ∈ l, x.length ≤ 500 := by
  unfold lightB at h
  simp at h
  exact h
set_option maxRecDepth 100000 in
set_option maxHeartbeats 1000000 in
theorem light_calls (A : Option Addr) (c : Nat) (l : List (List UInt8)) (w : World) (hA : Sg.SS A l w) (hl : l.length ≤ maxLen) :
    Calls Tryd.prog 45 #[.slice A l.length c] w fun e w' => e = .returned (.bool (lightB l)) ∧ Below w.heap.size w w' := by
  unfold maxLen at hl
  by_cases h10 : 10 < l.length
  · have HE := Lib.hid (show lightB l = false by unfold lightB; rw [decide_eq_false (by omega)]; rfl)
    go_enter Tryd.func45, Tryd.ntmps45
    go_wp2
    go_ret
    rw [HE.out]
    exact ⟨rfl, Below.refl _ _⟩
  · have HA := Lib.hid hA
    clear hA
    go_enter Tryd.func45, Tryd.ntmps45
    go_wp2
    go_loop [10] (fun i => ∃ k : Nat, k ≤ l.length ∧ i = .int .i64 k ∧ Hid ((l.take k).all (fun x => decide (x.length ≤ 500)) = true)) (fun i => l.length - (intOf i).toNat)
    case atStart => exact ⟨0, by omega, rfl, rfl⟩
    case round =>
      obtain ⟨k, hk, rfl, hP⟩ := hrel
      by_cases hlt : k < l.length
      · obtain ⟨b, off, rfl, hbl, hi⟩ := HA.out (by omega)
        have c0 := hi k hlt
        clear hi
        have HT := Lib.hid (Sg.take_succ_getD l k hlt)
        have HM := Lib.hid (Sg.getD_mem l k hlt)
        generalize l.getD k [] = x at *
        have hz : (bs x).size = x.length := bs_size _
        by_cases hx : 500 < x.length
        · have HE := Lib.hid (show lightB l = false by
            unfold lightB
            rw [Bool.and_eq_false_iff]
            right
            rw [List.all_eq_false]
            exact ⟨x, HM.out, by simp; omega⟩)
          go_wp2
          go_ret
          rw [HE.out]
          exact ⟨rfl, Below.refl _ _⟩
        · go_wp2
          refine ⟨⟨k + 1, by omega, by go_num, Lib.hid ?_⟩, by simp [intOf]; omega⟩
          rw [HT.out, List.all_append, hP.out]
          simp; omega
      · obtain rfl : k = l.length := by omega
        have HE := Lib.hid (show lightB l = true by
          have := hP.out
          rw [List.take_length] at this
          unfold lightB
          rw [this, decide_eq_true (by omega)]
          rfl)
        go_wp2
        go_ret
        rw [HE.out]
        exact ⟨rfl, Below.refl _ _⟩
end Go.Proofs.YtopacbmdoognjaaDoor.Fd
