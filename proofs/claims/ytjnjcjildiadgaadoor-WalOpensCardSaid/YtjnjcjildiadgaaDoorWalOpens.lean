/- The walk of WalOpens. -/
import Derived.Test.YtjnjcjildiadgaaDoorWalR
import Derived.Test.YtjnjcjildiadgaaDoorWalC
namespace Go.Proofs.YtjnjcjildiadgaaDoor.Wl
open Go Go.RowKit Frame Oct Disk
theorem st_ss {A : Option Addr} {n c : Nat} {l : List (List UInt8)} {w : World} (h : ST (.slice A n c) l w) : Sg.SS A l w := by
  obtain ⟨A', c', e, -, -, -, -, hs⟩ := h.sv
  injection e with e1
  subst e1
  exact hs
/-- The disk behind the writes of k blocks. -/
structure OnI (B d L n k : Nat) (l : List (List UInt8)) (s : DSt) (W w : World) : Prop where
  one : One B d L s w
  good : Disk.Good n s
  on : s.on = true
  calm : s.armed = false
  many : s.wait.length ≤ k
  bel : Below B W w
theorem wr_ok {n k : Nat} {s : DSt} (hg : Disk.Good n s) (ho : s.on = true) (hk : k < n) (t : ByteArray) (ht : t.size ≤ 64) : ans s (k : Int) t = 0 ∧ (wrote s (k : Int) t).on = true ∧ (wrote s (k : Int) t).armed = s.armed ∧ (wrote s (k : Int) t).wait.length = s.wait.length + 1 := by
  have hc : chk s (k : Int) = 0 := by
    unfold chk
    rw [if_neg (by rw [ho]; decide), if_neg]
    have := hg.len
    omega
  have ha : ans s (k : Int) t = 0 := by
    unfold ans
    rw [if_neg (by rw [hc]; decide), if_neg (by omega)]
  refine ⟨ha, ?_⟩
  unfold wrote
  rw [if_pos ha]
  exact ⟨ho, rfl, by simp⟩
theorem sync_calm {n : Nat} {s : DSt} (hg : Disk.Good n s) (ho : s.on = true) (hc : s.armed = false) : (synced s).2 = 0 ∧ Disk.Good n (synced s).1 ∧ (synced s).1.on = true ∧ (synced s).1.wait = [] := by
  have e := synced_on s ho (.inl hc)
  rw [e]
  have hsy := hg.syncs
  refine ⟨rfl, ⟨(fun y hy => by cases hy), ?_, hg.hn, Nat.zero_le _, by show 0 ≤ max 0 (s.syncs - 1) ∧ max 0 (s.syncs - 1) ≤ _; omega, hg.cut⟩, ho, rfl⟩
  show (all s.last s.wait).length = _
  rw [← done_all s.wait s.last (total s.wait : Nat) (by omega)]
  exact done_length n s.wait s.last _ hg.len hg.fits
set_option maxRecDepth 100000 in
set_option maxHeartbeats 4000000 in
theorem WalOpens_walk (A : Option Addr) (c : Nat) (l : List (List UInt8)) (off : Bool) (W : World) (hT : Crc.Tab W) (hA : Sg.SS A l W) :
    Calls Tryd.prog 3 #[.slice A l.length c, .bool off] W fun e w' => e = .returned (.bool true) ∧ Below W.heap.size W w' := by
  have HTS := Lib.hid (Crc.Tab.size hT)
  have HT := Lib.hid hT
  have HA := Lib.hid hA
  clear hT hA
  by_cases h12 : 12 < l.length
  · go_enter Tryd.func3, Tryd.ntmps3
    go_wp2_with fail
    refine (awake_calls W HT.out).mono ?_
    rintro e w1 ⟨rfl, b1⟩
    have B1 := Lib.hid b1
    clear b1
    go_wp2_with fail
    go_ret
    exact ⟨rfl, B1.out⟩
  have hl12 : l.length ≤ 12 := by omega
  clear h12
  go_enter Tryd.func3, Tryd.ntmps3
  go_wp2_with fail
  refine (awake_calls W HT.out).mono ?_
  rintro e w1 ⟨rfl, b1⟩
  have B1 := Lib.hid b1
  clear b1
  go_wp2_with fail
  refine (New_one l.length (by omega) w1).mono ?_
  rintro e w3 ⟨rfl, h3, b3⟩
  have HST := Lib.hid (show OnI W.heap.size (w1.heap.size + 1) w1.heap.size l.length 0 l (fresh l.length) W w3 from ⟨One.base h3 B1.out.size, Good.fresh _ (by omega), rfl, rfl, Nat.le_refl _, bthen B1.out b3⟩)
  clear h3 b3
  generalize w1.heap.size + 1 = d at *
  generalize w1.heap.size = L at *
  go_wp2_with fail
  go_loopw [29] (fun i wr => ∃ (k : Nat) (s : DSt), k ≤ l.length ∧ i = .int .i64 k ∧ Hid (OnI W.heap.size d L l.length k l s W wr)) (fun i _ => l.length - (intOf i).toNat)
  case atStart => exact ⟨0, fresh l.length, by omega, rfl, HST⟩
  case round =>
    obtain ⟨k, s, hk, rfl, hP⟩ := hrel
    clear HST
    by_cases hlt : k < l.length
    · obtain ⟨b, off', rfl, hbl, hi⟩ := (HA.out.below hP.out.bel) (by omega)
      have ck := hi k hlt
      clear hi
      generalize l.getD k [] = r at *
      have hzr : (bs r).size = r.length := bs_size _
      by_cases h64 : 64 < r.length
      · go_wp2_with fail
        go_ret
        exact ⟨rfl, hP.out.bel⟩
      · obtain ⟨q1, q2, q3, q4⟩ := wr_ok hP.out.good hP.out.on hlt (bs r) (by omega)
        have hmk := hP.out.many
        have HW := Lib.hid (hP.out.one.calls fun v hd => Write_any W.heap.size d L l.length v s (k : Int) (bs r) hP.out.good (by omega) wr hd)
        rw [q1] at HW
        have HG := Lib.hid (hP.out.good.wrote (k : Int) (bs r) (by omega))
        have HQ := Lib.hid (And.intro q2 (And.intro q3 q4))
        clear q1 q2 q3 q4
        generalize wrote s (k : Int) (bs r) = s' at *
        go_wp2_with fail
        refine HW.out.mono ?_
        rintro e w4 ⟨rfl, o4, b4, -⟩
        have HF := Lib.hid (show OnI W.heap.size d L l.length (k + 1) l s' W w4 from ⟨o4, HG.out, HQ.out.1, by rw [HQ.out.2.1]; exact hP.out.calm, by rw [HQ.out.2.2]; omega, hP.out.bel.trans b4⟩)
        clear o4 b4
        go_wp2_with fail
        exact ⟨⟨k + 1, s', by omega, by go_num, HF⟩, by simp [intOf]; omega⟩
    · obtain rfl : k = l.length := by omega
      obtain ⟨q1, q2, q3, q4⟩ := sync_calm hP.out.good hP.out.on hP.out.calm
      have HS := Lib.hid (hP.out.one.calls fun v hd => Sync_any W.heap.size d L l.length v s hP.out.good wr hd)
      rw [q1] at HS
      have HQ := Lib.hid (And.intro q2 (And.intro q3 q4))
      clear q1 q2 q3 q4
      generalize (synced s).1 = s1 at *
      go_wp2_with fail
      refine HS.out.mono ?_
      rintro e w4 ⟨rfl, o4, b4, -⟩
      have HO4 := Lib.hid o4
      have B4 := Lib.hid (hP.out.bel.trans b4)
      clear o4 b4 HS hP
      go_wp2_with fail
      refine (Open_nil w4).mono ?_
      rintro e w5 ⟨rfl, rfl⟩
      cases off with
      | true =>
        go_wp2_with fail
        refine (HO4.out.calls fun v hd => Down_calls W.heap.size d L l.length v s1 0 (by decide) HQ.out.1 w4 hd).mono ?_
        rintro e w5 ⟨rfl, o5, b5, -⟩
        have HO5 := Lib.hid o5
        have B5 := Lib.hid (B4.out.trans b5)
        have HOF := Lib.hid (Open_off W.heap.size d L (down s1 0) (by unfold down; rw [if_pos HQ.out.2.1]) w5 o5)
        clear o5 b5
        go_wp2_with fail
        refine HOF.out.mono ?_
        rintro e w6 ⟨rfl, rfl⟩
        go_wp2_with fail
        go_ret
        exact ⟨rfl, B5.out⟩
      | false =>
        by_cases h4 : l.length < 4
        · have HOF := Lib.hid (Open_few W.heap.size d L l.length s1 HQ.out.1 h4 HQ.out.2.1 w4 HO4.out)
          have h4' : decide ((l.length : Int) < 4) = true := by simp; omega
          go_wp2_with fail
          refine HOF.out.mono ?_
          rintro e w6 ⟨rfl, rfl⟩
          go_wp2_with fail
          go_ret
          exact ⟨rfl, B4.out⟩
        · have h4' : decide ((l.length : Int) < 4) = false := by simp; omega
          have HOF := Lib.hid (Open_calls W.heap.size d L l.length s1 HQ.out.1 HQ.out.2.2 HQ.out.2.1 (by omega) w4 w4 (tab_bel HT.out HTS.out B4.out) HTS.out (Below.refl _ _) (Kept2.refl _) HO4.out)
          have hl4 := HQ.out.1.len
          have HRO := Lib.hid (fun W' => rOpen_calls l.length s1.last hl4 (by omega) (by omega) W')
          have HLS := Lib.hid (fun W' (k : Below w4.heap.size w4 W') => show Calls Tryd.prog 13 #[.pointer (some ⟨d, 0, none⟩)] W' fun e w' => e = .returned (.string (bs s1.last)) ∧ W' = w' from by
            obtain ⟨wv, hd⟩ := HO4.out.below k
            exact Lasts_calls W.heap.size d L wv s1 W' hd)
          clear hl4
          go_wp2_with fail
          refine HOF.out.mono ?_
          intro e w6 hop
          unfold OpenPost at hop
          obtain ⟨v6, rfl, hv6, hl6, b6⟩ := hop
          have HV6 := Lib.hid hv6
          have HL6 := Lib.hid hl6
          have B6 := Lib.hid b6
          have BW6 := Lib.hid (bthen B4.out (b6.mono (by have := B4.out.size; omega)))
          obtain ⟨Av, cv, rfl, -⟩ := id HV6.out
          clear hv6 hl6 b6
          generalize w4.heap.size = p6 at *
          go_wp2_with fail
          refine (HLS.out _ B6.out).mono ?_
          rintro e w7 ⟨rfl, rfl⟩
          go_wp2_with fail
          refine (HRO.out _).mono ?_
          intro e w7 hro
          unfold ROpenPost RL RC at hro
          obtain ⟨v7, rfl, hv7, b7⟩ := hro
          have HV7 := Lib.hid (hv7.below ((Below.refl _ _).alloc (Nat.le_refl _) (.cells (RC (l.length / 2) (openL (l.length / 2) s1.last)) 35)))
          have HV67 := Lib.hid ((HV6.out.below b7).below ((Below.refl _ _).alloc (Nat.le_refl _) (.cells (RC (l.length / 2) (openL (l.length / 2) s1.last)) 35)))
          have HL7 := Lib.hid ((HL6.out.below b7).below ((Below.refl _ _).alloc (Nat.le_refl _) (.cells (RC (l.length / 2) (openL (l.length / 2) s1.last)) 35)))
          have BW7 := Lib.hid ((bthen BW6.out b7).alloc (by have := (bthen BW6.out b7).size; exact this) (.cells (RC (l.length / 2) (openL (l.length / 2) s1.last)) 35))
          have HM7 := Lib.hid (show RB w7.heap.size (l.length / 2) (openL (l.length / 2) s1.last) (w7.alloc (.cells (RC (l.length / 2) (openL (l.length / 2) s1.last)) 35)) from Has.new w7 _ _)
          unfold RC at HV7 HV67 HL7 BW7 HM7
          obtain ⟨A7, c7, rfl, hlc7, hcm7, hn7, ha7, hst7⟩ := id hv7
          clear hv7 b7 HV6 HL6 HOF HRO HLS
          have hgl := Lib.hid (show (openL (l.length / 2) s1.last).ready = false from rfl)
          generalize openL (l.length / 2) s1.last = lo at *
          generalize opened (l.length / 2) s1.last = o at *
          generalize l.length / 2 = q at *
          go_wp2_with fail
          generalize w7.alloc (.cells #[.int .i64 (q : Int), .int .i64 lo.area, .int .u64 (lo.gen : Int), .bool lo.ready, .bool lo.broken, .string (bs lo.done), .string (bs lo.wait)] 35) = w8 at *
          generalize w7.heap.size = m7 at *
          have y2 : w8.drew.cell? ⟨m7, 2, none⟩ = some (.int .u64 (lo.gen : Int)) := HM7.out.c2
          have HG1 := Lib.hid (fun n => Gen_calls p6 d lo (w8.drewN n) (HL7.out.below (bdn _ _)))
          have HG2 := Lib.hid (fun n => Ready_calls p6 d lo (w8.drewN n) (HL7.out.below (bdn _ _)))
          rw [hgl.out] at HG2
          have y3 : w8.cell? ⟨m7, 2, none⟩ = some (.int .u64 (lo.gen : Int)) := HM7.out.c2
          clear hgl
          have hse : ((lo.gen : Int) != (lo.gen : Int)) = false := by simp
          go_quiet ((first
            | (go_at_call 14; exact Calls.quiet_of_same ((HG1.out _).mono fun _ _ ⟨a, b⟩ => ⟨a, b.symm⟩))
            | (go_at_call 15; exact Calls.quiet_of_same ((HG2.out _).mono fun _ _ ⟨a, b⟩ => ⟨a, b.symm⟩))))
          have HV8 := Lib.hid (HV67.out.below (bdn w8 nq))
          have HV9 := Lib.hid (HV7.out.below (bdn w8 nq))
          have BW9 := Lib.hid (bthen BW7.out (bdn w8 nq))
          clear y2 y3 hse HG1 HG2 HM7 HL7 HV67 HV7 BW7 hst7
          generalize w8.drewN nq = w9 at *
          clear ha7 hn7
          obtain ⟨oa, og, ot, ob⟩ := o
          simp only at HV8 HV9 hlc7 ⊢
          unfold maxLen at hcm7
          cases ob with
          | nil =>
            have he := Sg.bs_eq_empty [] rfl
            go_wp2_with fail
            go_ret
            exact ⟨rfl, BW9.out⟩
          | cons r rest =>
            simp only [List.drop_succ_cons, List.drop_zero, List.length_cons] at HV8 HV9 hlc7
            have hs8 := st_ss HV8.out
            have hs9 := st_ss HV9.out
            obtain ⟨b, off', rfl, hbl, hi⟩ := hs9 (by simp)
            have i0 := hi 0 (by simp)
            rw [Nat.add_zero] at i0
            have y0 : w9.cell? ⟨b, off', none⟩ = some (.string (bs r)) := i0
            have HI := Lib.hid (show Sg.SS (some ⟨b, off' + 1, none⟩) rest w9 from by
              have := hs9.drop 1
              simpa using this)
            have hrl : rest.length + 1 ≤ 9223372036854775807 := by omega
            have HS8 := Lib.hid hs8
            clear hi i0 hs8 hs9
            have he : ((bs r).toList == (bs r).toList) = true := by simp
            by_cases hc1 : c7 = 1
            · subst hc1
              obtain rfl : rest = [] := List.length_eq_zero_iff.1 (by omega)
              have HSM := Lib.hid (Sg.Same_calls Av (some ⟨b, off', none⟩) cv 0 [] [] (by decide) (by decide) w9 HS8.out (Sg.SS.nil _ _))
              go_wp2_with fail
              refine HSM.out.mono ?_
              rintro e w10 ⟨rfl, b10⟩
              have B10 := Lib.hid (bthen BW9.out b10)
              clear b10
              go_wp2_with fail
              go_ret
              exact ⟨rfl, B10.out⟩
            · have HSM := Lib.hid (Sg.Same_calls Av (some ⟨b, off' + 1, none⟩) cv (c7 - 1) rest rest (by unfold maxLen; omega) (by unfold maxLen; omega) w9 HS8.out HI.out)
              rw [show decide (rest = rest) = true by simp] at HSM
              have z1 : (1 : Int) ≤ (rest.length : Int) + 1 := by omega
              have z2 : (rest.length : Int) + 1 ≤ (c7 : Int) := by omega
              have z3 : (1 : Int) ≤ (c7 : Int) := by omega
              go_wp2_with fail
              refine HSM.out.mono ?_
              rintro e w10 ⟨rfl, b10⟩
              have B10 := Lib.hid (bthen BW9.out b10)
              clear b10
              go_wp2_with fail
              go_ret
              exact ⟨rfl, B10.out⟩
end Go.Proofs.YtjnjcjildiadgaaDoor.Wl
