/- The walk of DiskArms. -/
import Derived.Test.YtopacbmdoognjaaDiskFalls
namespace Go.Proofs.Ytopacbmdoognjaa.Disk
open Go Go.RowKit Frame
theorem wrote_step (S0 : DSt) (ws : List Wr) (n : Nat) (a : Int) (t : ByteArray) (hl : S0.last.length = 64 * n) (hf : Fits n ws) :
    ∃ ws', wrote (wait S0 ws) a t = wait S0 ws' ∧ Fits n ws' ∧ ws'.length ≤ ws.length + 1 := by
  by_cases h : ans (wait S0 ws) a t = 0
  · obtain ⟨h1, h2⟩ := ans_zero h
    obtain ⟨_, h3, h4⟩ := chk_zero h1
    refine ⟨_, wrote_wait _ _ _ _ h, hf.append (fun x hx => ?_), by simp⟩
    simp only [List.mem_singleton] at hx
    subst hx
    have h5 : (wait S0 ws).last.length = 64 * n := hl
    exact ⟨by simp only; omega, h2⟩
  · exact ⟨ws, wrote_no _ _ _ h, hf, by omega⟩
/-- Behind some rounds: what lasts, how many syncs are left. -/
def armedSt (last : List UInt8) (m : Int) (C : Int) : DSt := ⟨last, [], true, true, m, C⟩
theorem good_armed {last : List UInt8} {ws : List Wr} {m C : Int} (hl : last.length = 64 * 6) (hf : Fits 6 ws) (hn : ws.length ≤ 1000) (hm : 0 ≤ m ∧ m ≤ 20) (hC : 0 ≤ C ∧ C ≤ 9223372036854775807) : Good 6 (wait (armedSt last m C) ws) :=
  ⟨hf, hl, by omega, by show ws.length ≤ 100000; omega, by show 0 ≤ m ∧ m ≤ 9223372036854775807; omega, hC⟩
structure ArmsI (W : World) (d L : Nat) (C m : Int) (k : Nat) (last : List UInt8) (ws : List Wr) (w : World) : Prop where
  len : last.length = 64 * 6
  fits : Fits 6 ws
  many : ws.length ≤ k
  one : One W.heap.size d L (wait (armedSt last m C) ws) w
  bel : Below W.heap.size W w
theorem all_length (n : Nat) (ws : List Wr) (s : List UInt8) (h : s.length = 64 * n) (hf : Fits n ws) : (all s ws).length = 64 * n := by
  rw [← done_all ws s (total ws) (Int.le_refl _)]
  exact done_length n ws s _ h hf
set_option maxRecDepth 100000 in
set_option maxHeartbeats 2000000 in
theorem DiskArms_walk (A : Option Addr) (c : Nat) (l : List DAct) (syncs cut : Int) (W : World) (hA : Acts W.heap.size A l W) (hO : ∀ x ∈ l, x.Ok) (hl : l.length ≤ maxLen)
    (hs : -9223372036854775808 ≤ syncs ∧ syncs ≤ 9223372036854775807) (hc : -9223372036854775808 ≤ cut ∧ cut ≤ 9223372036854775807) :
    Calls Try.prog 6 #[.slice A l.length c, .int .i64 syncs, .int .i64 cut] W fun e w' => e = .returned (.bool true) ∧ Below W.heap.size W w' := by
  have HA := Lib.hid hA
  have HO := Lib.hid hO
  have HL := Lib.hid hl
  clear hA hO hl
  go_enter Try.func6, Try.ntmps6
  go_wp2_with fail
  refine (awake_calls _).mono ?_
  rintro e w1 ⟨rfl, b1⟩
  have B1 := Lib.hid b1
  have HA1 := Lib.hid ((HA.out.below b1).more b1.size)
  clear b1
  go_wp2_with fail
  refine (Light_calls A c l _ HA1.out HL.out).mono ?_
  rintro e w2 ⟨rfl, b2⟩
  have B2 := Lib.hid (bthen B1.out b2)
  clear b2
  cases hL : lightB l with
  | false =>
    go_wp2_with fail
    go_ret
    exact ⟨rfl, B2.out⟩
  | true =>
    have HT := Lib.hid (light_iff hL)
    clear hL
    have hn := HT.out.1
    by_cases h20 : 20 < syncs
    · go_wp2_with fail
      go_ret
      exact ⟨rfl, B2.out⟩
    · go_wp2_with fail
      refine (New_one 6 (by decide) _).mono ?_
      rintro e w3 ⟨rfl, o3, b3⟩
      have O3 := Lib.hid (o3.base B2.out.size)
      have B3 := Lib.hid (bthen B2.out b3)
      clear o3 b3
      generalize w2.heap.size + 1 = d at *
      generalize w2.heap.size = L at *
      go_wp2_with fail
      refine (Calls.mono (O3.out.calls fun v hd => (Arm_calls _ _ _ v _ syncs cut _ hd).mono fun _ _ h => post_of_only h.1 h.2.1 h.2.2) ?_)
      rintro e w4 ⟨rfl, o4, b4, -⟩
      obtain ⟨S, hS⟩ : ∃ S : Nat, max 0 syncs = (S : Int) := ⟨(max 0 syncs).toNat, by omega⟩
      obtain ⟨C, hC⟩ : ∃ C : Int, max 0 cut = C := ⟨_, rfl⟩
      have hCr : 0 ≤ C ∧ C ≤ 9223372036854775807 := by omega
      have hSr : S ≤ 20 := by omega
      have HI := Lib.hid (show ArmsI W d L C ((S : Int) - (0 : Nat)) 0 (List.replicate (64 * 6) 0) [] w4 from ⟨by simp, (fun x hx => by cases hx), Nat.le_refl _, by
        have e : armed (fresh 6) syncs cut = wait (armedSt (List.replicate (64 * 6) 0) ((S : Int) - (0 : Nat)) C) [] := by
          simp only [armed, fresh, wait, armedSt, if_pos, hS, hC]
          simp
        rw [← e]; exact o4, B3.out.trans b4⟩)
      clear o4 b4 hC
      go_wp2_with fail
      go_loopw [26] (fun i wr => ∃ (j : Nat) (last : List UInt8), j ≤ S ∧ i = .int .i64 j ∧ Hid (ArmsI W d L C ((S : Int) - j) 0 last [] wr)) (fun i _ => S - (intOf i).toNat)
      case atStart => exact ⟨0, _, by omega, rfl, HI⟩
      case round =>
        obtain ⟨j, last, hj, rfl, hI⟩ := hrel
        obtain ⟨wo, rfl⟩ : ∃ wo : World, wo = wr := ⟨_, rfl⟩
        by_cases hlt : j < S
        · go_wp2_with fail
          go_loopw [30] (fun i wr => ∃ (k : Nat) (ws : List Wr), k ≤ l.length ∧ i = .int .i64 k ∧ Hid (ArmsI W d L C ((S : Int) - j) k last ws wr)) (fun i _ => l.length - (intOf i).toNat)
          case atStart => exact ⟨0, [], by omega, rfl, hI⟩
          case round =>
            obtain ⟨k, ws, hk, rfl, hJ⟩ := hrel
            by_cases hlt2 : k < l.length
            · obtain ⟨b, off, rfl, hbl, hi⟩ := (HA.out.below hJ.out.bel) (by omega)
              obtain ⟨r0, r1, r2, r3⟩ := hi k hlt2
              clear hi
              generalize l.getD k default = x at *
              obtain ⟨kd, at_, ct, t⟩ := x
              simp only at r0 r1 r2 r3
              have hfz := hJ.out.many
              obtain ⟨ws', he, hf', hm'⟩ := wrote_step (armedSt last ((S : Int) - j) C) ws 6 at_ t hJ.out.len hJ.out.fits
              have HE := Lib.hid he
              have HF' := Lib.hid hf'
              clear he hf'
              go_wp2_with fail
              refine ((hJ.out.one.below ((Below.refl _ _).alloc (Nat.le_refl _) _)).calls fun v hd => Write_any _ _ _ 6 v _ at_ t (good_armed hJ.out.len hJ.out.fits (by omega) (by omega) hCr) (by show ws.length + 1 ≤ _; omega) _ hd).mono ?_
              rintro e w5 ⟨rfl, t5, b5, -⟩
              rw [HE.out] at t5
              have HK := Lib.hid (show ArmsI W d L C ((S : Int) - j) (k + 1) last ws' w5 from ⟨hJ.out.len, HF'.out, by omega, t5, ((hJ.out.bel.alloc hJ.out.bel.size _).trans b5)⟩)
              clear t5 b5
              go_wp2_with fail
              exact ⟨⟨k + 1, ws', by omega, by go_num, HK⟩, by simp [intOf]; omega⟩
            · obtain rfl : k = l.length := by omega
              have hfz := hJ.out.many
              have ho : (wait (armedSt last ((S : Int) - j) C) ws).on = true := rfl
              have hs1 : (wait (armedSt last ((S : Int) - j) C) ws).armed = false ∨ (wait (armedSt last ((S : Int) - j) C) ws).syncs ≠ 0 := .inr (by show (S : Int) - j ≠ 0; omega)
              have HOn := Lib.hid (And.intro ho hs1)
              clear ho hs1
              go_wp2_with fail
              refine (hJ.out.one.calls fun v hd => Sync_on _ _ _ 6 v _ (good_armed hJ.out.len hJ.out.fits (by omega) (by omega) hCr) HOn.out.1 HOn.out.2 _ hd).mono ?_
              rintro e w6 ⟨rfl, t6, b6, -⟩
              have hlast := all_length 6 ws last hJ.out.len hJ.out.fits
              have HK := Lib.hid (show ArmsI W d L C ((S : Int) - ((j + 1 : Nat) : Int)) 0 (all last ws) [] w6 from ⟨hlast, (fun x hx => by cases hx), Nat.le_refl _, by
                have e : ({ wait (armedSt last ((S : Int) - j) C) ws with last := all last ws, wait := [], syncs := max 0 ((S : Int) - j - 1) } : DSt) = wait (armedSt (all last ws) ((S : Int) - ((j + 1 : Nat) : Int)) C) [] := by
                  simp only [wait, armedSt]
                  congr 1
                  omega
                rw [← e]; exact t6, hJ.out.bel.trans b6⟩)
              clear t6 b6 hlast
              obtain ⟨v6, hd6⟩ := HK.out.one
              have HD6 := Lib.hid hd6
              clear hd6
              go_wp2_with fail
              refine (Waits_calls _ _ _ 6 v6 _ (fun x hx => by cases hx) (Nat.zero_le _) _ HD6.out).mono ?_
              rintro e w7 ⟨rfl, b7⟩
              have HM := Lib.hid (show ArmsI W d L C ((S : Int) - ((j + 1 : Nat) : Int)) 0 (all last ws) [] w7 from ⟨HK.out.len, HK.out.fits, Nat.le_refl _, HK.out.one.below b7, bthen HK.out.bel b7⟩)
              clear b7
              rw [show ((total (wait (armedSt (all last ws) ((S : Int) - ((j + 1 : Nat) : Int)) C) []).wait : Nat) : Int) = 0 from rfl]
              go_wp2_with fail
              exact ⟨⟨j + 1, all last ws, by omega, by go_num, HM⟩, by simp [intOf]; omega⟩
        · obtain rfl : j = S := by omega
          rw [Int.sub_self] at hI
          have hg := good_armed hI.out.len (show Fits 6 [] from (fun x hx => by cases hx)) (by simp) (show (0 : Int) ≤ 0 ∧ (0 : Int) ≤ 20 by decide) hCr
          have HG := Lib.hid hg
          clear hg
          go_wp2_with fail
          refine (hI.out.one.calls fun v hd => Sync_any _ _ _ 6 v _ HG.out _ hd).mono ?_
          rintro e w5 ⟨rfl, t5, b5, -⟩
          rw [synced_gone _ rfl rfl rfl] at t5
          rw [synced_gone _ rfl rfl rfl]
          have hw5 : (down (wait (armedSt last 0 C) []) (wait (armedSt last 0 C) []).cut).wait.length + 1 ≤ 100000 := by show 0 + 1 ≤ 100000; decide
          have hoff : (down (wait (armedSt last 0 C) []) (wait (armedSt last 0 C) []).cut).on = false := rfl
          have B5 := Lib.hid (hI.out.bel.trans b5)
          have G5 := Lib.hid (HG.out.down (wait (armedSt last 0 C) []).cut)
          generalize down (wait (armedSt last 0 C) []) (wait (armedSt last 0 C) []).cut = s5 at *
          have T5 := Lib.hid t5
          have HOff := Lib.hid hoff
          clear t5 b5 hoff
          go_wp2_with fail
          refine (Calls.mono (T5.out.calls fun v hd => (On_calls _ _ _ v _ _ hd).mono fun _ _ h => post_of_same hd h.1 h.2) ?_)
          rintro e w6 ⟨rfl, t6, b6, -⟩
          have T6 := Lib.hid t6
          have B6 := Lib.hid (B5.out.trans b6)
          clear t6 b6
          rw [HOff.out]
          go_wp2_with fail
          have e16 : ans s5 0 ⟨#[]⟩ = 16 := by simp [ans, chk, HOff.out]
          have ew : wrote s5 0 ⟨#[]⟩ = s5 := wrote_no _ _ _ (by rw [e16]; decide)
          have E16 := Lib.hid e16
          have EW := Lib.hid ew
          clear e16 ew
          refine (T6.out.calls fun v hd => Write_any _ _ _ 6 v _ 0 ⟨#[]⟩ G5.out hw5 _ hd).mono ?_
          rintro e w7 ⟨rfl, t7, b7, -⟩
          rw [E16.out]
          rw [EW.out] at t7
          have T7 := Lib.hid t7
          have B7 := Lib.hid (B6.out.trans b7)
          clear t7 b7
          go_wp2_with fail
          refine (Calls.mono (T7.out.calls fun v hd => (Up_calls _ _ _ v _ _ hd).mono fun _ _ h => post_of_only h.1 h.2.1 h.2.2) ?_)
          rintro e w8 ⟨rfl, t8, b8, -⟩
          have eu : upped s5 = { s5 with on := true, armed := false, syncs := 0, cut := 0 } := by simp [upped, HOff.out]
          rw [eu] at t8
          have T8 := Lib.hid t8
          have B8 := Lib.hid (B7.out.trans b8)
          clear t8 b8 eu
          go_wp2_with fail
          refine (Calls.mono (T8.out.calls fun v hd => (On_calls _ _ _ v _ _ hd).mono fun _ _ h => post_of_same hd h.1 h.2) ?_)
          rintro e w9 ⟨rfl, t9, b9, -⟩
          have T9 := Lib.hid t9
          have B9 := Lib.hid (B8.out.trans b9)
          clear t9 b9
          go_wp2_with fail
          have g9 : Good 6 { s5 with on := true, armed := false, syncs := 0, cut := 0 } := ⟨G5.out.fits, G5.out.len, G5.out.hn, G5.out.many, by simp, by simp⟩
          have G9 := Lib.hid g9
          clear g9
          refine (T9.out.calls fun v hd => Sync_on _ _ _ 6 v _ G9.out rfl (.inl rfl) _ hd).mono ?_
          rintro e w10 ⟨rfl, t10, b10, -⟩
          have T10 := Lib.hid t10
          have B10 := Lib.hid (B9.out.trans b10)
          clear t10 b10
          go_wp2_with fail
          refine (T10.out.calls fun v hd => Sync_on _ _ _ 6 v _ ⟨(fun x hx => by cases hx), all_length 6 _ _ G9.out.len G9.out.fits, G9.out.hn, Nat.zero_le _, by show 0 ≤ max 0 ((0 : Int) - 1) ∧ max 0 ((0 : Int) - 1) ≤ 9223372036854775807; decide, by simp⟩ rfl (.inl rfl) _ hd).mono ?_
          rintro e w11 ⟨rfl, -, b11, -⟩
          have B11 := Lib.hid (B10.out.trans b11)
          clear b11
          go_wp2_with fail
          go_ret
          exact ⟨rfl, B11.out⟩
end Go.Proofs.Ytopacbmdoognjaa.Disk
