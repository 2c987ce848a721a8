/- The walk of DiskFalls. -/
import Derived.Test.YtopacbmdoognjaaDiskActs
import Derived.Deep.RegionHeld3
namespace Go.Proofs.Ytopacbmdoognjaa.Disk
open Go Go.RowKit Frame
def wait (s : DSt) (ws : List Wr) : DSt := { s with wait := ws }
theorem wrote_wait (s : DSt) (ws : List Wr) (k : Int) (t : ByteArray) (h : ans (wait s ws) k t = 0) : wrote (wait s ws) k t = wait s (ws ++ [(k.toNat, t)]) := by
  unfold wrote
  rw [if_pos h]
  rfl
theorem wrote_no (s : DSt) (k : Int) (t : ByteArray) (h : ans s k t ≠ 0) : wrote s k t = s := by
  unfold wrote
  rw [if_neg h]
theorem wr_cut (s : DSt) (ws vs : List Wr) (k : Int) (t t' : ByteArray) (h : ans (wait s ws) k t = 0) (ht : t'.size ≤ t.size) : ans (wait s vs) k t' = 0 := by
  obtain ⟨h1, h2⟩ := ans_zero h
  have h3 : chk (wait s vs) k = 0 := h1
  unfold ans
  rw [if_neg (by simp [h3]), if_neg (by omega)]
/-- What the loop has done behind some acts. -/
structure FallsI (W : World) (d1 L1 d2 L2 : Nat) (c0 : Int) (k : Nat) (ws : List Wr) (w : World) : Prop where
  fits : Fits 6 ws
  len : ws.length ≤ k
  two : Two W.heap.size d1 L1 d2 L2 (wait (fresh 6) ws) (wait (fresh 6) (cutws ws c0)) w
  bel : Below W.heap.size W w
theorem good_wait {ws : List Wr} (hf : Fits 6 ws) (hl : ws.length ≤ 1000) : Good 6 (wait (fresh 6) ws) := by
  have h := Good.fresh 6 (by decide)
  exact ⟨hf, h.len, h.hn, by show ws.length ≤ 100000; omega, h.syncs, h.cut⟩
theorem FallsI.start {W : World} {d1 L1 d2 L2 : Nat} {c0 : Int} {w : World} (h : Two W.heap.size d1 L1 d2 L2 (fresh 6) (fresh 6) w) (hb : Below W.heap.size W w) : FallsI W d1 L1 d2 L2 c0 0 [] w :=
  ⟨(fun x hx => by cases hx), by simp, h, hb⟩
theorem upto_min (a : Int) (n m : Nat) (hm : min a (n : Int) = (m : Int)) : upto a n = m := by unfold upto; omega
/-- One more write, done to both. -/
theorem FallsI.next {W : World} {d1 L1 d2 L2 : Nat} {c0 : Int} {k : Nat} {ws : List Wr} {w w' : World} {a : Int} {t : ByteArray} {n : Nat} (h : FallsI W d1 L1 d2 L2 c0 k ws w) (hz : ans (wait (fresh 6) ws) a t = 0) (hn : upto (left ws c0) t.size = n)
    (ht : Two W.heap.size d1 L1 d2 L2 (wait (fresh 6) (ws ++ [(a.toNat, t)])) (wait (fresh 6) (cutws ws c0 ++ [(a.toNat, t.extract 0 n)])) w') (hb : Below W.heap.size W w') : FallsI W d1 L1 d2 L2 c0 (k + 1) (ws ++ [(a.toNat, t)]) w' := by
  obtain ⟨h1, h2⟩ := ans_zero hz
  obtain ⟨_, h3, h4⟩ := chk_zero h1
  have hl : (wait (fresh 6) ws).last.length = 64 * 6 := (Good.fresh 6 (by decide)).len
  refine ⟨h.fits.append (fun x hx => ?_), by have := h.len; simp; omega, ?_, hb⟩
  · simp only [List.mem_singleton] at hx
    subst hx
    exact ⟨by simp only; omega, h2⟩
  · rw [cutws_append]
    simp only [cutws, hn]
    exact ht
theorem left_snoc (ws : List Wr) (k : Nat) (t : ByteArray) (c : Int) (n : Nat) (hn : upto (left ws c) t.size = n) : left (ws ++ [(k, t)]) c = left ws c - (n : Int) := by
  rw [left_append]
  simp only [left, hn]
theorem Good.down {n : Nat} {s : DSt} (h : Good n s) (c : Int) : Good n (down s c) := by
  unfold Disk.down
  split
  · exact ⟨(fun x hx => by cases hx), done_length n _ _ _ h.len h.fits, h.hn, Nat.zero_le _, h.syncs, h.cut⟩
  · exact h
theorem Two.drew {base d1 L1 d2 L2 : Nat} {s1 s2 : DSt} {w : World} (h : Two base d1 L1 d2 L2 s1 s2 w) : Two base d1 L1 d2 L2 s1 s2 w.drew := h.below ⟨rfl, rfl, rfl, Nat.le_refl _, fun _ _ => rfl⟩
set_option maxRecDepth 100000 in
set_option maxHeartbeats 2000000 in
theorem DiskFalls_walk (A : Option Addr) (c : Nat) (l : List DAct) (cut : Int) (W : World) (hA : Acts W.heap.size A l W) (hO : ∀ x ∈ l, x.Ok) (hl : l.length ≤ maxLen) (hc : -9223372036854775808 ≤ cut ∧ cut ≤ 9223372036854775807) :
    Calls Try.prog 4 #[.slice A l.length c, .int .i64 cut] W fun e w' => e = .returned (.bool true) ∧ Below W.heap.size W w' := by
  have HA := Lib.hid hA
  have HO := Lib.hid hO
  have HL := Lib.hid hl
  clear hA hO hl
  have hg6 := Good.fresh 6 (by decide)
  go_enter Try.func4, Try.ntmps4
  go_wp2_with fail
  refine (awake_calls _).mono ?_
  rintro e w1 ⟨rfl, b1⟩
  have B1 := Lib.hid b1
  have HA1 := Lib.hid ((HA.out.below b1).more b1.size)
  clear b1
  go_wp2_with fail
  refine (Light_calls A c l _ HA1.out HL.out).mono ?_
  rintro e w2 ⟨rfl, b2⟩
  have B2 := Lib.hid (bthen B1.out b2)
  clear b2
  cases hL : lightB l with
  | false =>
    go_wp2_with fail
    go_ret
    exact ⟨rfl, B2.out⟩
  | true =>
    have HT := Lib.hid (light_iff hL)
    clear hL
    have hn := HT.out.1
    go_wp2_with fail
    refine (New_one 6 (by decide) _).mono ?_
    rintro e w3 ⟨rfl, o3, b3⟩
    have O3 := Lib.hid (o3.base B2.out.size)
    have B3 := Lib.hid (bthen B2.out b3)
    clear o3 b3
    go_wp2_with fail
    refine (New_one 6 (by decide) _).mono ?_
    rintro e w4 ⟨rfl, o4, b4⟩
    have B4 := Lib.hid (bthen B3.out b4)
    have h24 := b4.size
    have T4 := Lib.hid (O3.out.and b4 o4)
    clear o4 b4
    generalize w2.heap.size + 1 = d1 at *
    generalize w3.heap.size + 1 = d2 at *
    have hB : W.heap.size ≤ w2.heap.size := B2.out.size
    generalize w2.heap.size = L1 at *
    generalize w3.heap.size = L2 at *
    obtain ⟨c0, hc0⟩ : ∃ c0 : Int, max cut 0 = c0 := ⟨_, rfl⟩
    have HC0 := Lib.hid hc0
    have hc0n : 0 ≤ c0 ∧ c0 ≤ 9223372036854775807 := by omega
    go_wp2_with fail
    go_loopw [7, 22] (fun t i wr => ∃ (k : Nat) (ws : List Wr), k ≤ l.length ∧ i = .int .i64 k ∧ t = .int .i64 (left ws c0) ∧ Hid (FallsI W d1 L1 d2 L2 c0 k ws wr)) (fun _ i _ => l.length - (intOf i).toNat)
    case atStart => exact ⟨0, [], by omega, rfl, by simp [left], Lib.hid (FallsI.start T4.out B4.out)⟩
    case round =>
      obtain ⟨k, ws, hk, rfl, rfl, hI⟩ := hrel
      by_cases hlt : k < l.length
      · obtain ⟨b, off, rfl, hbl, hi⟩ := (HA.out.below hI.out.bel) (by omega)
        obtain ⟨r0, r1, r2, r3⟩ := hi k hlt
        clear hi
        have hll := left_le ws c0
        have hx := HT.out.2 _ (getD_mem l k hlt)
        have hxo := (HO.out _ (getD_mem l k hlt)).1
        generalize l.getD k default = x at *
        obtain ⟨kd, at_, ct, t⟩ := x
        simp only at r0 r1 r2 r3 hx hxo
        have hfz := hI.out.len
        have hg := good_wait hI.out.fits (by omega)
        have hg2 := good_wait (hI.out.fits.cutws ws c0) (by rw [cutws_length]; omega)
        have HG := Lib.hid (And.intro hg hg2)
        have HN := Lib.hid (Has.new wr #[.int .u8 (kd.toNat : Int), .int .i64 at_, .int .i64 ct, .string t] 42)
        clear hg hg2
        go_wp2_with fail
        refine ((hI.out.two.below ((Below.refl _ _).alloc (Nat.le_refl _) _)).calls fun v hd => Write_any _ _ _ 6 v _ at_ t HG.out.1 (by show ws.length + 1 ≤ _; omega) _ hd).mono ?_
        rintro e w5 ⟨rfl, t5, b5, k5⟩
        have HN5 := Lib.hid (k5 _ _ _ (by decide) (by decide) (by decide) HN.out)
        have B5 := Lib.hid (((hI.out.bel.alloc hI.out.bel.size _).trans b5))
        have T5 := Lib.hid t5
        clear t5 b5 k5
        have y1 := HN5.out.cell 1
        have y3 := HN5.out.cell 3
        by_cases hz : ans (wait (fresh 6) ws) at_ t = 0
        · rw [hz]
          have HZ := Lib.hid hz
          obtain ⟨n, hn⟩ : ∃ n : Nat, min (left ws c0) (t.size : Int) = (n : Int) := ⟨(min (left ws c0) (t.size : Int)).toNat, by omega⟩
          have HU := Lib.hid (upto_min _ _ _ hn)
          have hnt : n ≤ t.size := by omega
          have hnl : (n : Int) ≤ left ws c0 := by omega
          have HLS := Lib.hid (left_snoc ws at_.toNat t c0 n HU.out)
          have HW := Lib.hid (wrote_wait _ _ _ _ hz)
          have HW2 := Lib.hid (wr_cut _ _ (cutws ws c0) _ _ (t.extract 0 n) hz (by simp; omega))
          clear hz
          generalize hlf : left ws c0 = lf at *
          have HLF := Lib.hid hlf
          clear hlf
          have hn0 : (0 : Int) ≤ (n : Int) := by omega
          have hn1 : (n : Int) ≤ (t.size : Int) := by omega
          go_wp2_with fail
          go_region_held3 (fun w' => w'.cell? ⟨wr.heap.size, 1, none⟩ = some (.int .i64 at_) ∧ w'.cell? ⟨wr.heap.size, 3, none⟩ = some (.string t)) (first | exact ⟨y1, y3⟩ | (have h := k6 _ _ _ (by decide) (by decide) (by decide) HN5.out.drew; exact ⟨h.cell 1, h.cell 3⟩) | go_keep)
            ((go_at_call 27; refine (T5.out.swap.drew.calls fun v hd => Write_any _ _ _ 6 v _ at_ (t.extract 0 n) HG.out.2 (by show (cutws ws c0).length + 1 ≤ _; rw [cutws_length]; omega) _ hd).mono ?_; rintro e w6 ⟨rfl, t6, b6, k6⟩))
          rw [HW2.out]
          have HJ := Lib.hid (show FallsI W d1 L1 d2 L2 c0 (k + 1) (ws ++ [(at_.toNat, t)]) w6 from by
            have h6 := t6.swap
            rw [HW.out, wrote_wait _ _ _ _ HW2.out] at h6
            exact hI.out.next HZ.out (by rw [HLF.out]; exact HU.out) h6 (B5.out.drew.trans b6))
          clear t6 b6 k6
          go_wp2_with fail
          exact ⟨⟨k + 1, _, by omega, by go_num, by rw [HLS.out], HJ⟩, by simp [intOf]; omega⟩
        · have HW := Lib.hid (wrote_no _ _ _ hz)
          have hz' : (ans (wait (fresh 6) ws) at_ t != 0) = true := by simpa using hz
          generalize ans (wait (fresh 6) ws) at_ t = z at *
          go_wp2_with fail
          have HJ := Lib.hid (show FallsI W d1 L1 d2 L2 c0 (k + 1) ws w5 from ⟨hI.out.fits, by omega, by have := T5.out; rw [HW.out] at this; exact this, B5.out⟩)
          exact ⟨⟨k + 1, ws, by omega, by go_num, rfl, HJ⟩, by simp [intOf]; omega⟩
      · obtain rfl : k = l.length := by omega
        have hfz := hI.out.len
        have hg := good_wait hI.out.fits (by omega)
        have hg2 := good_wait (hI.out.fits.cutws ws c0) (by rw [cutws_length]; omega)
        have HG := Lib.hid (And.intro hg hg2)
        clear hg hg2
        have HT5 := Lib.hid hI.out.two
        have HB5 := Lib.hid hI.out.bel
        generalize left ws c0 = lf at *
        go_wp2_with fail
        refine (HT5.out.calls fun v hd => Down_calls _ _ _ 6 v _ cut hc HG.out.1 _ hd).mono ?_
        rintro e w6 ⟨rfl, t6, b6, -⟩
        have T6 := Lib.hid t6.swap
        have B6 := Lib.hid (HB5.out.trans b6)
        clear t6 b6
        go_wp2_with fail
        refine (T6.out.calls fun v hd => Sync_any _ _ _ 6 v _ HG.out.2 _ hd).mono ?_
        rintro e w7 ⟨rfl, t7, b7, -⟩
        have B7 := Lib.hid (B6.out.trans b7)
        rw [synced_on _ rfl (.inl rfl)] at t7
        rw [synced_on _ rfl (.inl rfl)]
        have T7 := Lib.hid t7.swap
        clear t7 b7
        go_wp2_with fail
        refine (Calls.mono (T7.out.calls fun v hd => (Lasts_calls _ _ _ v _ _ hd).mono fun _ _ h => post_of_same hd h.1 h.2) ?_)
        rintro e w8 ⟨rfl, t8, b8, -⟩
        have B8 := Lib.hid (B7.out.trans b8)
        have T8 := Lib.hid t8.swap
        clear t8 b8
        have HE := Lib.hid (show Oct.bs (down (wait (fresh 6) ws) cut).last = Oct.bs (all (wait (fresh 6) (cutws ws c0)).last (wait (fresh 6) (cutws ws c0)).wait) from by
          show Oct.bs (done (fresh 6).last ws cut) = Oct.bs (all (fresh 6).last (cutws ws c0))
          rw [all_cutws, show c0 = max 0 cut by have := HC0.out; omega, done_max])
        rw [HE.out]
        have HO2 := Lib.hid (show (down (wait (fresh 6) ws) cut).on = false from rfl)
        go_wp2_with fail
        refine (Calls.mono (T8.out.calls fun v hd => (Lasts_calls _ _ _ v _ _ hd).mono fun _ _ h => post_of_same hd h.1 h.2) ?_)
        rintro e w9 ⟨rfl, t9, b9, -⟩
        have B9 := Lib.hid (B8.out.trans b9)
        have T9 := Lib.hid t9.swap
        clear t9 b9
        go_wp2_with fail
        refine (T9.out.calls fun v hd => Sync_any _ _ _ 6 v _ (HG.out.1.down cut) _ hd).mono ?_
        rintro e w10 ⟨rfl, t10, b10, -⟩
        rw [synced_off _ HO2.out]
        have B10 := Lib.hid (B9.out.trans b10)
        clear t10 b10
        go_wp2_with fail
        go_ret
        exact ⟨rfl, B10.out⟩
end Go.Proofs.Ytopacbmdoognjaa.Disk
