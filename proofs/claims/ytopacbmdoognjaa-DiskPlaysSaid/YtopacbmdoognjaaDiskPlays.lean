/- The walk of DiskPlays. -/
import Derived.Test.YtopacbmdoognjaaDiskNil
namespace Go.Proofs.Ytopacbmdoognjaa.Disk
open Go Go.RowKit Frame
/-- Behind some acts: both disks. -/
structure PlayI (W : World) (d L n k : Nat) (s : DSt) (v : Value) (w : World) : Prop where
  good : Good n s
  inv : Inv s
  many : s.wait.length ≤ k
  one : One W.heap.size d L s w
  rw_ : RW v s.wait w
  bel : Below W.heap.size W w
theorem One.set6_other {base d L : Nat} {s : DSt} {w : World} (h : One base d L s w) {m : Nat} {cs : Array Value} {t : TypeId} (hm : Has m cs t w) (h1 : t ≠ 112) (h2 : t ≠ 5) (h3 : t ≠ 115) (v0 v1 v2 v3 v4 v5 : Value) : One base d L s (set6 w m v0 v1 v2 v3 v4 v5) :=
  (((((h.set_other hm h1 h2 h3 v0).set_other (hm.set v0) h1 h2 h3 v1).set_other ((hm.set v0).set v1) h1 h2 h3 v2).set_other (((hm.set v0).set v1).set v2) h1 h2 h3 v3).set_other ((((hm.set v0).set v1).set v2).set v3) h1 h2 h3 v4).set_other (((((hm.set v0).set v1).set v2).set v3).set v4) h1 h2 h3 v5
/-- At the head of the loop: besides, the document's disk in its block. -/
structure PlayJ (W : World) (d L n p k : Nat) (s : DSt) (v : Value) (w : World) : Prop where
  i : PlayI W d L n k s v w
  q : RHas p (canon s) v w
  hp : W.heap.size ≤ p
theorem RHas.below {b : Nat} {s : DSt} {v : Value} {w w' : World} (h : RHas b s v w) (hb : Below w.heap.size w w') : RHas b s v w' := Has.below h hb
theorem RHas.kept {b : Nat} {s : DSt} {v : Value} {w w' : World} (h : RHas b s v w) (hb : Kept w w') : RHas b s v w' := hb _ _ _ (by decide) (by decide) (by decide) h
theorem PlayI.below {W : World} {d L n k : Nat} {s : DSt} {v : Value} {w w' : World} (h : PlayI W d L n k s v w) (hb : Below w.heap.size w w') : PlayI W d L n k s v w' :=
  ⟨h.good, h.inv, h.many, h.one.below hb, h.rw_.below hb, bthen h.bel hb⟩
set_option maxRecDepth 100000 in
set_option maxHeartbeats 4000000 in
theorem DiskPlays_walk (blocks : Int) (A : Option Addr) (c : Nat) (l : List DAct) (W : World) (hA : Acts W.heap.size A l W) (hO : ∀ x ∈ l, x.Ok) (hl : l.length ≤ maxLen) :
    Calls Try.prog 10 #[.int .i64 blocks, .slice A l.length c] W fun e w' => e = .returned (.bool true) ∧ Below W.heap.size W w' := by
  have HA := Lib.hid hA
  have HL := Lib.hid hl
  have HO := Lib.hid hO
  clear hA hO hl
  obtain ⟨m, hm⟩ : ∃ m : Nat, max 0 (min blocks 4096) = (m : Int) := ⟨(max 0 (min blocks 4096)).toNat, by omega⟩
  obtain ⟨n, hn⟩ : ∃ n : Nat, heldN blocks 8 = (n : Int) := ⟨(max 0 (min blocks 8)).toNat, by unfold heldN; omega⟩
  have hn8 : n ≤ 8 := by unfold heldN at hn; omega
  have HM := Lib.hid hm
  have HN := Lib.hid hn
  have HM2 := Lib.hid (show heldN blocks 4096 = (m : Int) from hm)
  have hmm : m ≤ 4096 := by omega
  clear hm hn
  go_enter Try.func10, Try.ntmps10
  go_wp2_with fail
  refine (awake_calls _).mono ?_
  rintro e w1 ⟨rfl, b1⟩
  have B1 := Lib.hid b1
  have HA1 := Lib.hid ((HA.out.below b1).more b1.size)
  clear b1
  go_wp2_with fail
  refine (Light_calls A c l _ HA1.out HL.out).mono ?_
  rintro e w2 ⟨rfl, b2⟩
  have B2 := Lib.hid (bthen B1.out b2)
  clear b2
  cases hL : lightB l with
  | false =>
    go_wp2_with fail
    go_ret
    exact ⟨rfl, B2.out⟩
  | true =>
    have HT := Lib.hid (light_iff hL)
    clear hL
    have hlen := HT.out.1
    go_wp2_with fail
    refine (New_any blocks m HM.out _).mono ?_
    rintro e w3 ⟨rfl, o3, b3⟩
    have B3 := Lib.hid (bthen B2.out b3)
    obtain ⟨v3, h3⟩ := o3
    have H3 := Lib.hid h3
    clear b3 h3
    go_wp2_with fail
    have hfl : (fresh m).last.length = 64 * m := by simp [fresh]
    have HFL := Lib.hid hfl
    refine (Blocks_calls _ _ _ v3 (fresh m) (by rw [HFL.out]; omega) _ H3.out).mono ?_
    rintro e w4 ⟨rfl, rfl⟩
    rw [HFL.out, show ((64 * m : Nat) : Int) / 64 = (m : Int) by omega]
    clear hfl
    go_wp2_with fail
    refine (Held_calls _ _ _).mono ?_
    rintro e w4 ⟨rfl, rfl⟩
    rw [HM2.out]
    go_wp2_with fail
    refine (Held_calls _ _ _).mono ?_
    rintro e w4 ⟨rfl, rfl⟩
    rw [HN.out]
    go_wp2_with fail
    refine (New_one n (by omega) _).mono ?_
    rintro e w4 ⟨rfl, o4, b4⟩
    have O4 := Lib.hid (o4.base B3.out.size)
    have B4 := Lib.hid (bthen B3.out b4)
    have h34 := b4.size
    clear o4 b4
    go_wp2_with fail
    refine (rNew_calls n (by omega) _).mono ?_
    rintro e w5 ⟨rfl, b5⟩
    have HI := Lib.hid (show PlayI W (w3.heap.size + 1) w3.heap.size n 0 (fresh n) (.slice none 0 0) w5 from
      ⟨Good.fresh n (by omega), ⟨fun e => by simp [fresh] at e, fun _ _ => rfl⟩, Nat.le_refl _, O4.out.below b5, RW.nil _, bthen B4.out b5⟩)
    have hs5 := b5.size
    have hW3 := B3.out.size
    clear b5
    generalize w3.heap.size + 1 = d at *
    generalize w3.heap.size = L at *
    have HCF := Lib.hid (show canon (fresh n) = fresh n from rfl)
    have HJ := Lib.hid (show PlayJ W d L n w5.heap.size 0 (fresh n) (.slice none 0 0) (w5.alloc (.cells (RCells (fresh n) (.slice none 0 0)) 63)) from
      ⟨HI.out.below ((Below.refl _ _).alloc (Nat.le_refl _) _), by rw [HCF.out]; exact RHas.new _ _ _, by omega⟩)
    unfold RD
    unfold RCells at HJ
    go_wp2_with fail
    generalize w5.alloc (.cells #[.string (Oct.bs (fresh n).last), .slice none 0 0, .bool (fresh n).on, .bool (fresh n).armed, .int .i64 (fresh n).syncs, .int .i64 (fresh n).cut] 63) = w6 at *
    generalize w5.heap.size = p at *
    go_loopw [34] (fun i wr => ∃ (k : Nat) (s : DSt) (v : Value), k ≤ l.length ∧ i = .int .i64 k ∧ Hid (PlayJ W d L n p k s v wr)) (fun i _ => l.length - (intOf i).toNat)
    case atStart => exact ⟨0, _, _, by omega, rfl, HJ⟩
    case round =>
      obtain ⟨k, s, v, hk, rfl, hI⟩ := hrel
      by_cases hlt : k < l.length
      · obtain ⟨b, off, rfl, hbl, hi⟩ := (HA.out.below hI.out.i.bel) (by omega)
        obtain ⟨r0, r1, r2, r3⟩ := hi k hlt
        clear hi
        have HXO := Lib.hid (HO.out _ (getD_mem l k hlt))
        generalize l.getD k default = x at *
        have hfz := hI.out.i.many
        have hst := step_inv n s x HXO.out hI.out.i.good hI.out.i.inv (by omega)
        have HST := Lib.hid hst
        have hmany := hst.2.2
        clear hst
        have HXB := Lib.hid (((Below.refl wr.heap.size wr).alloc (Nat.le_refl _) (.cells #[.int .u8 x.kind.toNat, .int .i64 x.at_, .int .i64 x.cut, .string x.text] 42)))
        have HDO := Lib.hid (do_any W.heap.size d L n s v x HXO.out hI.out.i.good (by omega) hI.out.i.inv (wr.alloc (.cells #[.int .u8 x.kind.toNat, .int .i64 x.at_, .int .i64 x.cut, .string x.text] 42)) (by have := hI.out.i.bel.size; simp; omega) (hI.out.i.one.below HXB.out) (hI.out.i.rw_.below HXB.out))
        have HQ := Lib.hid (hI.out.q.below HXB.out)
        have HBX := Lib.hid (bthen hI.out.i.bel HXB.out)
        have hhp := hI.out.hp
        have k0 := HQ.out.c0; have k1 := HQ.out.c1; have k2 := HQ.out.c2; have k3 := HQ.out.c3; have k4 := HQ.out.c4; have k5 := HQ.out.c5
        have hpl := Has.lt hI.out.q
        obtain ⟨Av, capv, rfl, -⟩ := hI.out.i.rw_.row
        unfold RD actCells at HDO
        generalize hqq : canon s = q at *
        clear hqq
        go_wp2_with fail
        refine HDO.out.mono ?_
        rintro e w7 ⟨v', rfl, o7, r7, b7, kk7⟩
        obtain ⟨A7, cap7, rfl, -⟩ := r7.row
        have HP7 := Lib.hid (HQ.out.kept kk7)
        have hI7 : PlayI W d L n (k + 1) (step s x) (.slice A7 (step s x).wait.length cap7) w7 := ⟨HST.out.1, HST.out.2.1, by omega, o7, r7, HBX.out.trans b7⟩
        have HI7 := Lib.hid hI7
        have hs7 : W.heap.size ≤ w7.heap.size := hI7.bel.size
        have hps7 : p < w7.heap.size := Has.lt HP7.out
        clear o7 r7 b7 kk7 hI7 k0 k1 k2 k3 k4 k5 HST HDO HQ HBX HXB
        generalize step s x = s7 at *
        obtain ⟨ar, sy, ct, hq⟩ : ∃ ar sy ct, canon s7 = ⟨s7.last, s7.wait, s7.on, ar, sy, ct⟩ := ⟨(canon s7).armed, (canon s7).syncs, (canon s7).cut, by
          have e1 := canon_last s7
          have e2 := canon_is s7
          have e3 := canon_wait s7
          generalize canon s7 = q at *
          obtain ⟨a, b, c, d, e, f⟩ := q
          simp only at e1 e2 e3
          subst e1 e2 e3
          rfl⟩
        have HQ7 := Lib.hid hq
        have HRD := Lib.hid (show RD (canon s7) (.slice A7 s7.wait.length cap7) = .agg #[.string (Oct.bs s7.last), .slice A7 s7.wait.length cap7, .bool s7.on, .bool ar, .int .i64 sy, .int .i64 ct] by rw [hq]; rfl)
        clear hq
        have HN7 := Lib.hid (RHas.new w7 ⟨s7.last, s7.wait, s7.on, ar, sy, ct⟩ (.slice A7 s7.wait.length cap7))
        have HWT := Lib.hid (fun W h => rWaits_calls n ⟨s7.last, s7.wait, s7.on, ar, sy, ct⟩ (.slice A7 s7.wait.length cap7) HI7.out.good.fits HI7.out.good.many W h)
        unfold RD at HWT
        unfold RCells at HN7
        simp only at HWT HN7
        rw [HRD.out]
        go_wp2_with fail
        have HB8 := Lib.hid ((Below.refl w7.heap.size w7).alloc (Nat.le_refl _) (.cells #[.string (Oct.bs s7.last), .slice A7 s7.wait.length cap7, .bool s7.on, .bool ar, .int .i64 sy, .int .i64 ct] 63))
        have HI8 := Lib.hid (HI7.out.below HB8.out)
        have HP8 := Lib.hid (HP7.out.below HB8.out)
        generalize w7.alloc (.cells #[.string (Oct.bs s7.last), .slice A7 s7.wait.length cap7, .bool s7.on, .bool ar, .int .i64 sy, .int .i64 ct] 63) = w8 at *
        generalize w7.heap.size = P at *
        have HI9 := Lib.hid (HI8.out.below (Below.drew (Below.refl _ _)))
        have HN9 := Lib.hid (show RHas P ⟨s7.last, s7.wait, s7.on, ar, sy, ct⟩ (.slice A7 s7.wait.length cap7) w8.drew from HN7.out.drew)
        obtain ⟨v8, hd8⟩ := HI9.out.one
        have HD8 := Lib.hid hd8
        have hl8 : s7.last.length = 64 * n := HI9.out.good.len
        have hdv : ((64 * n : Nat) : Int) / 64 = (n : Int) := by omega
        have HLV := Lib.hid (show (s7.last.length : Int) / 64 = (n : Int) by rw [hl8]; omega)
        have HL8 := Lib.hid (show s7.last.length ≤ 262144 by omega)
        clear hd8 hl8 hdv
        have y0 := HN9.out.c0; have y1 := HN9.out.c1; have y2 := HN9.out.c2; have y3 := HN9.out.c3; have y4 := HN9.out.c4; have y5 := HN9.out.c5
        simp only at y0 y2 y3 y4 y5
        go_region_held3 (fun w' => w'.cell? ⟨P, 0, none⟩ = some (.string (Oct.bs s7.last)) ∧ w'.cell? ⟨P, 1, none⟩ = some (.slice A7 s7.wait.length cap7) ∧ w'.cell? ⟨P, 2, none⟩ = some (.bool s7.on) ∧ w'.cell? ⟨P, 3, none⟩ = some (.bool ar) ∧ w'.cell? ⟨P, 4, none⟩ = some (.int .i64 sy) ∧ w'.cell? ⟨P, 5, none⟩ = some (.int .i64 ct))
          (first
            | exact ⟨y0, y1, y2, y3, y4, y5⟩
            | (have h := (HN9.out.below b9).below b10; exact ⟨h.c0, h.c1, h.c2, h.c3, h.c4, h.c5⟩)
            | (have h := HN9.out.below b9; exact ⟨h.c0, h.c1, h.c2, h.c3, h.c4, h.c5⟩))
          (first
            | (go_at_call 30; refine (Lasts_calls _ _ _ v8 _ _ HD8.out).mono ?_; rintro e w9 ⟨rfl, rfl⟩)
            | (go_at_call 34; refine (Waits_calls _ _ _ n v8 _ HI9.out.good.fits HI9.out.good.many _ HD8.out).mono ?_; rintro e w9 ⟨rfl, b9⟩)
            | (go_at_call 53; refine (HWT.out _ (HI9.out.rw_.below b9)).mono ?_; rintro e w10 ⟨rfl, b10⟩)
            | (go_at_call 33; refine (On_calls _ _ _ v8 _ _ ((HD8.out.below b9).below b10)).mono ?_; rintro e w11 ⟨rfl, rfl⟩)
            | (go_at_call 49; refine (Blocks_calls _ _ _ v8 _ HL8.out _ ((HD8.out.below b9).below b10)).mono ?_; rintro e w11 ⟨rfl, rfl⟩))
        have hlv := HLV.out
        have HN10 := Lib.hid ((HN9.out.below b9).below b10)
        have HP10 := Lib.hid (((HP8.out.below (Below.drew (Below.refl _ _))).below b9).below b10)
        have HI10 := Lib.hid ((HI9.out.below b9).below b10)
        clear y0 y1 y2 y3 y4 y5 b9 b10
        have y0 := HN10.out.c0; have y1 := HN10.out.c1; have y2 := HN10.out.c2; have y3 := HN10.out.c3; have y4 := HN10.out.c4; have y5 := HN10.out.c5
        simp only at y0 y2 y3 y4 y5
        have k0 := HP10.out.c0; have k1 := HP10.out.c1; have k2 := HP10.out.c2; have k3 := HP10.out.c3; have k4 := HP10.out.c4; have k5 := HP10.out.c5
        have kf := Has.frozen HP10.out
        go_wp2_with fail
        have HF := Lib.hid (show PlayJ W d L n p (k + 1) s7 (.slice A7 s7.wait.length cap7) (set6 w10 p (.string (Oct.bs s7.last)) (.slice A7 s7.wait.length cap7) (.bool s7.on) (.bool ar) (.int .i64 sy) (.int .i64 ct)) from by
          have hh := HP10.out
          have hi := HI10.out
          have h2 := ((((((Has.set (i := 0) hh (.string (Oct.bs s7.last))).set (i := 1) (.slice A7 s7.wait.length cap7)).set (i := 2) (.bool s7.on)).set (i := 3) (.bool ar)).set (i := 4) (.int .i64 sy)).set (i := 5) (.int .i64 ct))
          refine ⟨⟨hi.good, hi.inv, hi.many, hi.one.set6_other hh (by decide) (by decide) (by decide) _ _ _ _ _ _, hi.rw_.set6 (hi.rw_.apart hh (by decide)) _ _ _ _ _ _, below6 hi.bel hI.out.hp _ _ _ _ _ _⟩, ?_, hI.out.hp⟩
          rw [HQ7.out]
          unfold RHas set6
          simpa [RCells] using h2)
        unfold set6 at HF
        exact ⟨⟨k + 1, s7, _, by omega, by go_num, HF⟩, by simp [intOf]; omega⟩
      · obtain rfl : k = l.length := by omega
        have HB := Lib.hid hI.out.i.bel
        go_wp2_with fail
        refine (Arm_nil _).mono ?_
        rintro e w7 ⟨rfl, rfl⟩
        go_wp2_with fail
        refine (Down_nil _).mono ?_
        rintro e w7 ⟨rfl, rfl⟩
        go_wp2_with fail
        refine (Up_nil _).mono ?_
        rintro e w7 ⟨rfl, rfl⟩
        go_wp2_with fail
        refine (Read_nil _).mono ?_
        rintro e w7 ⟨rfl, rfl⟩
        go_wp2_with fail
        refine (Write_nil _).mono ?_
        rintro e w7 ⟨rfl, rfl⟩
        go_wp2_with fail
        refine (Sync_nil _).mono ?_
        rintro e w7 ⟨rfl, rfl⟩
        go_wp2_with fail
        refine (Blocks_nil _).mono ?_
        rintro e w7 ⟨rfl, rfl⟩
        go_wp2_with fail
        refine (Waits_nil _).mono ?_
        rintro e w7 ⟨rfl, rfl⟩
        go_wp2_with fail
        refine (Lasts_nil _).mono ?_
        rintro e w7 ⟨rfl, rfl⟩
        go_wp2_with fail
        refine (On_nil _).mono ?_
        rintro e w7 ⟨rfl, rfl⟩
        go_wp2_with fail
        go_ret
        exact ⟨rfl, HB.out⟩
end Go.Proofs.Ytopacbmdoognjaa.Disk
