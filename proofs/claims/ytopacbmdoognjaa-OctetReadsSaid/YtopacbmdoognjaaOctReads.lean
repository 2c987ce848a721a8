/- The walk of OctetReads. -/
import Derived.Test.YtopacbmdoognjaaOctItems
import Derived.Test.YtopacbmdoognjaaRefNum
import Derived.Deep.QuietTactic
import Derived.BigQuiet
import Derived.Deep.RegionHeld3
namespace Go.Proofs.Ytopacbmdoognjaa.Oct
open Go Go.RowKit Frame
theorem itext_le (q : St) (m : Int) : (itext q m).2.1.length ≤ q.1.length := by
  unfold itext
  refine Nat.le_trans (raw_le _ _) ?_
  split
  · exact Nat.le_trans (fail_le _ _) (inum_le _ _)
  · exact inum_le _ _
theorem RAt.code {b : Nat} {S : List UInt8} {q : St} {w : World} (h : RAt b S q w) : w.cell? ⟨b, 2, none⟩ = some (.int .i64 q.2) := by
  obtain ⟨⟨a, ha, hh, hd⟩, hg⟩ := h
  exact hh.cell 2
/-- Both readers, in these states, and an item's copy. -/
structure Rd (S : List UInt8) (qi qr : St) (b c xb : Nat) (cs : Array Value) (w wr : World) : Prop where
  i : At b qi wr
  r : RAt c S qr wr
  x : Has xb cs 27 wr
  bel : Below w.heap.size w wr
  ne : b ≠ c ∧ xb ≠ b ∧ xb ≠ c ∧ w.heap.size ≤ b ∧ w.heap.size ≤ c
theorem Rd.iturn {S : List UInt8} {qi qr q' : St} {b c xb : Nat} {cs : Array Value} {w wr w1 : World} (h : Rd S qi qr b c xb cs w wr) (hi : At b q' w1) (ho : Only b wr w1) : Rd S q' qr b c xb cs w w1 :=
  ⟨hi, h.r.only ho h.ne.1.symm, h.x.only ho h.ne.2.1, Only.to_below h.bel ho h.ne.2.2.2.1 h.bel.size, h.ne⟩
theorem Rd.rturn {S : List UInt8} {qi qr q' : St} {b c xb : Nat} {cs : Array Value} {w wr w1 : World} (h : Rd S qi qr b c xb cs w wr) (hi : RAt c S q' w1) (ho : Only c wr w1) : Rd S qi q' b c xb cs w w1 :=
  ⟨(h.i : Has _ _ _ _).only ho h.ne.1, hi, h.x.only ho h.ne.2.2.1, Only.to_below h.bel ho h.ne.2.2.2.2 h.bel.size, h.ne⟩
theorem Rd.below {S : List UInt8} {qi qr : St} {b c xb : Nat} {cs : Array Value} {w wr w1 : World} (h : Rd S qi qr b c xb cs w wr) (hb : Below wr.heap.size wr w1) : Rd S qi qr b c xb cs w w1 :=
  ⟨(h.i : Has _ _ _ _).below hb, h.r.below hb, h.x.below hb, bthen h.bel hb, h.ne⟩
theorem Rd.drew {S : List UInt8} {qi qr : St} {b c xb : Nat} {cs : Array Value} {w wr : World} (h : Rd S qi qr b c xb cs w wr) : Rd S qi qr b c xb cs w wr.drew :=
  ⟨(h.i : Has _ _ _ _).drew, h.r.drew, h.x.drew, h.bel.drew, h.ne⟩
theorem Rd.drewN {S : List UInt8} {qi qr : St} {b c xb : Nat} {cs : Array Value} {w wr : World} (h : Rd S qi qr b c xb cs w wr) (n : Nat) : Rd S qi qr b c xb cs w (wr.drewN n) := h.below (drewN_below wr n)
/-- Both readers, in one state. -/
structure Both (S : List UInt8) (q : St) (b : Nat) (w wr : World) : Prop where
  i : At b q wr
  r : RAt (b + 1) S q wr
  le : q.1.length ≤ 300
  bel : Below w.heap.size w wr
  b0 : w.heap.size ≤ b
theorem Both.start (S : List UInt8) (hS : S.length ≤ 300) (w : World) : Both S (S, 0) w.heap.size w ((w.alloc (.cells #[.string (bs S), .int .i64 0] 116)).alloc (.cells #[.string (bs S), .int .i64 0, .int .i64 0] 55)) := by
  have h := RAt.new (w.alloc (.cells #[.string (bs S), .int .i64 0] 116)) S
  simp only [World.size_alloc] at h
  exact ⟨(Has.new w _ _).alloc _, h, hS, ((Below.refl _ _).alloc (Nat.le_refl _) _).alloc (by simp) _, Nat.le_refl _⟩
theorem Both.item {S : List UInt8} {q : St} {b : Nat} {w wr : World} (h : Both S q b w wr) (cs : Array Value) : Rd S q q b (b + 1) wr.heap.size cs w (wr.alloc (.cells cs 27)) := by
  have h1 := Has.lt h.i
  obtain ⟨⟨a, ha, hh, hd⟩, hg⟩ := h.r
  have h2 := hh.lt
  have h3 := h.b0
  have h4 : Below wr.heap.size wr (wr.alloc (.cells cs 27)) := (Below.refl _ _).alloc (Nat.le_refl _) _
  exact ⟨(h.i : Has _ _ _ _).below h4, h.r.below h4, Has.new wr _ _, bthen h.bel h4, by omega, by omega, by omega, by omega, by omega⟩
theorem Rd.both {S : List UInt8} {q : St} {b xb : Nat} {cs : Array Value} {w wr : World} (h : Rd S q q b (b + 1) xb cs w wr) (hq : q.1.length ≤ 300) : Both S q b w wr := ⟨h.i, h.r, hq, h.bel, h.ne.2.2.2.1⟩
set_option maxRecDepth 100000 in
set_option maxHeartbeats 1000000 in
theorem OctetReads_walk (s : ByteArray) (A : Option Addr) (c : Nat) (l : List Item) (code : Int) (at' : Nat) (w : World) (hA : Items A l w) (hlm : l.length ≤ maxLen) (hs : s.size ≤ maxLen) (hat : at' < 256) :
    Calls Try.prog 7 #[.string s, .slice A l.length c, .int .i64 code, .int .u8 (at' : Int)] w fun e w' => e = .returned (.bool true) ∧ Below w.heap.size w w' := by
  unfold maxLen at hs
  have HA := Lib.hid hA
  clear hA
  go_enter Try.func7, Try.ntmps7
  go_wp2_with fail
  refine (awake_calls _).mono ?_
  rintro e w1 ⟨rfl, hb1⟩
  have HA1 := Lib.hid (HA.out.below hb1)
  by_cases h300 : 300 < s.size
  · go_wp2_with fail
    go_ret
    exact ⟨rfl, hb1⟩
  go_wp2_with fail
  refine (light_calls A c l w1 HA1.out hlm).mono ?_
  rintro e w2 ⟨rfl, hb2⟩
  have HB2 := Lib.hid (bthen hb1 hb2)
  have HA2 := Lib.hid (HA1.out.below hb2)
  clear hb1 hb2 HA1
  cases hl : lightB l with
  | false =>
    go_wp2
    go_ret
    exact ⟨rfl, HB2.out⟩
  | true =>
    obtain ⟨hn, ht⟩ := light_iff hl
    clear hl ht
    go_wp2_with fail
    refine (New_calls _ _).mono ?_
    rintro e w3 ⟨rfl, rfl⟩
    have hS0 : s.data.toList.length ≤ 300 := by simp; omega
    have HB0 := Lib.hid (Both.start s.data.toList hS0 w2)
    rw [bs_self] at HB0
    clear hS0
    go_wp2_with fail
    go_loopw [30] (fun i wr => ∃ (k : Nat) (q : St), k ≤ l.length ∧ i = .int .i64 k ∧ Hid (Both s.data.toList q w2.heap.size w2 wr)) (fun i _ => l.length - (intOf i).toNat)
    case atStart => exact ⟨0, _, by omega, rfl, HB0⟩
    case round =>
      obtain ⟨k, q, hk, rfl, hB⟩ := hrel
      by_cases hlt : k < l.length
      · obtain ⟨b, off, rfl, hbw, hi⟩ := HA2.out (by omega)
        obtain ⟨c0, c1, c2, c3⟩ := hi k hlt
        have hc := fun o => hB.out.bel.cell (p := ⟨b, o, none⟩) hbw
        rw [← hc] at c0 c1 c2 c3
        clear hi hc
        generalize l.getD k default = x at *
        have hle := hB.out.le
        have HR := Lib.hid (hB.out.item #[.int .u8 x.kind.toNat, .int .u64 x.num, .int .i64 x.bytes, .string x.text])
        clear hB
        have hz : w2.heap.size + 1 < wr.heap.size := by
          obtain ⟨⟨a, ha, hh, hd⟩, hg⟩ := HR.out.r
          have h2 := hh.lt
          have h3 := HR.out.ne
          simp at h2
          omega
        by_cases hka : k = at'
        · by_cases h0 : x.kind = 0
          · have h0' : x.kind.toNat = 0 := by rw [h0]; rfl
            clear h0
            rw [h0'] at c0 HR
            clear h0'
            obtain rfl : at' = k := hka.symm
            go_wp2_with fail
            refine (Fail_calls _ q code _ HR.out.i).mono ?_
            rintro e w3 ⟨rfl, h3, h4⟩
            have HR3 := Lib.hid (HR.out.iturn h3 h4)
            clear h3 h4
            go_wp2_with fail
            refine (RFail_calls _ _ q code _ HR3.out.r).mono ?_
            rintro e w4 ⟨rfl, h3, h4⟩
            have HR4 := Lib.hid (HR3.out.rturn h3 h4)
            have hle4 := Nat.le_trans (fail_le q code) hle
            clear h3 h4 HR3 HR hle
            generalize fail q code = q4 at *
            have x0 : w4.cell? ⟨wr.heap.size, 0, none⟩ = some (.int .u8 0) := HR4.out.x.cell 0
            have x2 : w4.cell? ⟨wr.heap.size, 2, none⟩ = some (.int .i64 x.bytes) := HR4.out.x.cell 2
            go_wp2_with fail
            have HX := Lib.hid (HR4.out.drew)
            go_region_held3 (fun w' => w'.cell? ⟨wr.heap.size, 2, none⟩ = some (.int .i64 x.bytes)) (first | exact HX.out.x.cell 2 | exact y2 | go_keep) (first | (go_at_call 38; refine (Num_calls _ q4 x.bytes (by unfold maxLen; omega) _ HX.out.i).mono ?_; rintro e w5 ⟨rfl, h3, h4⟩; have HR5 := Lib.hid (HX.out.iturn h3 h4); clear h3 h4; have y2 : w5.cell? ⟨wr.heap.size, 2, none⟩ = some (.int .i64 x.bytes) := HR5.out.x.cell 2) | (go_at_call 39; refine (RNum_calls _ _ q4 x.bytes (by unfold maxLen; simp; omega) _ HR5.out.r).mono ?_; rintro e w6 ⟨rfl, h3, h4⟩; have HR6 := Lib.hid (HR5.out.rturn h3 h4); clear h3 h4; have y2 : w6.cell? ⟨wr.heap.size, 2, none⟩ = some (.int .i64 x.bytes) := HR6.out.x.cell 2))
            all_goals
              have hle6 := Nat.le_trans (inum_le q4 x.bytes) hle4
              clear HR5 HR4 hle4 HX
              generalize inum q4 x.bytes = r at *
              go_wp2_with fail
              have y3 := HR6.out.r.code
              go_quiet ((first | (go_at_call 44; refine (Left_calls _ r.2 _ ?_).mono ?_; exact (HR6.out.drewN _).i; exact fun _ _ ⟨he, hw⟩ => ⟨he, _, hw.symm⟩) | (go_at_call 45; refine Calls.quiet_of (RLeft_calls _ s.data.toList r.2 ?_ _ ?_); (unfold maxLen; simp; omega); exact (HR6.out.drewN _).r) | (go_at_call 46; refine (Err_calls _ r.2 _ ?_).mono ?_; exact (HR6.out.drewN _).i; exact fun _ _ ⟨he, hw⟩ => ⟨he, _, hw.symm⟩) | (go_at_call 47; refine (End_calls _ r.2 _ ?_).mono ?_; exact (HR6.out.drewN _).i; exact fun _ _ ⟨he, hw⟩ => ⟨he, _, hw.symm⟩) | (go_at_call 48; refine Calls.quiet_of (REnd_calls _ s.data.toList r.2 _ ?_); exact (HR6.out.drewN _).r)))
              go_wp2_with fail
              exact ⟨⟨at' + 1, r.2, by omega, by go_num, Lib.hid ((HR6.out.drewN _).both hle6)⟩, by simp [intOf]; omega⟩
          · have h0' : (x.kind.toNat == 0) = false := by
              have : x.kind.toNat ≠ 0 := fun h => h0 (UInt8.toNat_inj.1 h)
              simpa using this
            by_cases h1 : x.kind = 1
            · have h1' : x.kind.toNat = 1 := by rw [h1]; rfl
              clear h0 h1 h0'
              rw [h1'] at c0 HR
              clear h1'
              obtain rfl : at' = k := hka.symm
              go_wp2_with fail
              refine (Fail_calls _ q code _ HR.out.i).mono ?_
              rintro e w3 ⟨rfl, h3, h4⟩
              have HR3 := Lib.hid (HR.out.iturn h3 h4)
              clear h3 h4
              go_wp2_with fail
              refine (RFail_calls _ _ q code _ HR3.out.r).mono ?_
              rintro e w4 ⟨rfl, h3, h4⟩
              have HR4 := Lib.hid (HR3.out.rturn h3 h4)
              have hle4 := Nat.le_trans (fail_le q code) hle
              clear h3 h4 HR3 HR hle
              generalize fail q code = q4 at *
              have x0 : w4.cell? ⟨wr.heap.size, 0, none⟩ = some (.int .u8 1) := HR4.out.x.cell 0
              have x2 : w4.cell? ⟨wr.heap.size, 2, none⟩ = some (.int .i64 x.bytes) := HR4.out.x.cell 2
              go_wp2_with fail
              have HX := Lib.hid (HR4.out.drew)
              go_region_held3 (fun w' => w'.cell? ⟨wr.heap.size, 2, none⟩ = some (.int .i64 x.bytes)) (first | exact HX.out.x.cell 2 | exact y2 | go_keep) (first | (go_at_call 40; refine (Text_calls _ q4 x.bytes (by unfold maxLen; omega) _ HX.out.i).mono ?_; rintro e w5 ⟨rfl, h3, h4⟩; have HR5 := Lib.hid (HX.out.iturn h3 h4); clear h3 h4; have y2 : w5.cell? ⟨wr.heap.size, 2, none⟩ = some (.int .i64 x.bytes) := HR5.out.x.cell 2) | (go_at_call 41; refine (RText_calls _ _ q4 x.bytes (by unfold maxLen; simp; omega) _ HR5.out.r).mono ?_; rintro e w6 ⟨rfl, h3, h4⟩; have HR6 := Lib.hid (HR5.out.rturn h3 h4); clear h3 h4; have y2 : w6.cell? ⟨wr.heap.size, 2, none⟩ = some (.int .i64 x.bytes) := HR6.out.x.cell 2))
              all_goals
                have hle6 := Nat.le_trans (itext_le q4 x.bytes) hle4
                clear HR5 HR4 hle4 HX
                generalize itext q4 x.bytes = r at *
                go_wp2_with fail
                have y3 := HR6.out.r.code
                go_quiet ((first | (go_at_call 44; refine (Left_calls _ r.2 _ ?_).mono ?_; exact (HR6.out.drewN _).i; exact fun _ _ ⟨he, hw⟩ => ⟨he, _, hw.symm⟩) | (go_at_call 45; refine Calls.quiet_of (RLeft_calls _ s.data.toList r.2 ?_ _ ?_); (unfold maxLen; simp; omega); exact (HR6.out.drewN _).r) | (go_at_call 46; refine (Err_calls _ r.2 _ ?_).mono ?_; exact (HR6.out.drewN _).i; exact fun _ _ ⟨he, hw⟩ => ⟨he, _, hw.symm⟩) | (go_at_call 47; refine (End_calls _ r.2 _ ?_).mono ?_; exact (HR6.out.drewN _).i; exact fun _ _ ⟨he, hw⟩ => ⟨he, _, hw.symm⟩) | (go_at_call 48; refine Calls.quiet_of (REnd_calls _ s.data.toList r.2 _ ?_); exact (HR6.out.drewN _).r)))
                go_wp2_with fail
                exact ⟨⟨at' + 1, r.2, by omega, by go_num, Lib.hid ((HR6.out.drewN _).both hle6)⟩, by simp [intOf]; omega⟩
            · have h1' : (x.kind.toNat == 1) = false := by
                have : x.kind.toNat ≠ 1 := fun h => h1 (UInt8.toNat_inj.1 h)
                simpa using this
              clear h0 h1
              generalize x.kind.toNat = kd at *
              have h0'' : ¬ ((kd : Int) = 0) := by simp at h0'; omega
              have h1'' : ¬ ((kd : Int) = 1) := by simp at h1'; omega
              obtain rfl : at' = k := hka.symm
              go_wp2_with fail
              refine (Fail_calls _ q code _ HR.out.i).mono ?_
              rintro e w3 ⟨rfl, h3, h4⟩
              have HR3 := Lib.hid (HR.out.iturn h3 h4)
              clear h3 h4
              go_wp2_with fail
              refine (RFail_calls _ _ q code _ HR3.out.r).mono ?_
              rintro e w4 ⟨rfl, h3, h4⟩
              have HR4 := Lib.hid (HR3.out.rturn h3 h4)
              have hle4 := Nat.le_trans (fail_le q code) hle
              clear h3 h4 HR3 HR hle
              generalize fail q code = q4 at *
              have x0 : w4.cell? ⟨wr.heap.size, 0, none⟩ = some (.int .u8 kd) := HR4.out.x.cell 0
              have x2 : w4.cell? ⟨wr.heap.size, 2, none⟩ = some (.int .i64 x.bytes) := HR4.out.x.cell 2
              go_wp2_with fail
              have HX := Lib.hid (HR4.out.drew)
              go_region_held3 (fun w' => w'.cell? ⟨wr.heap.size, 2, none⟩ = some (.int .i64 x.bytes)) (first | exact HX.out.x.cell 2 | exact y2 | go_keep) (first | (go_at_call 42; refine (Raw_calls _ q4 x.bytes (by unfold maxLen; omega) _ HX.out.i).mono ?_; rintro e w5 ⟨rfl, h3, h4⟩; have HR5 := Lib.hid (HX.out.iturn h3 h4); clear h3 h4; have y2 : w5.cell? ⟨wr.heap.size, 2, none⟩ = some (.int .i64 x.bytes) := HR5.out.x.cell 2) | (go_at_call 43; refine (RRaw_calls _ _ q4 x.bytes (by unfold maxLen; simp; omega) _ HR5.out.r).mono ?_; rintro e w6 ⟨rfl, h3, h4⟩; have HR6 := Lib.hid (HR5.out.rturn h3 h4); clear h3 h4; have y2 : w6.cell? ⟨wr.heap.size, 2, none⟩ = some (.int .i64 x.bytes) := HR6.out.x.cell 2))
              all_goals
                have hle6 := Nat.le_trans (raw_le q4 x.bytes) hle4
                clear HR5 HR4 hle4 HX
                generalize raw q4 x.bytes = r at *
                go_wp2_with fail
                have y3 := HR6.out.r.code
                go_quiet ((first | (go_at_call 44; refine (Left_calls _ r.2 _ ?_).mono ?_; exact (HR6.out.drewN _).i; exact fun _ _ ⟨he, hw⟩ => ⟨he, _, hw.symm⟩) | (go_at_call 45; refine Calls.quiet_of (RLeft_calls _ s.data.toList r.2 ?_ _ ?_); (unfold maxLen; simp; omega); exact (HR6.out.drewN _).r) | (go_at_call 46; refine (Err_calls _ r.2 _ ?_).mono ?_; exact (HR6.out.drewN _).i; exact fun _ _ ⟨he, hw⟩ => ⟨he, _, hw.symm⟩) | (go_at_call 47; refine (End_calls _ r.2 _ ?_).mono ?_; exact (HR6.out.drewN _).i; exact fun _ _ ⟨he, hw⟩ => ⟨he, _, hw.symm⟩) | (go_at_call 48; refine Calls.quiet_of (REnd_calls _ s.data.toList r.2 _ ?_); exact (HR6.out.drewN _).r)))
                go_wp2_with fail
                exact ⟨⟨at' + 1, r.2, by omega, by go_num, Lib.hid ((HR6.out.drewN _).both hle6)⟩, by simp [intOf]; omega⟩
        · by_cases h0 : x.kind = 0
          · have h0' : x.kind.toNat = 0 := by rw [h0]; rfl
            clear h0
            rw [h0'] at c0 HR
            clear h0'
            go_wp2_with fail
            have HX := Lib.hid (HR.out.drew)
            go_region_held3 (fun w' => w'.cell? ⟨wr.heap.size, 2, none⟩ = some (.int .i64 x.bytes)) (first | exact HX.out.x.cell 2 | exact y2 | go_keep) (first | (go_at_call 38; refine (Num_calls _ q x.bytes (by unfold maxLen; omega) _ HX.out.i).mono ?_; rintro e w5 ⟨rfl, h3, h4⟩; have HR5 := Lib.hid (HX.out.iturn h3 h4); clear h3 h4; have y2 : w5.cell? ⟨wr.heap.size, 2, none⟩ = some (.int .i64 x.bytes) := HR5.out.x.cell 2) | (go_at_call 39; refine (RNum_calls _ _ q x.bytes (by unfold maxLen; simp; omega) _ HR5.out.r).mono ?_; rintro e w6 ⟨rfl, h3, h4⟩; have HR6 := Lib.hid (HR5.out.rturn h3 h4); clear h3 h4; have y2 : w6.cell? ⟨wr.heap.size, 2, none⟩ = some (.int .i64 x.bytes) := HR6.out.x.cell 2))
            all_goals
              have hle6 := Nat.le_trans (inum_le q x.bytes) hle
              clear HR5 HR hle HX
              generalize inum q x.bytes = r at *
              go_wp2_with fail
              have y3 := HR6.out.r.code
              go_quiet ((first | (go_at_call 44; refine (Left_calls _ r.2 _ ?_).mono ?_; exact (HR6.out.drewN _).i; exact fun _ _ ⟨he, hw⟩ => ⟨he, _, hw.symm⟩) | (go_at_call 45; refine Calls.quiet_of (RLeft_calls _ s.data.toList r.2 ?_ _ ?_); (unfold maxLen; simp; omega); exact (HR6.out.drewN _).r) | (go_at_call 46; refine (Err_calls _ r.2 _ ?_).mono ?_; exact (HR6.out.drewN _).i; exact fun _ _ ⟨he, hw⟩ => ⟨he, _, hw.symm⟩) | (go_at_call 47; refine (End_calls _ r.2 _ ?_).mono ?_; exact (HR6.out.drewN _).i; exact fun _ _ ⟨he, hw⟩ => ⟨he, _, hw.symm⟩) | (go_at_call 48; refine Calls.quiet_of (REnd_calls _ s.data.toList r.2 _ ?_); exact (HR6.out.drewN _).r)))
              go_wp2_with fail
              exact ⟨⟨k + 1, r.2, by omega, by go_num, Lib.hid ((HR6.out.drewN _).both hle6)⟩, by simp [intOf]; omega⟩
          · have h0' : (x.kind.toNat == 0) = false := by
              have : x.kind.toNat ≠ 0 := fun h => h0 (UInt8.toNat_inj.1 h)
              simpa using this
            by_cases h1 : x.kind = 1
            · have h1' : x.kind.toNat = 1 := by rw [h1]; rfl
              clear h0 h1 h0'
              rw [h1'] at c0 HR
              clear h1'
              go_wp2_with fail
              have HX := Lib.hid (HR.out.drew)
              go_region_held3 (fun w' => w'.cell? ⟨wr.heap.size, 2, none⟩ = some (.int .i64 x.bytes)) (first | exact HX.out.x.cell 2 | exact y2 | go_keep) (first | (go_at_call 40; refine (Text_calls _ q x.bytes (by unfold maxLen; omega) _ HX.out.i).mono ?_; rintro e w5 ⟨rfl, h3, h4⟩; have HR5 := Lib.hid (HX.out.iturn h3 h4); clear h3 h4; have y2 : w5.cell? ⟨wr.heap.size, 2, none⟩ = some (.int .i64 x.bytes) := HR5.out.x.cell 2) | (go_at_call 41; refine (RText_calls _ _ q x.bytes (by unfold maxLen; simp; omega) _ HR5.out.r).mono ?_; rintro e w6 ⟨rfl, h3, h4⟩; have HR6 := Lib.hid (HR5.out.rturn h3 h4); clear h3 h4; have y2 : w6.cell? ⟨wr.heap.size, 2, none⟩ = some (.int .i64 x.bytes) := HR6.out.x.cell 2))
              all_goals
                have hle6 := Nat.le_trans (itext_le q x.bytes) hle
                clear HR5 HR hle HX
                generalize itext q x.bytes = r at *
                go_wp2_with fail
                have y3 := HR6.out.r.code
                go_quiet ((first | (go_at_call 44; refine (Left_calls _ r.2 _ ?_).mono ?_; exact (HR6.out.drewN _).i; exact fun _ _ ⟨he, hw⟩ => ⟨he, _, hw.symm⟩) | (go_at_call 45; refine Calls.quiet_of (RLeft_calls _ s.data.toList r.2 ?_ _ ?_); (unfold maxLen; simp; omega); exact (HR6.out.drewN _).r) | (go_at_call 46; refine (Err_calls _ r.2 _ ?_).mono ?_; exact (HR6.out.drewN _).i; exact fun _ _ ⟨he, hw⟩ => ⟨he, _, hw.symm⟩) | (go_at_call 47; refine (End_calls _ r.2 _ ?_).mono ?_; exact (HR6.out.drewN _).i; exact fun _ _ ⟨he, hw⟩ => ⟨he, _, hw.symm⟩) | (go_at_call 48; refine Calls.quiet_of (REnd_calls _ s.data.toList r.2 _ ?_); exact (HR6.out.drewN _).r)))
                go_wp2_with fail
                exact ⟨⟨k + 1, r.2, by omega, by go_num, Lib.hid ((HR6.out.drewN _).both hle6)⟩, by simp [intOf]; omega⟩
            · have h1' : (x.kind.toNat == 1) = false := by
                have : x.kind.toNat ≠ 1 := fun h => h1 (UInt8.toNat_inj.1 h)
                simpa using this
              clear h0 h1
              generalize x.kind.toNat = kd at *
              have h0'' : ¬ ((kd : Int) = 0) := by simp at h0'; omega
              have h1'' : ¬ ((kd : Int) = 1) := by simp at h1'; omega
              go_wp2_with fail
              have HX := Lib.hid (HR.out.drew)
              go_region_held3 (fun w' => w'.cell? ⟨wr.heap.size, 2, none⟩ = some (.int .i64 x.bytes)) (first | exact HX.out.x.cell 2 | exact y2 | go_keep) (first | (go_at_call 42; refine (Raw_calls _ q x.bytes (by unfold maxLen; omega) _ HX.out.i).mono ?_; rintro e w5 ⟨rfl, h3, h4⟩; have HR5 := Lib.hid (HX.out.iturn h3 h4); clear h3 h4; have y2 : w5.cell? ⟨wr.heap.size, 2, none⟩ = some (.int .i64 x.bytes) := HR5.out.x.cell 2) | (go_at_call 43; refine (RRaw_calls _ _ q x.bytes (by unfold maxLen; simp; omega) _ HR5.out.r).mono ?_; rintro e w6 ⟨rfl, h3, h4⟩; have HR6 := Lib.hid (HR5.out.rturn h3 h4); clear h3 h4; have y2 : w6.cell? ⟨wr.heap.size, 2, none⟩ = some (.int .i64 x.bytes) := HR6.out.x.cell 2))
              all_goals
                have hle6 := Nat.le_trans (raw_le q x.bytes) hle
                clear HR5 HR hle HX
                generalize raw q x.bytes = r at *
                go_wp2_with fail
                have y3 := HR6.out.r.code
                go_quiet ((first | (go_at_call 44; refine (Left_calls _ r.2 _ ?_).mono ?_; exact (HR6.out.drewN _).i; exact fun _ _ ⟨he, hw⟩ => ⟨he, _, hw.symm⟩) | (go_at_call 45; refine Calls.quiet_of (RLeft_calls _ s.data.toList r.2 ?_ _ ?_); (unfold maxLen; simp; omega); exact (HR6.out.drewN _).r) | (go_at_call 46; refine (Err_calls _ r.2 _ ?_).mono ?_; exact (HR6.out.drewN _).i; exact fun _ _ ⟨he, hw⟩ => ⟨he, _, hw.symm⟩) | (go_at_call 47; refine (End_calls _ r.2 _ ?_).mono ?_; exact (HR6.out.drewN _).i; exact fun _ _ ⟨he, hw⟩ => ⟨he, _, hw.symm⟩) | (go_at_call 48; refine Calls.quiet_of (REnd_calls _ s.data.toList r.2 _ ?_); exact (HR6.out.drewN _).r)))
                go_wp2_with fail
                exact ⟨⟨k + 1, r.2, by omega, by go_num, Lib.hid ((HR6.out.drewN _).both hle6)⟩, by simp [intOf]; omega⟩
      · obtain rfl : k = l.length := by omega
        go_wp2_with fail
        go_ret
        exact ⟨rfl, bthen HB2.out hB.out.bel⟩
end Go.Proofs.Ytopacbmdoognjaa.Oct
