/- The walks of the document's disk: Check, Waits, Done, Read. -/
import Derived.Test.YtopacbmdoognjaaDiskRef
namespace Go.Proofs.Ytopacbmdoognjaa.Disk
open Go Go.RowKit Frame
/-- The six cells of a disk of the document's in a block. -/
def RCells (s : DSt) (v : Value) : Array Value := #[.string (Oct.bs s.last), v, .bool s.on, .bool s.armed, .int .i64 s.syncs, .int .i64 s.cut]
def RHas (b : Nat) (s : DSt) (v : Value) (w : World) : Prop := Has b (RCells s v) 63 w
section
variable {b : Nat} {s : DSt} {v : Value} {w : World}
theorem RHas.c0 (h : RHas b s v w) : w.cell? ⟨b, 0, none⟩ = some (.string (Oct.bs s.last)) := Has.cell h 0
theorem RHas.c1 (h : RHas b s v w) : w.cell? ⟨b, 1, none⟩ = some v := Has.cell h 1
theorem RHas.c2 (h : RHas b s v w) : w.cell? ⟨b, 2, none⟩ = some (.bool s.on) := Has.cell h 2
theorem RHas.c3 (h : RHas b s v w) : w.cell? ⟨b, 3, none⟩ = some (.bool s.armed) := Has.cell h 3
theorem RHas.c4 (h : RHas b s v w) : w.cell? ⟨b, 4, none⟩ = some (.int .i64 s.syncs) := Has.cell h 4
theorem RHas.c5 (h : RHas b s v w) : w.cell? ⟨b, 5, none⟩ = some (.int .i64 s.cut) := Has.cell h 5
end
theorem RHas.new (w : World) (s : DSt) (v : Value) : RHas w.heap.size s v (w.alloc (.cells (RCells s v) 63)) := Has.new _ _ _
set_option maxHeartbeats 1000000 in
theorem Check_calls (s : DSt) (v : Value) (k : Int) (hl : s.last.length ≤ 262144) (w : World) :
    Calls Try.prog 95 #[RD s v, .int .i64 k] w fun e w' => e = .returned (.int .i64 (chk s k)) ∧ Below w.heap.size w w' := by
  have hz : (Oct.bs s.last).size = s.last.length := Oct.bs_size _
  have HB := Lib.hid ((Below.refl w.heap.size w).alloc (Nat.le_refl _) (.cells #[.string (Oct.bs s.last), v, .bool s.on, .bool s.armed, .int .i64 s.syncs, .int .i64 s.cut] 63))
  unfold RD
  rcases (Bool.eq_false_or_eq_true s.on).symm with ho | ho
  · have HE := Lib.hid (show chk s k = 16 by unfold chk; rw [if_pos ho])
    rw [ho] at HB ⊢
    clear ho
    go_enter Try.func95, Try.ntmps95
    go_wp2_with fail
    go_ret
    rw [HE.out]
    exact ⟨rfl, HB.out⟩
  · by_cases h1 : k < 0
    · have HE := Lib.hid (show chk s k = 7 by unfold chk; rw [if_neg (by simp [ho]), if_pos (Or.inl h1)])
      rw [ho] at HB ⊢
      clear ho
      go_enter Try.func95, Try.ntmps95
      go_wp2_with fail
      go_ret
      rw [HE.out]
      exact ⟨rfl, HB.out⟩
    · by_cases h2 : (s.last.length : Int) / 64 ≤ k
      · have HE := Lib.hid (show chk s k = 7 by unfold chk; rw [if_neg (by simp [ho]), if_pos (Or.inr h2)])
        rw [ho] at HB ⊢
        clear ho
        go_enter Try.func95, Try.ntmps95
        go_wp2_with fail
        go_ret
        rw [HE.out]
        exact ⟨rfl, HB.out⟩
      · have HE := Lib.hid (show chk s k = 0 by unfold chk; rw [if_neg (by simp [ho]), if_neg (by omega)])
        rw [ho] at HB ⊢
        clear ho
        go_enter Try.func95, Try.ntmps95
        go_wp2_with fail
        go_ret
        rw [HE.out]
        exact ⟨rfl, HB.out⟩
set_option maxRecDepth 100000 in
set_option maxHeartbeats 1000000 in
theorem rWaits_calls (n : Nat) (s : DSt) (v : Value) (hf : Fits n s.wait) (hn : s.wait.length ≤ 100000) (w : World) (hr : RW v s.wait w) :
    Calls Try.prog 53 #[RD s v] w fun e w' => e = .returned (.int .i64 (total s.wait)) ∧ Below w.heap.size w w' := by
  have HF := Lib.hid hf
  obtain ⟨A, cap, rfl, hrow⟩ := hr.row
  have HR := Lib.hid hrow
  clear hrow hf hr
  have hT : total s.wait ≤ 6400000 := by have := total_le n s.wait HF.out; omega
  have HB := Lib.hid ((Below.refl w.heap.size w).alloc (Nat.le_refl _) (.cells #[.string (Oct.bs s.last), .slice A s.wait.length cap, .bool s.on, .bool s.armed, .int .i64 s.syncs, .int .i64 s.cut] 63))
  unfold RD
  generalize s.wait = ws at *
  go_enter Try.func53, Try.ntmps53
  go_wp2_with fail
  go_loopw [3, 9] (fun t i wr => ∃ k : Nat, k ≤ ws.length ∧ i = .int .i64 k ∧ t = .int .i64 ((total (ws.take k) : Nat) : Int) ∧ Hid (Below w.heap.size w wr)) (fun _ i _ => ws.length - (intOf i).toNat)
  case atStart => exact ⟨0, by omega, rfl, rfl, HB⟩
  case round =>
    obtain ⟨k, hk, rfl, rfl, hB⟩ := hrel
    by_cases hlt : k < ws.length
    · obtain ⟨g, rfl, hg, hi⟩ := HR.out (by omega)
      obtain ⟨c0, c1'⟩ := hi k hlt
      have hc := fun o => hB.out.cell (p := ⟨g, o, none⟩) hg
      rw [← hc] at c0 c1'
      clear hi hc
      have hkT : total (ws.take (k + 1)) ≤ 6400000 := by
        have h1 := total_append (ws.take (k + 1)) (ws.drop (k + 1))
        rw [List.take_append_drop] at h1
        omega
      have hT2 := total_take ws k hlt
      rw [hT2] at hkT
      have HT := Lib.hid hT2
      clear hT2
      generalize ws.getD k (0, ByteArray.empty) = x at *
      generalize total (ws.take k) = T at *
      go_wp2_with fail
      exact ⟨⟨k + 1, by omega, by go_num, by rw [HT.out]; go_num, Lib.hid (hB.out.alloc hB.out.size _)⟩, by simp [intOf]; omega⟩
    · obtain rfl : k = ws.length := by omega
      rw [List.take_length]
      go_wp2_with fail
      go_ret
      exact ⟨rfl, hB.out⟩
theorem heldN_upto (c : Int) (n : Nat) : heldN c (n : Int) = ((upto c n : Nat) : Int) := by unfold heldN upto; omega
set_option maxRecDepth 100000 in
set_option maxHeartbeats 1000000 in
theorem Done_calls (n : Nat) (s : DSt) (v : Value) (cut : Int) (hc : -9223372036854775808 ≤ cut ∧ cut ≤ 9223372036854775807) (hf : Fits n s.wait) (hn : s.wait.length ≤ 100000) (hl : s.last.length = 64 * n) (hn' : n ≤ 4096) (w : World) (hr : RW v s.wait w) :
    Calls Try.prog 94 #[RD s v, .int .i64 cut] w fun e w' => e = .returned (.string (Oct.bs (done s.last s.wait cut))) ∧ Below w.heap.size w w' := by
  have HF := Lib.hid hf
  obtain ⟨A, cap, rfl, hrow⟩ := hr.row
  have HR := Lib.hid hrow
  have HL := Lib.hid hl
  clear hrow hf hr
  have HB := Lib.hid ((Below.refl w.heap.size w).alloc (Nat.le_refl _) (.cells #[.string (Oct.bs s.last), .slice A s.wait.length cap, .bool s.on, .bool s.armed, .int .i64 s.syncs, .int .i64 s.cut] 63))
  unfold RD
  generalize s.wait = ws at *
  generalize s.last = l0 at *
  clear hl
  go_enter Try.func94, Try.ntmps94
  go_wp2_with fail
  go_loopw [1, 5, 14] (fun c t i wr => ∃ k : Nat, k ≤ ws.length ∧ i = .int .i64 k ∧ c = .int .i64 (left (ws.take k) cut) ∧ t = .string (Oct.bs (done l0 (ws.take k) cut)) ∧ Hid (Below w.heap.size w wr)) (fun _ _ i _ => ws.length - (intOf i).toNat)
  case atStart => exact ⟨0, by omega, rfl, rfl, rfl, HB⟩
  case round =>
    obtain ⟨k, hk, rfl, rfl, rfl, hB⟩ := hrel
    by_cases hlt : k < ws.length
    · obtain ⟨g, rfl, hg, hi⟩ := HR.out (by omega)
      obtain ⟨c0, c1'⟩ := hi k hlt
      have hcc := fun o => hB.out.cell (p := ⟨g, o, none⟩) hg
      rw [← hcc] at c0 c1'
      clear hi hcc
      have HS := Lib.hid (done_step l0 ws k hlt cut)
      have hfx := HF.out _ (show ws.getD k (0, ByteArray.empty) ∈ ws by simp [List.getD_eq_getElem?_getD, hlt])
      have hll := left_le (ws.take k) cut
      have hdl := done_length n (ws.take k) l0 cut HL.out (fun x hx => HF.out x (List.mem_of_mem_take hx))
      have HDL := Lib.hid hdl
      clear hdl
      generalize ws.getD k (0, ByteArray.empty) = x at *
      obtain ⟨b, t⟩ := x
      simp only at hfx c0 c1'
      generalize left (ws.take k) cut = c at *
      generalize done l0 (ws.take k) cut = l at *
      have hu := upto_le c t.size
      go_wp2_with fail
      refine (Held_calls _ _ _).mono ?_
      rintro e w1 ⟨rfl, rfl⟩
      rw [heldN_upto]
      have hcu : ((upto c t.size : Nat) : Int) = max 0 (min c t.size) := by unfold upto; omega
      have hcr : -9223372036854775808 ≤ c - ((upto c t.size : Nat) : Int) ∧ c - ((upto c t.size : Nat) : Int) ≤ 9223372036854775807 := by omega
      clear hcu
      generalize upto c t.size = m at *
      have hn0 : (0 : Int) ≤ (m : Int) := by omega
      have hn1 : (m : Int) ≤ (t.size : Int) := by omega
      have HM := Lib.hid (show 64 * b + (t.extract 0 m).size ≤ l.length by have := HDL.out; simp; omega)
      have HL2 := Lib.hid (show l.length ≤ 262144 by have := HDL.out; omega)
      have HX := Lib.hid (extract_list t m)
      go_wp2_with fail
      go_quiet ((go_at_call 102; exact Calls.quiet_of (put_calls l b (t.extract 0 m) HM.out HL2.out _)))
      go_wp2_with fail
      rw [HX.out]
      exact ⟨⟨k + 1, by omega, by go_num, by rw [HS.out.2], by rw [HS.out.1], Lib.hid (below_drewN (hB.out.alloc hB.out.size _) _)⟩, by simp [intOf]; omega⟩
    · obtain rfl : k = ws.length := by omega
      rw [List.take_length]
      go_wp2_with fail
      go_ret
      exact ⟨rfl, hB.out⟩
set_option maxRecDepth 100000 in
set_option maxHeartbeats 2000000 in
theorem rRead_calls (n : Nat) (s : DSt) (v : Value) (k : Int) (hs : Good n s) (w : World) (hr : RW v s.wait w) :
    Calls Try.prog 79 #[RD s v, .int .i64 k] w fun e w' => e = .returned (.tuple #[.string (if chk s k = 0 then Oct.bs (((all s.last s.wait).drop (64 * k.toNat)).take 64) else ⟨#[]⟩), .int .i64 (chk s k)]) ∧ Below w.heap.size w w' := by
  have hl : s.last.length ≤ 262144 := by have := hs.len; have := hs.hn; omega
  have HC := Lib.hid (fun W => Check_calls s v k hl W)
  have HB := Lib.hid ((Below.refl w.heap.size w).alloc (Nat.le_refl _) (.cells (RCells s v) 63))
  have HH := Lib.hid (RHas.new w s v)
  have HR := Lib.hid (hr.below HB.out)
  have HG := Lib.hid hs
  clear hr
  have hcb := chk_zero (s := s) (k := k)
  unfold RD at HC ⊢
  unfold RCells at HB HH HR
  generalize hc : chk s k = c at *
  by_cases h0 : c = 0
  · subst h0
    obtain ⟨-, h3, h4⟩ := hcb rfl
    have hlen := hs.len
    obtain ⟨q, rfl⟩ := Int.eq_ofNat_of_zero_le h3
    clear hcb
    have HX := Lib.hid hc
    clear hc
    have HE := Lib.hid (show (Oct.bs (done s.last s.wait (total s.wait))).extract (64 * q) (64 * q + 64) = Oct.bs (((all s.last s.wait).drop (64 * q)).take 64) by rw [done_all _ _ _ (Int.le_refl _), extract_mid])
    have hsz : (Oct.bs (done s.last s.wait (total s.wait))).size = 64 * n := by rw [Oct.bs_size, done_length n _ _ _ hs.len hs.fits]
    have hqn : q < n := by omega
    have hn' := hs.hn
    have htl := total_le n s.wait hs.fits
    have hmn := hs.many
    clear hs hlen hl h3 h4
    rw [Int.toNat_natCast, if_pos rfl]
    go_enter Try.func79, Try.ntmps79
    go_wp2_with fail
    refine (HC.out _).mono ?_
    rintro e w1 ⟨rfl, b1⟩
    have HH1 := Lib.hid (show RHas w.heap.size s v w1.drew from (Has.below HH.out b1).drew)
    have HR1 := Lib.hid ((HR.out.below b1).below (Below.drew (Below.refl _ _)))
    have HB1 := Lib.hid (bthen HB.out b1).drew
    clear b1
    have y0 := HH1.out.c0
    have y1 := HH1.out.c1
    have y2 := HH1.out.c2
    have y3 := HH1.out.c3
    have y4 := HH1.out.c4
    have y5 := HH1.out.c5
    have e1 : IntKind.i64.wrap (64 * (q : Int)) = 64 * (q : Int) := IntWalk.i64_in _ (by omega)
    have e2 : IntKind.i64.wrap (64 * (q : Int) + 64) = 64 * (q : Int) + 64 := IntWalk.i64_in _ (by omega)
    have g1 : (0 : Int) ≤ 64 * (q : Int) := by omega
    have g2 : 64 * (q : Int) ≤ 64 * (q : Int) + 64 := by omega
    have g3 : (0 : Int) ≤ 64 * (q : Int) + 64 := by omega
    have g4 : 64 * (q : Int) + 64 ≤ ((Oct.bs (done s.last s.wait (total s.wait))).size : Int) := by omega
    have g5 : (64 * (q : Int)).toNat = 64 * q := by omega
    have g6 : (64 * (q : Int) + 64).toNat = 64 * q + 64 := by omega
    clear hsz
    go_wp2_with fail
    go_region_held3 (fun w' => w'.cell? ⟨w.heap.size, 0, none⟩ = some (.string (Oct.bs s.last)) ∧ w'.cell? ⟨w.heap.size, 1, none⟩ = some v ∧ w'.cell? ⟨w.heap.size, 2, none⟩ = some (.bool s.on) ∧ w'.cell? ⟨w.heap.size, 3, none⟩ = some (.bool s.armed) ∧ w'.cell? ⟨w.heap.size, 4, none⟩ = some (.int .i64 s.syncs) ∧ w'.cell? ⟨w.heap.size, 5, none⟩ = some (.int .i64 s.cut))
      (first | exact ⟨y0, y1, y2, y3, y4, y5⟩ | (have h : RHas w.heap.size s v _ := Has.below (Has.below HH1.out b2) b3; exact ⟨h.c0, h.c1, h.c2, h.c3, h.c4, h.c5⟩) | (have h : RHas w.heap.size s v _ := Has.below HH1.out b2; exact ⟨h.c0, h.c1, h.c2, h.c3, h.c4, h.c5⟩))
      (first
        | (go_at_call 53; refine (rWaits_calls n s v HG.out.fits HG.out.many _ HR1.out).mono ?_; rintro e w2 ⟨rfl, b2⟩)
        | (go_at_call 94; refine (Done_calls n s v _ ⟨by omega, by omega⟩ HG.out.fits HG.out.many HG.out.len HG.out.hn _ (HR1.out.below b2)).mono ?_; rintro e w3 ⟨rfl, b3⟩))
    go_wp2_with fail
    go_ret2
    exact ⟨congrArg (fun x => Ending.returned (.tuple #[.string x, .int .i64 0])) HE.out, bthen (bthen HB1.out b2) b3⟩
  · have HX := Lib.hid hc
    rw [if_neg h0]
    have h' : (c != 0) = true := by simpa using h0
    clear hc h0 hcb
    go_enter Try.func79, Try.ntmps79
    go_wp2_with fail
    refine (HC.out _).mono ?_
    rintro e w1 ⟨rfl, b1⟩
    go_wp2_with fail
    go_ret2
    exact ⟨rfl, bthen HB.out b1⟩
end Go.Proofs.Ytopacbmdoognjaa.Disk
