/- The walk of DiskKeeps. -/
import Derived.Test.YtopacbmdoognjaaDiskArms
import Derived.Deep.QuietTactic
import Derived.BigQuiet
namespace Go.Proofs.Ytopacbmdoognjaa.Disk
open Go Go.RowKit Frame
theorem ans_congr {s s' : DSt} (ho : s.on = s'.on) (hl : s.last = s'.last) (k : Int) (t : ByteArray) : ans s k t = ans s' k t := by
  unfold ans chk
  rw [ho, hl]
def hasW (ws : List Wr) (i : Nat) : Bool := ws.any fun x => x.1 == i
def since (ws : List Wr) : Array Value := #[.bool (hasW ws 0), .bool (hasW ws 1), .bool (hasW ws 2), .bool (hasW ws 3), .bool (hasW ws 4), .bool (hasW ws 5)]
theorem since_set (ws : List Wr) (k : Nat) (t : ByteArray) (h : k < 6) : (since ws).setIfInBounds k (.bool true) = since (ws ++ [(k, t)]) := by
  have h' : k = 0 ∨ k = 1 ∨ k = 2 ∨ k = 3 ∨ k = 4 ∨ k = 5 := by omega
  rcases h' with rfl | rfl | rfl | rfl | rfl | rfl <;> simp [since, hasW]
theorem since_at (ws : List Wr) (k : Nat) (h : k < 6) : (since ws)[k]? = some (.bool (hasW ws k)) := by
  have h' : k = 0 ∨ k = 1 ∨ k = 2 ∨ k = 3 ∨ k = 4 ∨ k = 5 := by omega
  rcases h' with rfl | rfl | rfl | rfl | rfl | rfl <;> rfl
theorem hasW_no {ws : List Wr} {i : Nat} (h : hasW ws i = false) : ∀ x ∈ ws, x.1 ≠ i := by
  unfold hasW at h
  rw [List.any_eq_false] at h
  intro x hx e
  exact h x hx (by simpa using e)
/-- Two disks with the same bytes, both on; the same waits. -/
structure KeepI (W : World) (d1 L1 d2 L2 : Nat) (Sa Sb : DSt) (k : Nat) (ws : List Wr) (w : World) : Prop where
  fits : Fits 6 ws
  many : ws.length ≤ k
  two : Two W.heap.size d1 L1 d2 L2 (wait Sa ws) (wait Sb ws) w
  bel : Below W.heap.size W w
theorem good_any {S : DSt} {ws : List Wr} (hg : Good 6 S) (hf : Fits 6 ws) (hn : ws.length ≤ 1000) : Good 6 (wait S ws) :=
  ⟨hf, hg.len, hg.hn, by show ws.length ≤ 100000; omega, hg.syncs, hg.cut⟩
theorem wrote_both (Sa Sb : DSt) (ws : List Wr) (n : Nat) (a : Int) (t : ByteArray) (hl : Sa.last.length = 64 * n) (hf : Fits n ws) (ho : Sa.on = Sb.on) (he : Sa.last = Sb.last) :
    ∃ ws', wrote (wait Sa ws) a t = wait Sa ws' ∧ wrote (wait Sb ws) a t = wait Sb ws' ∧ Fits n ws' ∧ ws'.length ≤ ws.length + 1 ∧ (ans (wait Sa ws) a t = 0 → 0 ≤ a ∧ a < n ∧ ws' = ws ++ [(a.toNat, t)]) ∧ (ans (wait Sa ws) a t ≠ 0 → ws' = ws) := by
  have hc := ans_congr (s := wait Sa ws) (s' := wait Sb ws) ho he a t
  by_cases h : ans (wait Sa ws) a t = 0
  · obtain ⟨h1, h2⟩ := ans_zero h
    obtain ⟨_, h3, h4⟩ := chk_zero h1
    have h5 : (wait Sa ws).last.length = 64 * n := hl
    refine ⟨_, wrote_wait _ _ _ _ h, wrote_wait _ _ _ _ (by rw [← hc]; exact h), hf.append (fun x hx => ?_), by simp, fun _ => ⟨h3, by omega, rfl⟩, fun h' => absurd h h'⟩
    simp only [List.mem_singleton] at hx
    subst hx
    exact ⟨by simp only; omega, h2⟩
  · exact ⟨ws, wrote_no _ _ _ h, wrote_no _ _ _ (by rw [← hc]; exact h), hf, by omega, fun h' => absurd h' h, fun _ => rfl⟩
theorem Two.set_other {base d1 L1 d2 L2 : Nat} {s1 s2 : DSt} {w : World} (h : Two base d1 L1 d2 L2 s1 s2 w) {m i : Nat} {cs : Array Value} {t : TypeId} (hm : Has m cs t w) (h1 : t ≠ 112) (h2 : t ≠ 5) (h3 : t ≠ 115) (v : Value) :
    Two base d1 L1 d2 L2 s1 s2 (w.setCell ⟨m, i, none⟩ v) := by
  obtain ⟨v1, v2, k1, k2, hn⟩ := h
  have ht : Turn (fun k => k = m) w (w.setCell ⟨m, i, none⟩ v) := Turn.setCell (F := fun k => k = m) (p := ⟨m, i, none⟩) (Turn.refl _ _) (.inl rfl) v
  exact ⟨v1, v2, k1.turn ht (fun k e => by rw [e]; exact k1.apart hm h1 h2 h3), k2.turn ht (fun k e => by rw [e]; exact k2.apart hm h1 h2 h3), hn⟩
/-- The second loop: besides, what was written since. -/
structure SinceI (W : World) (m d1 L1 d2 L2 : Nat) (Sa Sb : DSt) (k : Nat) (ws : List Wr) (w : World) : Prop where
  k : KeepI W d1 L1 d2 L2 Sa Sb k ws w
  since : Has m (since ws) 47 w
structure LastI (W : World) (m d1 L1 d2 L2 : Nat) (now : List UInt8) (C : Int) (ws : List Wr) (w : World) : Prop where
  two : Two W.heap.size d1 L1 d2 L2 ⟨now, [], false, false, 0, 0⟩ ⟨now, [], false, true, 0, C⟩ w
  since : Has m (since ws) 47 w
  bel : Below W.heap.size W w
theorem below_drewN {B : Nat} {a w : World} (h : Below B a w) (n : Nat) : Below B a (w.drewN n) := ⟨h.os, h.tape, h.output, h.size, h.block⟩
theorem LastI.drewN {W : World} {m d1 L1 d2 L2 : Nat} {now : List UInt8} {C : Int} {ws : List Wr} {w : World} (h : LastI W m d1 L1 d2 L2 now C ws w) (n : Nat) : LastI W m d1 L1 d2 L2 now C ws (w.drewN n) :=
  ⟨h.two.below (below_drewN (Below.refl _ _) n), h.since.below (below_drewN (Below.refl _ _) n), below_drewN h.bel n⟩
theorem extract_mid (S : List UInt8) (a n : Nat) : (Oct.bs S).extract a (a + n) = Oct.bs ((S.drop a).take n) := Oct.ba_ext (by simp [Oct.bs])
set_option maxRecDepth 100000 in
set_option maxHeartbeats 4000000 in
theorem DiskKeeps_walk (A A2 : Option Addr) (c c2 : Nat) (l more : List DAct) (cut : Int) (W : World) (hA : Acts W.heap.size A l W) (hA2 : Acts W.heap.size A2 more W) (hl : l.length ≤ maxLen) (hl2 : more.length ≤ maxLen)
    (hc : -9223372036854775808 ≤ cut ∧ cut ≤ 9223372036854775807) :
    Calls Try.prog 5 #[.slice A l.length c, .slice A2 more.length c2, .int .i64 cut] W fun e w' => e = .returned (.bool true) ∧ Below W.heap.size W w' := by
  have HA := Lib.hid hA
  have HL := Lib.hid hl
  have HA2 := Lib.hid hA2
  have HL2 := Lib.hid hl2
  clear hA hl hA2 hl2
  go_enter Try.func5, Try.ntmps5
  go_wp2_with fail
  refine (awake_calls _).mono ?_
  rintro e w1 ⟨rfl, b1⟩
  have B1 := Lib.hid b1
  have HA1 := Lib.hid ((HA.out.below b1).more b1.size)
  clear b1
  go_wp2_with fail
  refine (Light_calls A c l _ HA1.out HL.out).mono ?_
  rintro e w2 ⟨rfl, b2⟩
  have B2 := Lib.hid (bthen B1.out b2)
  clear b2
  cases hL : lightB l with
  | false =>
    go_wp2_with fail
    go_ret
    exact ⟨rfl, B2.out⟩
  | true =>
    have HT := Lib.hid (light_iff hL)
    clear hL
    have hn := HT.out.1
    go_wp2_with fail
    refine (Light_calls A2 c2 more _ ((HA2.out.below B2.out).more B2.out.size) HL2.out).mono ?_
    rintro e w3 ⟨rfl, b3⟩
    have B3 := Lib.hid (bthen B2.out b3)
    clear b3
    cases hL2 : lightB more with
    | false =>
      go_wp2_with fail
      go_ret
      exact ⟨rfl, B3.out⟩
    | true =>
      have HT2 := Lib.hid (light_iff hL2)
      clear hL2
      have hn2 := HT2.out.1
      go_wp2_with fail
      refine (New_one 6 (by decide) _).mono ?_
      rintro e w4 ⟨rfl, o4, b4⟩
      have O4 := Lib.hid (o4.base B3.out.size)
      have B4 := Lib.hid (bthen B3.out b4)
      clear o4 b4
      go_wp2_with fail
      refine (New_one 6 (by decide) _).mono ?_
      rintro e w5 ⟨rfl, o5, b5⟩
      have B5 := Lib.hid (bthen B4.out b5)
      have T5 := Lib.hid (O4.out.and b5 o5)
      clear o5 b5
      generalize w3.heap.size + 1 = d1 at *
      generalize w4.heap.size + 1 = d2 at *
      generalize w3.heap.size = L1 at *
      generalize w4.heap.size = L2 at *
      go_wp2_with fail
      refine (Calls.mono (T5.out.swap.calls fun v hd => (Arm_calls _ _ _ v _ 1 cut _ hd).mono fun _ _ h => post_of_only h.1 h.2.1 h.2.2) ?_)
      rintro e w6 ⟨rfl, t6, b6, -⟩
      obtain ⟨C, hC⟩ : ∃ C : Int, max 0 cut = C := ⟨_, rfl⟩
      have HC := Lib.hid hC
      have hCr : 0 ≤ C ∧ C ≤ 9223372036854775807 := by omega
      have HI := Lib.hid (show KeepI W d1 L1 d2 L2 (fresh 6) (armedSt (fresh 6).last 1 C) 0 [] w6 from ⟨(fun x hx => by cases hx), Nat.le_refl _, by
        have e : armed (fresh 6) 1 cut = wait (armedSt (fresh 6).last 1 C) [] := by
          simp only [armed, fresh, wait, armedSt, if_pos, hC]
          rfl
        rw [e] at t6; exact t6.swap, B5.out.trans b6⟩)
      have hg1 : Good 6 (armedSt (fresh 6).last 1 C) := ⟨(fun x hx => by cases hx), (Good.fresh 6 (by decide)).len, by decide, Nat.zero_le _, by show 0 ≤ (1 : Int) ∧ (1 : Int) ≤ _; decide, hCr⟩
      have G1 := Lib.hid (And.intro (Good.fresh 6 (by decide)) hg1)
      clear t6 b6 hC hg1
      go_wp2_with fail
      go_loopw [34] (fun i wr => ∃ (k : Nat) (ws : List Wr), k ≤ l.length ∧ i = .int .i64 k ∧ Hid (KeepI W d1 L1 d2 L2 (fresh 6) (armedSt (fresh 6).last 1 C) k ws wr)) (fun i _ => l.length - (intOf i).toNat)
      case atStart => exact ⟨0, [], by omega, rfl, HI⟩
      case round =>
        obtain ⟨k, ws, hk, rfl, hI⟩ := hrel
        by_cases hlt : k < l.length
        · obtain ⟨b, off, rfl, hbl, hi⟩ := (HA.out.below hI.out.bel) (by omega)
          obtain ⟨r0, r1, r2, r3⟩ := hi k hlt
          clear hi
          generalize l.getD k default = x at *
          obtain ⟨kd, at_, ct, t⟩ := x
          simp only at r0 r1 r2 r3
          have hfz := hI.out.many
          obtain ⟨ws', he1, he2, hf', hm', -, -⟩ := wrote_both (fresh 6) (armedSt (fresh 6).last 1 C) ws 6 at_ t G1.out.1.len hI.out.fits rfl rfl
          have HE := Lib.hid (And.intro he1 he2)
          have HF' := Lib.hid hf'
          have HN := Lib.hid (Has.new wr #[.int .u8 (kd.toNat : Int), .int .i64 at_, .int .i64 ct, .string t] 42)
          clear he1 he2 hf'
          go_wp2_with fail
          refine ((hI.out.two.below ((Below.refl _ _).alloc (Nat.le_refl _) _)).calls fun v hd => Write_any _ _ _ 6 v _ at_ t (good_any G1.out.1 hI.out.fits (by omega)) (by show ws.length + 1 ≤ _; omega) _ hd).mono ?_
          rintro e w7 ⟨rfl, t7, b7, k7⟩
          rw [HE.out.1] at t7
          have HN7 := Lib.hid (k7 _ _ _ (by decide) (by decide) (by decide) HN.out)
          have y1 := HN7.out.cell 1
          have y3 := HN7.out.cell 3
          have T7 := Lib.hid t7
          have B7 := Lib.hid ((hI.out.bel.alloc hI.out.bel.size _).trans b7)
          clear t7 b7 k7
          go_wp2_with fail
          refine (T7.out.swap.calls fun v hd => Write_any _ _ _ 6 v _ at_ t (good_any G1.out.2 hI.out.fits (by omega)) (by show ws.length + 1 ≤ _; omega) _ hd).mono ?_
          rintro e w8 ⟨rfl, t8, b8, -⟩
          rw [HE.out.2] at t8
          have HK := Lib.hid (show KeepI W d1 L1 d2 L2 (fresh 6) (armedSt (fresh 6).last 1 C) (k + 1) ws' w8 from ⟨HF'.out, by omega, t8.swap, B7.out.trans b8⟩)
          clear t8 b8 y1 y3
          go_wp2_with fail
          exact ⟨⟨k + 1, ws', by omega, by go_num, HK⟩, by simp [intOf]; omega⟩
        · obtain rfl : k = l.length := by omega
          have hfz := hI.out.many
          have hgA := good_any G1.out.1 hI.out.fits (by omega)
          have hgB := good_any G1.out.2 hI.out.fits (by omega)
          have HG := Lib.hid (And.intro hgA hgB)
          clear hgA hgB
          go_wp2_with fail
          refine (hI.out.two.calls fun v hd => Sync_on _ _ _ 6 v _ HG.out.1 rfl (.inl rfl) _ hd).mono ?_
          rintro e w7 ⟨rfl, t7, b7, -⟩
          have T7 := Lib.hid t7
          have B7 := Lib.hid (hI.out.bel.trans b7)
          clear t7 b7
          go_wp2_with fail
          have HY := Lib.hid (show (wait (armedSt (fresh 6).last 1 C) ws).armed = false ∨ (wait (armedSt (fresh 6).last 1 C) ws).syncs ≠ 0 from .inr (by show (1 : Int) ≠ 0; decide))
          refine (T7.out.swap.calls fun v hd => Sync_on _ _ _ 6 v _ HG.out.2 rfl HY.out _ hd).mono ?_
          rintro e w8 ⟨rfl, t8, b8, -⟩
          have B8 := Lib.hid (B7.out.trans b8)
          have hwl := all_length 6 ws (fresh 6).last (Good.fresh 6 (by decide)).len hI.out.fits
          obtain ⟨was, hwas⟩ : ∃ was, all (fresh 6).last ws = was := ⟨_, rfl⟩
          rw [hwas] at hwl
          have T8 := Lib.hid (show Two W.heap.size d1 L1 d2 L2 (wait ⟨was, [], true, false, 0, 0⟩ []) (wait (armedSt was 0 C) []) w8 from by rw [← hwas]; exact t8.swap)
          clear t8 b8
          go_wp2_with fail
          refine (Calls.mono (T8.out.calls fun v hd => (Lasts_calls _ _ _ v _ _ hd).mono fun _ _ h => post_of_same hd h.1 h.2) ?_)
          rintro e w9 ⟨rfl, t9, b9, -⟩
          have B9 := Lib.hid (B8.out.trans b9)
          have T9 := Lib.hid t9
          clear t9 b9
          rw [show (wait ⟨was, [], true, false, 0, 0⟩ []).last = was from rfl]
          go_wp2_with fail
          generalize hm0 : w9.heap.size = m at *
          have hS0 : SinceI W m d1 L1 d2 L2 ⟨was, [], true, false, 0, 0⟩ (armedSt was 0 C) 0 [] (w9.alloc (.cells #[.bool false, .bool false, .bool false, .bool false, .bool false, .bool false] 47)) :=
            ⟨⟨(fun x hx => by cases hx), Nat.le_refl _, T9.out.below ((Below.refl _ _).alloc (Nat.le_refl _) _), B9.out.alloc B9.out.size _⟩, by rw [← hm0]; exact Has.new _ _ _⟩
          have HS0 := Lib.hid hS0
          have g2a : Good 6 ⟨was, [], true, false, 0, 0⟩ := ⟨(fun x hx => by cases hx), hwl, by decide, Nat.zero_le _, by simp, by simp⟩
          have g2b : Good 6 (armedSt was 0 C) := ⟨(fun x hx => by cases hx), hwl, by decide, Nat.zero_le _, by show 0 ≤ (0 : Int) ∧ (0 : Int) ≤ _; decide, hCr⟩
          have G2 := Lib.hid (And.intro g2a g2b)
          have HWL := Lib.hid hwl
          have hmW : W.heap.size ≤ m := by have := B9.out.size; omega
          clear hS0 g2a g2b hm0 hwas hwl
          generalize w9.alloc (.cells #[.bool false, .bool false, .bool false, .bool false, .bool false, .bool false] 47) = w10 at *
          go_loopw [63] (fun i wr => ∃ (k : Nat) (ws : List Wr), k ≤ more.length ∧ i = .int .i64 k ∧ Hid (SinceI W m d1 L1 d2 L2 ⟨was, [], true, false, 0, 0⟩ (armedSt was 0 C) k ws wr)) (fun i _ => more.length - (intOf i).toNat)
          case atStart => exact ⟨0, [], by omega, rfl, HS0⟩
          case round =>
            obtain ⟨k, ws, hk, rfl, hI⟩ := hrel
            by_cases hlt : k < more.length
            · obtain ⟨b, off, rfl, hbl, hi⟩ := (HA2.out.below hI.out.k.bel) (by omega)
              obtain ⟨r0, r1, r2, r3⟩ := hi k hlt
              clear hi
              generalize more.getD k default = x at *
              obtain ⟨kd, at_, ct, t⟩ := x
              simp only at r0 r1 r2 r3
              have hfz := hI.out.k.many
              obtain ⟨ws', he1, he2, hf', hm', hy', hn'⟩ := wrote_both ⟨was, [], true, false, 0, 0⟩ (armedSt was 0 C) ws 6 at_ t HWL.out hI.out.k.fits rfl rfl
              have HE := Lib.hid (And.intro he1 he2)
              have HF' := Lib.hid hf'
              have HN := Lib.hid (Has.new wr #[.int .u8 (kd.toNat : Int), .int .i64 at_, .int .i64 ct, .string t] 42)
              have HM := Lib.hid (hI.out.since.alloc (.cells #[.int .u8 (kd.toNat : Int), .int .i64 at_, .int .i64 ct, .string t] 42))
              clear he1 he2 hf'
              go_wp2_with fail
              refine ((hI.out.k.two.below ((Below.refl _ _).alloc (Nat.le_refl _) _)).calls fun v hd => Write_any _ _ _ 6 v _ at_ t (good_any G2.out.1 hI.out.k.fits (by omega)) (by show ws.length + 1 ≤ _; omega) _ hd).mono ?_
              rintro e w7 ⟨rfl, t7, b7, k7⟩
              rw [HE.out.1] at t7
              have HN7 := Lib.hid (k7 _ _ _ (by decide) (by decide) (by decide) HN.out)
              have HM7 := Lib.hid (k7 _ _ _ (by decide) (by decide) (by decide) HM.out)
              have y1 := HN7.out.cell 1
              have y3 := HN7.out.cell 3
              have T7 := Lib.hid t7
              have B7 := Lib.hid ((hI.out.k.bel.alloc hI.out.k.bel.size _).trans b7)
              clear t7 b7 k7
              by_cases hz : ans (wait ⟨was, [], true, false, 0, 0⟩ ws) at_ t = 0
              · rw [hz]
                obtain ⟨hq0, hq1, rfl⟩ := hy' hz
                obtain ⟨q, rfl⟩ := Int.eq_ofNat_of_zero_le hq0
                have fq := HM7.out.frozen q
                have cq : w7.cell? ⟨m, q, none⟩ = some (.bool (hasW ws q)) := by rw [HM7.out.cell, since_at _ _ (by omega)]
                have hmx : m ≠ wr.heap.size := fun e => by
                  have h1 := HM7.out
                  rw [e] at h1
                  exact absurd (has_type h1 HN7.out) (by decide)
                have HM8 := Lib.hid (show Has m (since (ws ++ [(q, t)])) 47 (w7.setCell ⟨m, q, none⟩ (.bool true)) by
                  rw [← since_set ws q t (by omega)]
                  exact HM7.out.set _)
                have HN8 := Lib.hid (HN7.out.set_other (p := ⟨m, q, none⟩) hmx (.bool true))
                have T8 := Lib.hid (T7.out.set_other (i := q) HM7.out (by decide) (by decide) (by decide) (.bool true))
                have B8 := Lib.hid (B7.out.setCell (p := ⟨m, q, none⟩) hmW (.bool true))
                clear hz hy' hn'
                rw [Int.toNat_natCast] at HF' HE T8
                go_wp2_with fail
                have y1 := HN8.out.cell 1
                have y3 := HN8.out.cell 3
                refine (T8.out.swap.calls fun v hd => Write_any _ _ _ 6 v _ (q : Int) t (good_any G2.out.2 hI.out.k.fits (by omega)) (by show ws.length + 1 ≤ _; omega) _ hd).mono ?_
                rintro e w9 ⟨rfl, t9, b9, k9⟩
                rw [HE.out.2] at t9
                have HK := Lib.hid (show SinceI W m d1 L1 d2 L2 ⟨was, [], true, false, 0, 0⟩ (armedSt was 0 C) (k + 1) (ws ++ [(q, t)]) w9 from ⟨⟨HF'.out, by first | omega | (simp; omega), t9.swap, B8.out.trans b9⟩, k9 _ _ _ (by decide) (by decide) (by decide) HM8.out⟩)
                clear t9 b9 k9 y1 y3
                go_wp2_with fail
                exact ⟨⟨k + 1, _, by omega, by go_num, HK⟩, by simp [intOf]; omega⟩
              · have HW := Lib.hid (hn' hz)
                have hz' : (ans (wait ⟨was, [], true, false, 0, 0⟩ ws) at_ t == 0) = false := by simpa using hz
                generalize ans (wait ⟨was, [], true, false, 0, 0⟩ ws) at_ t = z at *
                clear hy' hn' hz
                rw [HW.out] at HF' HE T7
                go_wp2_with fail
                refine (T7.out.swap.calls fun v hd => Write_any _ _ _ 6 v _ at_ t (good_any G2.out.2 hI.out.k.fits (by omega)) (by show ws.length + 1 ≤ _; omega) _ hd).mono ?_
                rintro e w9 ⟨rfl, t9, b9, k9⟩
                rw [HE.out.2] at t9
                have HK := Lib.hid (show SinceI W m d1 L1 d2 L2 ⟨was, [], true, false, 0, 0⟩ (armedSt was 0 C) (k + 1) ws w9 from ⟨⟨HF'.out, by first | omega | (simp; omega), t9.swap, B7.out.trans b9⟩, k9 _ _ _ (by decide) (by decide) (by decide) HM7.out⟩)
                clear t9 b9 k9 y1 y3
                go_wp2_with fail
                exact ⟨⟨k + 1, _, by omega, by go_num, HK⟩, by simp [intOf]; omega⟩
            · obtain rfl : k = more.length := by omega
              have hfz := hI.out.k.many
              have HG := Lib.hid (And.intro (good_any G2.out.1 hI.out.k.fits (by omega)) (good_any G2.out.2 hI.out.k.fits (by omega)))
              go_wp2_with fail
              refine (hI.out.k.two.calls fun v hd => Down_calls _ _ _ 6 v _ cut hc HG.out.1 _ hd).mono ?_
              rintro e w11 ⟨rfl, t11, b11, k11⟩
              have HM11 := Lib.hid (k11 _ _ _ (by decide) (by decide) (by decide) hI.out.since)
              have T11 := Lib.hid t11.swap
              have B11 := Lib.hid (hI.out.k.bel.trans b11)
              clear t11 b11 k11
              go_wp2_with fail
              refine (T11.out.calls fun v hd => Sync_any _ _ _ 6 v _ HG.out.2 _ hd).mono ?_
              rintro e w12 ⟨rfl, t12, b12, k12⟩
              rw [synced_gone _ rfl rfl rfl] at t12
              rw [synced_gone _ rfl rfl rfl]
              have hnw : done was ws C = done was ws cut := by rw [← HC.out, done_max]
              have hnl : (done was ws cut).length = 64 * 6 := done_length 6 ws was cut HWL.out hI.out.k.fits
              have hot := fun i hi => done_other 6 i ws was cut HWL.out hI.out.k.fits (hasW_no (ws := ws) (i := i) hi)
              have HOT := Lib.hid hot
              have HNL := Lib.hid hnl
              have HM12 := Lib.hid (k12 _ _ _ (by decide) (by decide) (by decide) HM11.out)
              have T12 := Lib.hid (show Two W.heap.size d1 L1 d2 L2 ⟨done was ws cut, [], false, false, 0, 0⟩ ⟨done was ws cut, [], false, true, 0, C⟩ w12 from by
                have h := t12.swap
                rw [show down (wait (armedSt was 0 C) ws) (wait (armedSt was 0 C) ws).cut = (⟨done was ws C, [], false, true, 0, C⟩ : DSt) from rfl, hnw] at h
                exact h)
              have B12 := Lib.hid (B11.out.trans b12)
              clear t12 b12 k12 hnl hot hnw
              generalize done was ws cut = now at *
              go_wp2_with fail
              refine (Calls.mono (T12.out.calls fun v hd => (Lasts_calls _ _ _ v _ _ hd).mono fun _ _ h => post_of_same hd h.1 h.2) ?_)
              rintro e w13 ⟨rfl, t13, b13, k13⟩
              have HM13 := Lib.hid (k13 _ _ _ (by decide) (by decide) (by decide) HM12.out)
              have T13 := Lib.hid t13.swap
              have B13 := Lib.hid (B12.out.trans b13)
              clear t13 b13 k13
              go_wp2_with fail
              refine (Calls.mono (T13.out.calls fun v hd => (Lasts_calls _ _ _ v _ _ hd).mono fun _ _ h => post_of_same hd h.1 h.2) ?_)
              rintro e w14 ⟨rfl, t14, b14, k14⟩
              have HM14 := Lib.hid (k14 _ _ _ (by decide) (by decide) (by decide) HM13.out)
              have T14 := Lib.hid t14.swap
              have B14 := Lib.hid (B13.out.trans b14)
              clear t14 b14 k14
              have hws : (Oct.bs was).size = 384 := by rw [Oct.bs_size, HWL.out]
              go_wp2_with fail
              refine (Calls.mono (T14.out.calls fun v hd => (Lasts_calls _ _ _ v _ _ hd).mono fun _ _ h => post_of_same hd h.1 h.2) ?_)
              rintro e w15 ⟨rfl, t15, b15, k15⟩
              have HM15 := Lib.hid (k15 _ _ _ (by decide) (by decide) (by decide) HM14.out)
              have T15 := Lib.hid t15
              have B15 := Lib.hid (B14.out.trans b15)
              clear t15 b15 k15
              go_wp2_with fail
              have hns : (Oct.bs now).size = 384 := by rw [Oct.bs_size, HNL.out]
              go_loopw [104] (fun i wr => ∃ (k : Nat), k ≤ 6 ∧ i = .int .i64 k ∧ Hid (LastI W m d1 L1 d2 L2 now C ws wr)) (fun i _ => 6 - (intOf i).toNat)
              case atStart => exact ⟨0, by omega, rfl, Lib.hid ⟨T15.out, HM15.out, B15.out⟩⟩
              case round =>
                obtain ⟨k, hk, rfl, hI⟩ := hrel
                by_cases hlt : k < 6
                · have cm : wr.cell? ⟨m, k, none⟩ = some (.bool (hasW ws k)) := by rw [hI.out.since.cell, since_at _ _ hlt]
                  have e1 : IntKind.i64.wrap ((k : Int) * 64) = (k : Int) * 64 := IntWalk.i64_in _ (by omega)
                  have e2 : IntKind.i64.wrap ((k : Int) + 1) = (k : Int) + 1 := IntWalk.i64_in _ (by omega)
                  have e3 : IntKind.i64.wrap (((k : Int) + 1) * 64) = ((k : Int) + 1) * 64 := IntWalk.i64_in _ (by omega)
                  have g1 : (0 : Int) ≤ (k : Int) * 64 := by omega
                  have g2 : (k : Int) * 64 ≤ ((k : Int) + 1) * 64 := by omega
                  have g3 : ((k : Int) + 1) * 64 ≤ 384 := by omega
                  have g4 : ((k : Int) * 64).toNat = k * 64 := by omega
                  have g5 : (((k : Int) + 1) * 64).toNat = (k + 1) * 64 := by omega
                  have g6 : (0 : Int) ≤ (k : Int) := by omega
                  have g7 : (k : Int) < 6 := by omega
                  have g8 : (0 : Int) ≤ ((k : Int) + 1) * 64 := by omega
                  cases hh : hasW ws k with
                  | true =>
                    rw [hh] at cm
                    clear hh
                    go_wp2_with fail
                    go_quiet (fail)
                    go_wp2_with fail
                    exact ⟨⟨k + 1, by omega, by go_num, Lib.hid (hI.out.drewN _)⟩, by simp [intOf]; omega⟩
                  | false =>
                    rw [hh] at cm
                    have hx : (Oct.bs was).extract (k * 64) ((k + 1) * 64) = (Oct.bs now).extract (k * 64) ((k + 1) * 64) := by
                      rw [show (k + 1) * 64 = k * 64 + 64 by omega, extract_mid, extract_mid, Nat.mul_comm k 64, ← HOT.out k hh]
                    clear hh
                    go_wp2_with fail
                    go_quiet (fail)
                    go_wp2_with fail
                    exact ⟨⟨k + 1, by omega, by go_num, Lib.hid (hI.out.drewN _)⟩, by simp [intOf]; omega⟩
                · obtain rfl : k = 6 := by omega
                  have HT16 := Lib.hid hI.out.two
                  have HB16 := Lib.hid hI.out.bel
                  go_wp2_with fail
                  refine (Calls.mono (HT16.out.calls fun v hd => (Up_calls _ _ _ v _ _ hd).mono fun _ _ h => post_of_only h.1 h.2.1 h.2.2) ?_)
                  rintro e w17 ⟨rfl, t17, b17, -⟩
                  have T17 := Lib.hid t17
                  have B17 := Lib.hid (HB16.out.trans b17)
                  clear t17 b17
                  rw [show upped ⟨now, [], false, false, 0, 0⟩ = ⟨now, [], true, false, 0, 0⟩ from rfl] at T17
                  go_wp2_with fail
                  refine (Calls.mono (T17.out.calls fun v hd => (On_calls _ _ _ v _ _ hd).mono fun _ _ h => post_of_same hd h.1 h.2) ?_)
                  rintro e w18 ⟨rfl, t18, b18, -⟩
                  have T18 := Lib.hid t18
                  have B18 := Lib.hid (B17.out.trans b18)
                  clear t18 b18
                  go_wp2_with fail
                  refine (T18.out.calls fun v hd => Sync_on _ _ _ 6 v _ ⟨(fun x hx => by cases hx), HNL.out, by decide, Nat.zero_le _, by simp, by simp⟩ rfl (.inl rfl) _ hd).mono ?_
                  rintro e w19 ⟨rfl, t19, b19, -⟩
                  have T19 := Lib.hid t19
                  have B19 := Lib.hid (B18.out.trans b19)
                  clear t19 b19
                  go_wp2_with fail
                  refine (Calls.mono (T19.out.calls fun v hd => (Lasts_calls _ _ _ v _ _ hd).mono fun _ _ h => post_of_same hd h.1 h.2) ?_)
                  rintro e w20 ⟨rfl, t20, b20, -⟩
                  have B20 := Lib.hid (B19.out.trans b20)
                  clear t20 b20
                  rw [show all now [] = now from rfl]
                  go_wp2_with fail
                  go_ret
                  exact ⟨by simp, B20.out⟩
end Go.Proofs.Ytopacbmdoognjaa.Disk
