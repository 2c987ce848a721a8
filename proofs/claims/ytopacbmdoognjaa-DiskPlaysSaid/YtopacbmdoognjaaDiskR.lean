/- Merged: DiskActs, DiskFalls, DiskArms, DiskKeeps, DiskRef, DiskRefB, DiskRefC, DiskRefD, DiskRefE, DiskRead. -/
import Derived.Test.YtopacbmdoognjaaDiskAwake
import Derived.Deep.RegionHeld3
import Derived.Deep.QuietTactic
import Derived.BigQuiet
import Derived.Deep.RegionWith
import Derived.Laws.AppendOwnNone
import Derived.Shelf.Spec.SlicesInsert
/- Acts of stairwelllaw15: how they lie, opened; Light. -/
namespace Go.Proofs.Ytopacbmdoognjaa.Disk
open Go Go.RowKit Go.ChangeShapes Go.WideShapes Frame
structure DAct where
  kind : UInt8
  at_ : Int
  cut : Int
  text : ByteArray
  deriving Inhabited
def DAct.Ok (x : DAct) : Prop := (-9223372036854775808 ≤ x.at_ ∧ x.at_ ≤ 9223372036854775807) ∧ (-9223372036854775808 ≤ x.cut ∧ x.cut ≤ 9223372036854775807) ∧ x.text.size ≤ maxLen
def ActAt (b o : Nat) (x : DAct) (w : World) : Prop :=
  w.cell? ⟨b, o, none⟩ = some (.int .u8 x.kind.toNat) ∧ w.cell? ⟨b, o + 1, none⟩ = some (.int .i64 x.at_) ∧ w.cell? ⟨b, o + 2, none⟩ = some (.int .i64 x.cut) ∧ w.cell? ⟨b, o + 3, none⟩ = some (.string x.text)
/-- A slice of acts, in a block below B. -/
def Acts (B : Nat) (A : Option Addr) (l : List DAct) (w : World) : Prop :=
  0 < l.length → ∃ b off, A = some ⟨b, off, none⟩ ∧ b < B ∧ ∀ i, i < l.length → ActAt b (off + i * 4) (l.getD i default) w
theorem Acts.below {B : Nat} {A : Option Addr} {l : List DAct} {w w' : World} (h : Acts B A l w) (hb : Below B w w') : Acts B A l w' := fun h0 => by
  obtain ⟨b, off, hA, hlt, hi⟩ := h h0
  refine ⟨b, off, hA, hlt, fun i hil => ?_⟩
  obtain ⟨c0, c1, c2, c3⟩ := hi i hil
  have hc := fun o => hb.cell (p := ⟨b, o, none⟩) hlt
  exact ⟨by rw [hc]; exact c0, by rw [hc]; exact c1, by rw [hc]; exact c2, by rw [hc]; exact c3⟩
theorem Acts.more {B B' : Nat} {A : Option Addr} {l : List DAct} {w : World} (h : Acts B A l w) (hB : B ≤ B') : Acts B' A l w := fun h0 => by
  obtain ⟨b, off, hA, hlt, hi⟩ := h h0
  exact ⟨b, off, hA, by omega, hi⟩
theorem take_succ_getD {α : Type} [Inhabited α] (l : List α) (k : Nat) (h : k < l.length) : l.take (k + 1) = l.take k ++ [l.getD k default] := by
  rw [List.take_succ_eq_append_getElem h]; simp [List.getD_eq_getElem?_getD, h]
theorem getD_mem {α : Type} [Inhabited α] (l : List α) (k : Nat) (h : k < l.length) : l.getD k default ∈ l := by
  simp [List.getD_eq_getElem?_getD, h]
theorem mem_getD {α : Type} [Inhabited α] {l : List α} {x : α} (h : x ∈ l) : ∃ i, i < l.length ∧ l.getD i default = x := by
  obtain ⟨i, hi, rfl⟩ := List.getElem_of_mem h
  exact ⟨i, hi, by simp [List.getD_eq_getElem?_getD, hi]⟩
theorem cell_lt {w : World} {a : Addr} {v : Value} (h : w.cell? a = some v) : a.block < w.heap.size := by
  rcases Nat.lt_or_ge a.block w.heap.size with h1 | h1
  · exact h1
  · simp [World.cell?, Array.getElem?_eq_none h1] at h
def lightB (l : List DAct) : Bool := (l.all fun x => decide (x.text.size ≤ 80)) && decide (l.length ≤ 60)
theorem light_iff {l : List DAct} (h : lightB l = true) : l.length ≤ 60 ∧ ∀ x ∈ l, x.text.size ≤ 80 := by
  unfold lightB at h
  simp at h
  exact ⟨h.2, h.1⟩
set_option maxRecDepth 100000 in
set_option maxHeartbeats 1000000 in
theorem Light_calls (A : Option Addr) (c : Nat) (l : List DAct) (w : World) (hA : Acts w.heap.size A l w) (hl : l.length ≤ maxLen) :
    Calls Try.prog 25 #[.slice A l.length c] w fun e w' => e = .returned (.bool (lightB l)) ∧ Below w.heap.size w w' := by
  unfold maxLen at hl
  have HA := Lib.hid hA
  clear hA
  go_enter Try.func25, Try.ntmps25
  go_wp2
  go_loopw [7] (fun i wr => ∃ k : Nat, k ≤ l.length ∧ i = .int .i64 k ∧ Hid (Below w.heap.size w wr) ∧ Hid ((l.take k).all (fun x => decide (x.text.size ≤ 80)) = true)) (fun i _ => l.length - (intOf i).toNat)
  case atStart => exact ⟨0, by omega, rfl, Lib.hid (Below.refl _ _), rfl⟩
  case round =>
    obtain ⟨k, hk, rfl, hB, hP⟩ := hrel
    by_cases hlt : k < l.length
    · obtain ⟨b, off, rfl, hbl, hi⟩ := (HA.out.below hB.out) (by omega)
      obtain ⟨c0, c1, c2, c3⟩ := hi k hlt
      clear hi
      have HT := Lib.hid (take_succ_getD l k hlt)
      have HM := Lib.hid (getD_mem l k hlt)
      generalize l.getD k default = x at *
      by_cases hx : 80 < x.text.size
      · have HE := Lib.hid (show lightB l = false by
          unfold lightB
          rw [Bool.and_eq_false_iff]
          left
          rw [List.all_eq_false]
          exact ⟨x, HM.out, by simp; omega⟩)
        go_wp2
        go_ret
        rw [HE.out]
        exact ⟨rfl, hB.out.alloc hB.out.size _⟩
      · go_wp2
        refine ⟨⟨k + 1, by omega, by go_num, Lib.hid (hB.out.alloc hB.out.size _), Lib.hid ?_⟩, by simp [intOf]; omega⟩
        rw [HT.out, List.all_append, hP.out]
        simp; omega
    · obtain rfl : k = l.length := by omega
      have HE := Lib.hid (show lightB l = decide (l.length ≤ 60) by
        have := hP.out
        rw [List.take_length] at this
        unfold lightB
        rw [this, Bool.true_and])
      go_wp2
      go_ret
      rw [HE.out]
      refine ⟨?_, hB.out⟩
      congr 2
      simp; omega
set_option maxRecDepth 100000 in
theorem open_acts {H : Type} {enc : TypeId × Value → H} {w : World} {base : Nat} {spare : Nat → Bool} {held : Bool} {r : Reach} {b0 : Nat} {v : Value} {d : DataW H} {p : List MemPlace}
    (hv : Value.okWide Try.prog w r b0 37 v) (h : DataW.Trod enc Try.prog w base spare held 37 v d p) :
    ∃ (A : Option Addr) (c : Nat) (l : List DAct), v = .slice A l.length c ∧ l.length ≤ maxLen ∧ Acts w.heap.size A l w ∧ ∀ x ∈ l, x.Ok := by
  obtain ⟨A, len, cap, rfl, hlen, hrow⟩ := Open.open_rows Try.underlying37 Try.underlying42 (by kernel_rfl) (by kernel_rfl) (by decide) hv h
  by_cases h0 : 0 < len
  · obtain ⟨b, off, rfl, hr⟩ := hrow h0
    have hex : ∀ i, i < len → ∃ x : DAct, ActAt b (off + i * 4) x w ∧ x.Ok := fun i hi => by
      obtain ⟨x0, y0, m0, c0, t0⟩ := hr i hi 0 _ rfl
      obtain ⟨x1, y1, m1, c1, t1⟩ := hr i hi 1 _ rfl
      obtain ⟨x2, y2, m2, c2, t2⟩ := hr i hi 2 _ rfl
      obtain ⟨x3, y3, m3, c3, t3⟩ := hr i hi 3 _ rfl
      obtain ⟨k, rfl⟩ := Open.byte_cell Try.underlying5 t0
      obtain ⟨n, rfl, hn⟩ := Open.i64_cell Try.underlying3 t1
      obtain ⟨z, rfl, hz⟩ := Open.i64_cell Try.underlying3 t2
      obtain ⟨s, rfl, hs⟩ := Open.str_cell Try.underlying9 t3
      exact ⟨⟨k, n, z, s⟩, ⟨c0, c1, c2, c3⟩, hn, hz, hs⟩
    obtain ⟨l, rfl, hl⟩ := Open.list_of len _ hex
    refine ⟨_, cap, l, rfl, hlen, fun _ => ⟨b, off, rfl, cell_lt (hl 0 h0).1.1, fun i hi => (hl i hi).1⟩, fun x hx => ?_⟩
    obtain ⟨i, hi, rfl⟩ := mem_getD hx
    exact (hl i hi).2
  · obtain rfl : len = 0 := by omega
    exact ⟨A, cap, [], rfl, Nat.zero_le _, fun h => absurd h (Nat.lt_irrefl 0), fun x hx => by cases hx⟩
end Go.Proofs.Ytopacbmdoognjaa.Disk
/- The walk of DiskFalls. -/
namespace Go.Proofs.Ytopacbmdoognjaa.Disk
open Go Go.RowKit Frame
def wait (s : DSt) (ws : List Wr) : DSt := { s with wait := ws }
theorem wrote_wait (s : DSt) (ws : List Wr) (k : Int) (t : ByteArray) (h : ans (wait s ws) k t = 0) : wrote (wait s ws) k t = wait s (ws ++ [(k.toNat, t)]) := by
  unfold wrote
  rw [if_pos h]
  rfl
theorem wrote_no (s : DSt) (k : Int) (t : ByteArray) (h : ans s k t ≠ 0) : wrote s k t = s := by
  unfold wrote
  rw [if_neg h]
theorem wr_cut (s : DSt) (ws vs : List Wr) (k : Int) (t t' : ByteArray) (h : ans (wait s ws) k t = 0) (ht : t'.size ≤ t.size) : ans (wait s vs) k t' = 0 := by
  obtain ⟨h1, h2⟩ := ans_zero h
  have h3 : chk (wait s vs) k = 0 := h1
  unfold ans
  rw [if_neg (by simp [h3]), if_neg (by omega)]
/-- What the loop has done behind some acts. -/
structure FallsI (W : World) (d1 L1 d2 L2 : Nat) (c0 : Int) (k : Nat) (ws : List Wr) (w : World) : Prop where
  fits : Fits 6 ws
  len : ws.length ≤ k
  two : Two W.heap.size d1 L1 d2 L2 (wait (fresh 6) ws) (wait (fresh 6) (cutws ws c0)) w
  bel : Below W.heap.size W w
theorem good_wait {ws : List Wr} (hf : Fits 6 ws) (hl : ws.length ≤ 1000) : Good 6 (wait (fresh 6) ws) := by
  have h := Good.fresh 6 (by decide)
  exact ⟨hf, h.len, h.hn, by show ws.length ≤ 100000; omega, h.syncs, h.cut⟩
theorem FallsI.start {W : World} {d1 L1 d2 L2 : Nat} {c0 : Int} {w : World} (h : Two W.heap.size d1 L1 d2 L2 (fresh 6) (fresh 6) w) (hb : Below W.heap.size W w) : FallsI W d1 L1 d2 L2 c0 0 [] w :=
  ⟨(fun x hx => by cases hx), by simp, h, hb⟩
theorem upto_min (a : Int) (n m : Nat) (hm : min a (n : Int) = (m : Int)) : upto a n = m := by unfold upto; omega
/-- One more write, done to both. -/
theorem FallsI.next {W : World} {d1 L1 d2 L2 : Nat} {c0 : Int} {k : Nat} {ws : List Wr} {w w' : World} {a : Int} {t : ByteArray} {n : Nat} (h : FallsI W d1 L1 d2 L2 c0 k ws w) (hz : ans (wait (fresh 6) ws) a t = 0) (hn : upto (left ws c0) t.size = n)
    (ht : Two W.heap.size d1 L1 d2 L2 (wait (fresh 6) (ws ++ [(a.toNat, t)])) (wait (fresh 6) (cutws ws c0 ++ [(a.toNat, t.extract 0 n)])) w') (hb : Below W.heap.size W w') : FallsI W d1 L1 d2 L2 c0 (k + 1) (ws ++ [(a.toNat, t)]) w' := by
  obtain ⟨h1, h2⟩ := ans_zero hz
  obtain ⟨_, h3, h4⟩ := chk_zero h1
  have hl : (wait (fresh 6) ws).last.length = 64 * 6 := (Good.fresh 6 (by decide)).len
  refine ⟨h.fits.append (fun x hx => ?_), by have := h.len; simp; omega, ?_, hb⟩
  · simp only [List.mem_singleton] at hx
    subst hx
    exact ⟨by simp only; omega, h2⟩
  · rw [cutws_append]
    simp only [cutws, hn]
    exact ht
theorem left_snoc (ws : List Wr) (k : Nat) (t : ByteArray) (c : Int) (n : Nat) (hn : upto (left ws c) t.size = n) : left (ws ++ [(k, t)]) c = left ws c - (n : Int) := by
  rw [left_append]
  simp only [left, hn]
theorem Good.down {n : Nat} {s : DSt} (h : Good n s) (c : Int) : Good n (down s c) := by
  unfold Disk.down
  split
  · exact ⟨(fun x hx => by cases hx), done_length n _ _ _ h.len h.fits, h.hn, Nat.zero_le _, h.syncs, h.cut⟩
  · exact h
theorem Two.drew {base d1 L1 d2 L2 : Nat} {s1 s2 : DSt} {w : World} (h : Two base d1 L1 d2 L2 s1 s2 w) : Two base d1 L1 d2 L2 s1 s2 w.drew := h.below ⟨rfl, rfl, rfl, Nat.le_refl _, fun _ _ => rfl⟩
set_option maxRecDepth 100000 in
set_option maxHeartbeats 2000000 in
theorem DiskFalls_walk (A : Option Addr) (c : Nat) (l : List DAct) (cut : Int) (W : World) (hA : Acts W.heap.size A l W) (hO : ∀ x ∈ l, x.Ok) (hl : l.length ≤ maxLen) (hc : -9223372036854775808 ≤ cut ∧ cut ≤ 9223372036854775807) :
    Calls Try.prog 4 #[.slice A l.length c, .int .i64 cut] W fun e w' => e = .returned (.bool true) ∧ Below W.heap.size W w' := by
  have HA := Lib.hid hA
  have HO := Lib.hid hO
  have HL := Lib.hid hl
  clear hA hO hl
  have hg6 := Good.fresh 6 (by decide)
  go_enter Try.func4, Try.ntmps4
  go_wp2_with fail
  refine (awake_calls _).mono ?_
  rintro e w1 ⟨rfl, b1⟩
  have B1 := Lib.hid b1
  have HA1 := Lib.hid ((HA.out.below b1).more b1.size)
  clear b1
  go_wp2_with fail
  refine (Light_calls A c l _ HA1.out HL.out).mono ?_
  rintro e w2 ⟨rfl, b2⟩
  have B2 := Lib.hid (bthen B1.out b2)
  clear b2
  cases hL : lightB l with
  | false =>
    go_wp2_with fail
    go_ret
    exact ⟨rfl, B2.out⟩
  | true =>
    have HT := Lib.hid (light_iff hL)
    clear hL
    have hn := HT.out.1
    go_wp2_with fail
    refine (New_one 6 (by decide) _).mono ?_
    rintro e w3 ⟨rfl, o3, b3⟩
    have O3 := Lib.hid (o3.base B2.out.size)
    have B3 := Lib.hid (bthen B2.out b3)
    clear o3 b3
    go_wp2_with fail
    refine (New_one 6 (by decide) _).mono ?_
    rintro e w4 ⟨rfl, o4, b4⟩
    have B4 := Lib.hid (bthen B3.out b4)
    have h24 := b4.size
    have T4 := Lib.hid (O3.out.and b4 o4)
    clear o4 b4
    generalize w2.heap.size + 1 = d1 at *
    generalize w3.heap.size + 1 = d2 at *
    have hB : W.heap.size ≤ w2.heap.size := B2.out.size
    generalize w2.heap.size = L1 at *
    generalize w3.heap.size = L2 at *
    obtain ⟨c0, hc0⟩ : ∃ c0 : Int, max cut 0 = c0 := ⟨_, rfl⟩
    have HC0 := Lib.hid hc0
    have hc0n : 0 ≤ c0 ∧ c0 ≤ 9223372036854775807 := by omega
    go_wp2_with fail
    go_loopw [7, 22] (fun t i wr => ∃ (k : Nat) (ws : List Wr), k ≤ l.length ∧ i = .int .i64 k ∧ t = .int .i64 (left ws c0) ∧ Hid (FallsI W d1 L1 d2 L2 c0 k ws wr)) (fun _ i _ => l.length - (intOf i).toNat)
    case atStart => exact ⟨0, [], by omega, rfl, by simp [left], Lib.hid (FallsI.start T4.out B4.out)⟩
    case round =>
      obtain ⟨k, ws, hk, rfl, rfl, hI⟩ := hrel
      by_cases hlt : k < l.length
      · obtain ⟨b, off, rfl, hbl, hi⟩ := (HA.out.below hI.out.bel) (by omega)
        obtain ⟨r0, r1, r2, r3⟩ := hi k hlt
        clear hi
        have hll := left_le ws c0
        have hx := HT.out.2 _ (getD_mem l k hlt)
        have hxo := (HO.out _ (getD_mem l k hlt)).1
        generalize l.getD k default = x at *
        obtain ⟨kd, at_, ct, t⟩ := x
        simp only at r0 r1 r2 r3 hx hxo
        have hfz := hI.out.len
        have hg := good_wait hI.out.fits (by omega)
        have hg2 := good_wait (hI.out.fits.cutws ws c0) (by rw [cutws_length]; omega)
        have HG := Lib.hid (And.intro hg hg2)
        have HN := Lib.hid (Has.new wr #[.int .u8 (kd.toNat : Int), .int .i64 at_, .int .i64 ct, .string t] 42)
        clear hg hg2
        go_wp2_with fail
        refine ((hI.out.two.below ((Below.refl _ _).alloc (Nat.le_refl _) _)).calls fun v hd => Write_any _ _ _ 6 v _ at_ t HG.out.1 (by show ws.length + 1 ≤ _; omega) _ hd).mono ?_
        rintro e w5 ⟨rfl, t5, b5, k5⟩
        have HN5 := Lib.hid (k5 _ _ _ (by decide) (by decide) (by decide) HN.out)
        have B5 := Lib.hid (((hI.out.bel.alloc hI.out.bel.size _).trans b5))
        have T5 := Lib.hid t5
        clear t5 b5 k5
        have y1 := HN5.out.cell 1
        have y3 := HN5.out.cell 3
        by_cases hz : ans (wait (fresh 6) ws) at_ t = 0
        · rw [hz]
          have HZ := Lib.hid hz
          obtain ⟨n, hn⟩ : ∃ n : Nat, min (left ws c0) (t.size : Int) = (n : Int) := ⟨(min (left ws c0) (t.size : Int)).toNat, by omega⟩
          have HU := Lib.hid (upto_min _ _ _ hn)
          have hnt : n ≤ t.size := by omega
          have hnl : (n : Int) ≤ left ws c0 := by omega
          have HLS := Lib.hid (left_snoc ws at_.toNat t c0 n HU.out)
          have HW := Lib.hid (wrote_wait _ _ _ _ hz)
          have HW2 := Lib.hid (wr_cut _ _ (cutws ws c0) _ _ (t.extract 0 n) hz (by simp; omega))
          clear hz
          generalize hlf : left ws c0 = lf at *
          have HLF := Lib.hid hlf
          clear hlf
          have hn0 : (0 : Int) ≤ (n : Int) := by omega
          have hn1 : (n : Int) ≤ (t.size : Int) := by omega
          go_wp2_with fail
          go_region_held3 (fun w' => w'.cell? ⟨wr.heap.size, 1, none⟩ = some (.int .i64 at_) ∧ w'.cell? ⟨wr.heap.size, 3, none⟩ = some (.string t)) (first | exact ⟨y1, y3⟩ | (have h := k6 _ _ _ (by decide) (by decide) (by decide) HN5.out.drew; exact ⟨h.cell 1, h.cell 3⟩) | go_keep)
            ((go_at_call 27; refine (T5.out.swap.drew.calls fun v hd => Write_any _ _ _ 6 v _ at_ (t.extract 0 n) HG.out.2 (by show (cutws ws c0).length + 1 ≤ _; rw [cutws_length]; omega) _ hd).mono ?_; rintro e w6 ⟨rfl, t6, b6, k6⟩))
          rw [HW2.out]
          have HJ := Lib.hid (show FallsI W d1 L1 d2 L2 c0 (k + 1) (ws ++ [(at_.toNat, t)]) w6 from by
            have h6 := t6.swap
            rw [HW.out, wrote_wait _ _ _ _ HW2.out] at h6
            exact hI.out.next HZ.out (by rw [HLF.out]; exact HU.out) h6 (B5.out.drew.trans b6))
          clear t6 b6 k6
          go_wp2_with fail
          exact ⟨⟨k + 1, _, by omega, by go_num, by rw [HLS.out], HJ⟩, by simp [intOf]; omega⟩
        · have HW := Lib.hid (wrote_no _ _ _ hz)
          have hz' : (ans (wait (fresh 6) ws) at_ t != 0) = true := by simpa using hz
          generalize ans (wait (fresh 6) ws) at_ t = z at *
          go_wp2_with fail
          have HJ := Lib.hid (show FallsI W d1 L1 d2 L2 c0 (k + 1) ws w5 from ⟨hI.out.fits, by omega, by have := T5.out; rw [HW.out] at this; exact this, B5.out⟩)
          exact ⟨⟨k + 1, ws, by omega, by go_num, rfl, HJ⟩, by simp [intOf]; omega⟩
      · obtain rfl : k = l.length := by omega
        have hfz := hI.out.len
        have hg := good_wait hI.out.fits (by omega)
        have hg2 := good_wait (hI.out.fits.cutws ws c0) (by rw [cutws_length]; omega)
        have HG := Lib.hid (And.intro hg hg2)
        clear hg hg2
        have HT5 := Lib.hid hI.out.two
        have HB5 := Lib.hid hI.out.bel
        generalize left ws c0 = lf at *
        go_wp2_with fail
        refine (HT5.out.calls fun v hd => Down_calls _ _ _ 6 v _ cut hc HG.out.1 _ hd).mono ?_
        rintro e w6 ⟨rfl, t6, b6, -⟩
        have T6 := Lib.hid t6.swap
        have B6 := Lib.hid (HB5.out.trans b6)
        clear t6 b6
        go_wp2_with fail
        refine (T6.out.calls fun v hd => Sync_any _ _ _ 6 v _ HG.out.2 _ hd).mono ?_
        rintro e w7 ⟨rfl, t7, b7, -⟩
        have B7 := Lib.hid (B6.out.trans b7)
        rw [synced_on _ rfl (.inl rfl)] at t7
        rw [synced_on _ rfl (.inl rfl)]
        have T7 := Lib.hid t7.swap
        clear t7 b7
        go_wp2_with fail
        refine (Calls.mono (T7.out.calls fun v hd => (Lasts_calls _ _ _ v _ _ hd).mono fun _ _ h => post_of_same hd h.1 h.2) ?_)
        rintro e w8 ⟨rfl, t8, b8, -⟩
        have B8 := Lib.hid (B7.out.trans b8)
        have T8 := Lib.hid t8.swap
        clear t8 b8
        have HE := Lib.hid (show Oct.bs (down (wait (fresh 6) ws) cut).last = Oct.bs (all (wait (fresh 6) (cutws ws c0)).last (wait (fresh 6) (cutws ws c0)).wait) from by
          show Oct.bs (done (fresh 6).last ws cut) = Oct.bs (all (fresh 6).last (cutws ws c0))
          rw [all_cutws, show c0 = max 0 cut by have := HC0.out; omega, done_max])
        rw [HE.out]
        have HO2 := Lib.hid (show (down (wait (fresh 6) ws) cut).on = false from rfl)
        go_wp2_with fail
        refine (Calls.mono (T8.out.calls fun v hd => (Lasts_calls _ _ _ v _ _ hd).mono fun _ _ h => post_of_same hd h.1 h.2) ?_)
        rintro e w9 ⟨rfl, t9, b9, -⟩
        have B9 := Lib.hid (B8.out.trans b9)
        have T9 := Lib.hid t9.swap
        clear t9 b9
        go_wp2_with fail
        refine (T9.out.calls fun v hd => Sync_any _ _ _ 6 v _ (HG.out.1.down cut) _ hd).mono ?_
        rintro e w10 ⟨rfl, t10, b10, -⟩
        rw [synced_off _ HO2.out]
        have B10 := Lib.hid (B9.out.trans b10)
        clear t10 b10
        go_wp2_with fail
        go_ret
        exact ⟨rfl, B10.out⟩
end Go.Proofs.Ytopacbmdoognjaa.Disk
/- The walk of DiskArms. -/
namespace Go.Proofs.Ytopacbmdoognjaa.Disk
open Go Go.RowKit Frame
theorem wrote_step (S0 : DSt) (ws : List Wr) (n : Nat) (a : Int) (t : ByteArray) (hl : S0.last.length = 64 * n) (hf : Fits n ws) :
    ∃ ws', wrote (wait S0 ws) a t = wait S0 ws' ∧ Fits n ws' ∧ ws'.length ≤ ws.length + 1 := by
  by_cases h : ans (wait S0 ws) a t = 0
  · obtain ⟨h1, h2⟩ := ans_zero h
    obtain ⟨_, h3, h4⟩ := chk_zero h1
    refine ⟨_, wrote_wait _ _ _ _ h, hf.append (fun x hx => ?_), by simp⟩
    simp only [List.mem_singleton] at hx
    subst hx
    have h5 : (wait S0 ws).last.length = 64 * n := hl
    exact ⟨by simp only; omega, h2⟩
  · exact ⟨ws, wrote_no _ _ _ h, hf, by omega⟩
/-- Behind some rounds: what lasts, how many syncs are left. -/
def armedSt (last : List UInt8) (m : Int) (C : Int) : DSt := ⟨last, [], true, true, m, C⟩
theorem good_armed {last : List UInt8} {ws : List Wr} {m C : Int} (hl : last.length = 64 * 6) (hf : Fits 6 ws) (hn : ws.length ≤ 1000) (hm : 0 ≤ m ∧ m ≤ 20) (hC : 0 ≤ C ∧ C ≤ 9223372036854775807) : Good 6 (wait (armedSt last m C) ws) :=
  ⟨hf, hl, by omega, by show ws.length ≤ 100000; omega, by show 0 ≤ m ∧ m ≤ 9223372036854775807; omega, hC⟩
structure ArmsI (W : World) (d L : Nat) (C m : Int) (k : Nat) (last : List UInt8) (ws : List Wr) (w : World) : Prop where
  len : last.length = 64 * 6
  fits : Fits 6 ws
  many : ws.length ≤ k
  one : One W.heap.size d L (wait (armedSt last m C) ws) w
  bel : Below W.heap.size W w
theorem all_length (n : Nat) (ws : List Wr) (s : List UInt8) (h : s.length = 64 * n) (hf : Fits n ws) : (all s ws).length = 64 * n := by
  rw [← done_all ws s (total ws) (Int.le_refl _)]
  exact done_length n ws s _ h hf
set_option maxRecDepth 100000 in
set_option maxHeartbeats 2000000 in
theorem DiskArms_walk (A : Option Addr) (c : Nat) (l : List DAct) (syncs cut : Int) (W : World) (hA : Acts W.heap.size A l W) (hO : ∀ x ∈ l, x.Ok) (hl : l.length ≤ maxLen)
    (hs : -9223372036854775808 ≤ syncs ∧ syncs ≤ 9223372036854775807) (hc : -9223372036854775808 ≤ cut ∧ cut ≤ 9223372036854775807) :
    Calls Try.prog 6 #[.slice A l.length c, .int .i64 syncs, .int .i64 cut] W fun e w' => e = .returned (.bool true) ∧ Below W.heap.size W w' := by
  have HA := Lib.hid hA
  have HO := Lib.hid hO
  have HL := Lib.hid hl
  clear hA hO hl
  go_enter Try.func6, Try.ntmps6
  go_wp2_with fail
  refine (awake_calls _).mono ?_
  rintro e w1 ⟨rfl, b1⟩
  have B1 := Lib.hid b1
  have HA1 := Lib.hid ((HA.out.below b1).more b1.size)
  clear b1
  go_wp2_with fail
  refine (Light_calls A c l _ HA1.out HL.out).mono ?_
  rintro e w2 ⟨rfl, b2⟩
  have B2 := Lib.hid (bthen B1.out b2)
  clear b2
  cases hL : lightB l with
  | false =>
    go_wp2_with fail
    go_ret
    exact ⟨rfl, B2.out⟩
  | true =>
    have HT := Lib.hid (light_iff hL)
    clear hL
    have hn := HT.out.1
    by_cases h20 : 20 < syncs
    · go_wp2_with fail
      go_ret
      exact ⟨rfl, B2.out⟩
    · go_wp2_with fail
      refine (New_one 6 (by decide) _).mono ?_
      rintro e w3 ⟨rfl, o3, b3⟩
      have O3 := Lib.hid (o3.base B2.out.size)
      have B3 := Lib.hid (bthen B2.out b3)
      clear o3 b3
      generalize w2.heap.size + 1 = d at *
      generalize w2.heap.size = L at *
      go_wp2_with fail
      refine (Calls.mono (O3.out.calls fun v hd => (Arm_calls _ _ _ v _ syncs cut _ hd).mono fun _ _ h => post_of_only h.1 h.2.1 h.2.2) ?_)
      rintro e w4 ⟨rfl, o4, b4, -⟩
      obtain ⟨S, hS⟩ : ∃ S : Nat, max 0 syncs = (S : Int) := ⟨(max 0 syncs).toNat, by omega⟩
      obtain ⟨C, hC⟩ : ∃ C : Int, max 0 cut = C := ⟨_, rfl⟩
      have hCr : 0 ≤ C ∧ C ≤ 9223372036854775807 := by omega
      have hSr : S ≤ 20 := by omega
      have HI := Lib.hid (show ArmsI W d L C ((S : Int) - (0 : Nat)) 0 (List.replicate (64 * 6) 0) [] w4 from ⟨by simp, (fun x hx => by cases hx), Nat.le_refl _, by
        have e : armed (fresh 6) syncs cut = wait (armedSt (List.replicate (64 * 6) 0) ((S : Int) - (0 : Nat)) C) [] := by
          simp only [armed, fresh, wait, armedSt, if_pos, hS, hC]
          simp
        rw [← e]; exact o4, B3.out.trans b4⟩)
      clear o4 b4 hC
      go_wp2_with fail
      go_loopw [26] (fun i wr => ∃ (j : Nat) (last : List UInt8), j ≤ S ∧ i = .int .i64 j ∧ Hid (ArmsI W d L C ((S : Int) - j) 0 last [] wr)) (fun i _ => S - (intOf i).toNat)
      case atStart => exact ⟨0, _, by omega, rfl, HI⟩
      case round =>
        obtain ⟨j, last, hj, rfl, hI⟩ := hrel
        obtain ⟨wo, rfl⟩ : ∃ wo : World, wo = wr := ⟨_, rfl⟩
        by_cases hlt : j < S
        · go_wp2_with fail
          go_loopw [30] (fun i wr => ∃ (k : Nat) (ws : List Wr), k ≤ l.length ∧ i = .int .i64 k ∧ Hid (ArmsI W d L C ((S : Int) - j) k last ws wr)) (fun i _ => l.length - (intOf i).toNat)
          case atStart => exact ⟨0, [], by omega, rfl, hI⟩
          case round =>
            obtain ⟨k, ws, hk, rfl, hJ⟩ := hrel
            by_cases hlt2 : k < l.length
            · obtain ⟨b, off, rfl, hbl, hi⟩ := (HA.out.below hJ.out.bel) (by omega)
              obtain ⟨r0, r1, r2, r3⟩ := hi k hlt2
              clear hi
              generalize l.getD k default = x at *
              obtain ⟨kd, at_, ct, t⟩ := x
              simp only at r0 r1 r2 r3
              have hfz := hJ.out.many
              obtain ⟨ws', he, hf', hm'⟩ := wrote_step (armedSt last ((S : Int) - j) C) ws 6 at_ t hJ.out.len hJ.out.fits
              have HE := Lib.hid he
              have HF' := Lib.hid hf'
              clear he hf'
              go_wp2_with fail
              refine ((hJ.out.one.below ((Below.refl _ _).alloc (Nat.le_refl _) _)).calls fun v hd => Write_any _ _ _ 6 v _ at_ t (good_armed hJ.out.len hJ.out.fits (by omega) (by omega) hCr) (by show ws.length + 1 ≤ _; omega) _ hd).mono ?_
              rintro e w5 ⟨rfl, t5, b5, -⟩
              rw [HE.out] at t5
              have HK := Lib.hid (show ArmsI W d L C ((S : Int) - j) (k + 1) last ws' w5 from ⟨hJ.out.len, HF'.out, by omega, t5, ((hJ.out.bel.alloc hJ.out.bel.size _).trans b5)⟩)
              clear t5 b5
              go_wp2_with fail
              exact ⟨⟨k + 1, ws', by omega, by go_num, HK⟩, by simp [intOf]; omega⟩
            · obtain rfl : k = l.length := by omega
              have hfz := hJ.out.many
              have ho : (wait (armedSt last ((S : Int) - j) C) ws).on = true := rfl
              have hs1 : (wait (armedSt last ((S : Int) - j) C) ws).armed = false ∨ (wait (armedSt last ((S : Int) - j) C) ws).syncs ≠ 0 := .inr (by show (S : Int) - j ≠ 0; omega)
              have HOn := Lib.hid (And.intro ho hs1)
              clear ho hs1
              go_wp2_with fail
              refine (hJ.out.one.calls fun v hd => Sync_on _ _ _ 6 v _ (good_armed hJ.out.len hJ.out.fits (by omega) (by omega) hCr) HOn.out.1 HOn.out.2 _ hd).mono ?_
              rintro e w6 ⟨rfl, t6, b6, -⟩
              have hlast := all_length 6 ws last hJ.out.len hJ.out.fits
              have HK := Lib.hid (show ArmsI W d L C ((S : Int) - ((j + 1 : Nat) : Int)) 0 (all last ws) [] w6 from ⟨hlast, (fun x hx => by cases hx), Nat.le_refl _, by
                have e : ({ wait (armedSt last ((S : Int) - j) C) ws with last := all last ws, wait := [], syncs := max 0 ((S : Int) - j - 1) } : DSt) = wait (armedSt (all last ws) ((S : Int) - ((j + 1 : Nat) : Int)) C) [] := by
                  simp only [wait, armedSt]
                  congr 1
                  omega
                rw [← e]; exact t6, hJ.out.bel.trans b6⟩)
              clear t6 b6 hlast
              obtain ⟨v6, hd6⟩ := HK.out.one
              have HD6 := Lib.hid hd6
              clear hd6
              go_wp2_with fail
              refine (Waits_calls _ _ _ 6 v6 _ (fun x hx => by cases hx) (Nat.zero_le _) _ HD6.out).mono ?_
              rintro e w7 ⟨rfl, b7⟩
              have HM := Lib.hid (show ArmsI W d L C ((S : Int) - ((j + 1 : Nat) : Int)) 0 (all last ws) [] w7 from ⟨HK.out.len, HK.out.fits, Nat.le_refl _, HK.out.one.below b7, bthen HK.out.bel b7⟩)
              clear b7
              rw [show ((total (wait (armedSt (all last ws) ((S : Int) - ((j + 1 : Nat) : Int)) C) []).wait : Nat) : Int) = 0 from rfl]
              go_wp2_with fail
              exact ⟨⟨j + 1, all last ws, by omega, by go_num, HM⟩, by simp [intOf]; omega⟩
        · obtain rfl : j = S := by omega
          rw [Int.sub_self] at hI
          have hg := good_armed hI.out.len (show Fits 6 [] from (fun x hx => by cases hx)) (by simp) (show (0 : Int) ≤ 0 ∧ (0 : Int) ≤ 20 by decide) hCr
          have HG := Lib.hid hg
          clear hg
          go_wp2_with fail
          refine (hI.out.one.calls fun v hd => Sync_any _ _ _ 6 v _ HG.out _ hd).mono ?_
          rintro e w5 ⟨rfl, t5, b5, -⟩
          rw [synced_gone _ rfl rfl rfl] at t5
          rw [synced_gone _ rfl rfl rfl]
          have hw5 : (down (wait (armedSt last 0 C) []) (wait (armedSt last 0 C) []).cut).wait.length + 1 ≤ 100000 := by show 0 + 1 ≤ 100000; decide
          have hoff : (down (wait (armedSt last 0 C) []) (wait (armedSt last 0 C) []).cut).on = false := rfl
          have B5 := Lib.hid (hI.out.bel.trans b5)
          have G5 := Lib.hid (HG.out.down (wait (armedSt last 0 C) []).cut)
          generalize down (wait (armedSt last 0 C) []) (wait (armedSt last 0 C) []).cut = s5 at *
          have T5 := Lib.hid t5
          have HOff := Lib.hid hoff
          clear t5 b5 hoff
          go_wp2_with fail
          refine (Calls.mono (T5.out.calls fun v hd => (On_calls _ _ _ v _ _ hd).mono fun _ _ h => post_of_same hd h.1 h.2) ?_)
          rintro e w6 ⟨rfl, t6, b6, -⟩
          have T6 := Lib.hid t6
          have B6 := Lib.hid (B5.out.trans b6)
          clear t6 b6
          rw [HOff.out]
          go_wp2_with fail
          have e16 : ans s5 0 ⟨#[]⟩ = 16 := by simp [ans, chk, HOff.out]
          have ew : wrote s5 0 ⟨#[]⟩ = s5 := wrote_no _ _ _ (by rw [e16]; decide)
          have E16 := Lib.hid e16
          have EW := Lib.hid ew
          clear e16 ew
          refine (T6.out.calls fun v hd => Write_any _ _ _ 6 v _ 0 ⟨#[]⟩ G5.out hw5 _ hd).mono ?_
          rintro e w7 ⟨rfl, t7, b7, -⟩
          rw [E16.out]
          rw [EW.out] at t7
          have T7 := Lib.hid t7
          have B7 := Lib.hid (B6.out.trans b7)
          clear t7 b7
          go_wp2_with fail
          refine (Calls.mono (T7.out.calls fun v hd => (Up_calls _ _ _ v _ _ hd).mono fun _ _ h => post_of_only h.1 h.2.1 h.2.2) ?_)
          rintro e w8 ⟨rfl, t8, b8, -⟩
          have eu : upped s5 = { s5 with on := true, armed := false, syncs := 0, cut := 0 } := by simp [upped, HOff.out]
          rw [eu] at t8
          have T8 := Lib.hid t8
          have B8 := Lib.hid (B7.out.trans b8)
          clear t8 b8 eu
          go_wp2_with fail
          refine (Calls.mono (T8.out.calls fun v hd => (On_calls _ _ _ v _ _ hd).mono fun _ _ h => post_of_same hd h.1 h.2) ?_)
          rintro e w9 ⟨rfl, t9, b9, -⟩
          have T9 := Lib.hid t9
          have B9 := Lib.hid (B8.out.trans b9)
          clear t9 b9
          go_wp2_with fail
          have g9 : Good 6 { s5 with on := true, armed := false, syncs := 0, cut := 0 } := ⟨G5.out.fits, G5.out.len, G5.out.hn, G5.out.many, by simp, by simp⟩
          have G9 := Lib.hid g9
          clear g9
          refine (T9.out.calls fun v hd => Sync_on _ _ _ 6 v _ G9.out rfl (.inl rfl) _ hd).mono ?_
          rintro e w10 ⟨rfl, t10, b10, -⟩
          have T10 := Lib.hid t10
          have B10 := Lib.hid (B9.out.trans b10)
          clear t10 b10
          go_wp2_with fail
          refine (T10.out.calls fun v hd => Sync_on _ _ _ 6 v _ ⟨(fun x hx => by cases hx), all_length 6 _ _ G9.out.len G9.out.fits, G9.out.hn, Nat.zero_le _, by show 0 ≤ max 0 ((0 : Int) - 1) ∧ max 0 ((0 : Int) - 1) ≤ 9223372036854775807; decide, by simp⟩ rfl (.inl rfl) _ hd).mono ?_
          rintro e w11 ⟨rfl, -, b11, -⟩
          have B11 := Lib.hid (B10.out.trans b11)
          clear b11
          go_wp2_with fail
          go_ret
          exact ⟨rfl, B11.out⟩
end Go.Proofs.Ytopacbmdoognjaa.Disk
/- The walk of DiskKeeps. -/
namespace Go.Proofs.Ytopacbmdoognjaa.Disk
open Go Go.RowKit Frame
theorem ans_congr {s s' : DSt} (ho : s.on = s'.on) (hl : s.last = s'.last) (k : Int) (t : ByteArray) : ans s k t = ans s' k t := by
  unfold ans chk
  rw [ho, hl]
def hasW (ws : List Wr) (i : Nat) : Bool := ws.any fun x => x.1 == i
def since (ws : List Wr) : Array Value := #[.bool (hasW ws 0), .bool (hasW ws 1), .bool (hasW ws 2), .bool (hasW ws 3), .bool (hasW ws 4), .bool (hasW ws 5)]
theorem since_set (ws : List Wr) (k : Nat) (t : ByteArray) (h : k < 6) : (since ws).setIfInBounds k (.bool true) = since (ws ++ [(k, t)]) := by
  have h' : k = 0 ∨ k = 1 ∨ k = 2 ∨ k = 3 ∨ k = 4 ∨ k = 5 := by omega
  rcases h' with rfl | rfl | rfl | rfl | rfl | rfl <;> simp [since, hasW]
theorem since_at (ws : List Wr) (k : Nat) (h : k < 6) : (since ws)[k]? = some (.bool (hasW ws k)) := by
  have h' : k = 0 ∨ k = 1 ∨ k = 2 ∨ k = 3 ∨ k = 4 ∨ k = 5 := by omega
  rcases h' with rfl | rfl | rfl | rfl | rfl | rfl <;> rfl
theorem hasW_no {ws : List Wr} {i : Nat} (h : hasW ws i = false) : ∀ x ∈ ws, x.1 ≠ i := by
  unfold hasW at h
  rw [List.any_eq_false] at h
  intro x hx e
  exact h x hx (by simpa using e)
/-- Two disks with the same bytes, both on; the same waits. -/
structure KeepI (W : World) (d1 L1 d2 L2 : Nat) (Sa Sb : DSt) (k : Nat) (ws : List Wr) (w : World) : Prop where
  fits : Fits 6 ws
  many : ws.length ≤ k
  two : Two W.heap.size d1 L1 d2 L2 (wait Sa ws) (wait Sb ws) w
  bel : Below W.heap.size W w
theorem good_any {S : DSt} {ws : List Wr} (hg : Good 6 S) (hf : Fits 6 ws) (hn : ws.length ≤ 1000) : Good 6 (wait S ws) :=
  ⟨hf, hg.len, hg.hn, by show ws.length ≤ 100000; omega, hg.syncs, hg.cut⟩
theorem wrote_both (Sa Sb : DSt) (ws : List Wr) (n : Nat) (a : Int) (t : ByteArray) (hl : Sa.last.length = 64 * n) (hf : Fits n ws) (ho : Sa.on = Sb.on) (he : Sa.last = Sb.last) :
    ∃ ws', wrote (wait Sa ws) a t = wait Sa ws' ∧ wrote (wait Sb ws) a t = wait Sb ws' ∧ Fits n ws' ∧ ws'.length ≤ ws.length + 1 ∧ (ans (wait Sa ws) a t = 0 → 0 ≤ a ∧ a < n ∧ ws' = ws ++ [(a.toNat, t)]) ∧ (ans (wait Sa ws) a t ≠ 0 → ws' = ws) := by
  have hc := ans_congr (s := wait Sa ws) (s' := wait Sb ws) ho he a t
  by_cases h : ans (wait Sa ws) a t = 0
  · obtain ⟨h1, h2⟩ := ans_zero h
    obtain ⟨_, h3, h4⟩ := chk_zero h1
    have h5 : (wait Sa ws).last.length = 64 * n := hl
    refine ⟨_, wrote_wait _ _ _ _ h, wrote_wait _ _ _ _ (by rw [← hc]; exact h), hf.append (fun x hx => ?_), by simp, fun _ => ⟨h3, by omega, rfl⟩, fun h' => absurd h h'⟩
    simp only [List.mem_singleton] at hx
    subst hx
    exact ⟨by simp only; omega, h2⟩
  · exact ⟨ws, wrote_no _ _ _ h, wrote_no _ _ _ (by rw [← hc]; exact h), hf, by omega, fun h' => absurd h' h, fun _ => rfl⟩
theorem Two.set_other {base d1 L1 d2 L2 : Nat} {s1 s2 : DSt} {w : World} (h : Two base d1 L1 d2 L2 s1 s2 w) {m i : Nat} {cs : Array Value} {t : TypeId} (hm : Has m cs t w) (h1 : t ≠ 112) (h2 : t ≠ 5) (h3 : t ≠ 115) (v : Value) :
    Two base d1 L1 d2 L2 s1 s2 (w.setCell ⟨m, i, none⟩ v) := by
  obtain ⟨v1, v2, k1, k2, hn⟩ := h
  have ht : Turn (fun k => k = m) w (w.setCell ⟨m, i, none⟩ v) := Turn.setCell (F := fun k => k = m) (p := ⟨m, i, none⟩) (Turn.refl _ _) (.inl rfl) v
  exact ⟨v1, v2, k1.turn ht (fun k e => by rw [e]; exact k1.apart hm h1 h2 h3), k2.turn ht (fun k e => by rw [e]; exact k2.apart hm h1 h2 h3), hn⟩
/-- The second loop: besides, what was written since. -/
structure SinceI (W : World) (m d1 L1 d2 L2 : Nat) (Sa Sb : DSt) (k : Nat) (ws : List Wr) (w : World) : Prop where
  k : KeepI W d1 L1 d2 L2 Sa Sb k ws w
  since : Has m (since ws) 47 w
structure LastI (W : World) (m d1 L1 d2 L2 : Nat) (now : List UInt8) (C : Int) (ws : List Wr) (w : World) : Prop where
  two : Two W.heap.size d1 L1 d2 L2 ⟨now, [], false, false, 0, 0⟩ ⟨now, [], false, true, 0, C⟩ w
  since : Has m (since ws) 47 w
  bel : Below W.heap.size W w
theorem below_drewN {B : Nat} {a w : World} (h : Below B a w) (n : Nat) : Below B a (w.drewN n) := ⟨h.os, h.tape, h.output, h.size, h.block⟩
theorem LastI.drewN {W : World} {m d1 L1 d2 L2 : Nat} {now : List UInt8} {C : Int} {ws : List Wr} {w : World} (h : LastI W m d1 L1 d2 L2 now C ws w) (n : Nat) : LastI W m d1 L1 d2 L2 now C ws (w.drewN n) :=
  ⟨h.two.below (below_drewN (Below.refl _ _) n), h.since.below (below_drewN (Below.refl _ _) n), below_drewN h.bel n⟩
theorem extract_mid (S : List UInt8) (a n : Nat) : (Oct.bs S).extract a (a + n) = Oct.bs ((S.drop a).take n) := Oct.ba_ext (by simp [Oct.bs])
set_option maxRecDepth 100000 in
set_option maxHeartbeats 4000000 in
theorem DiskKeeps_walk (A A2 : Option Addr) (c c2 : Nat) (l more : List DAct) (cut : Int) (W : World) (hA : Acts W.heap.size A l W) (hA2 : Acts W.heap.size A2 more W) (hl : l.length ≤ maxLen) (hl2 : more.length ≤ maxLen)
    (hc : -9223372036854775808 ≤ cut ∧ cut ≤ 9223372036854775807) :
    Calls Try.prog 5 #[.slice A l.length c, .slice A2 more.length c2, .int .i64 cut] W fun e w' => e = .returned (.bool true) ∧ Below W.heap.size W w' := by
  have HA := Lib.hid hA
  have HL := Lib.hid hl
  have HA2 := Lib.hid hA2
  have HL2 := Lib.hid hl2
  clear hA hl hA2 hl2
  go_enter Try.func5, Try.ntmps5
  go_wp2_with fail
  refine (awake_calls _).mono ?_
  rintro e w1 ⟨rfl, b1⟩
  have B1 := Lib.hid b1
  have HA1 := Lib.hid ((HA.out.below b1).more b1.size)
  clear b1
  go_wp2_with fail
  refine (Light_calls A c l _ HA1.out HL.out).mono ?_
  rintro e w2 ⟨rfl, b2⟩
  have B2 := Lib.hid (bthen B1.out b2)
  clear b2
  cases hL : lightB l with
  | false =>
    go_wp2_with fail
    go_ret
    exact ⟨rfl, B2.out⟩
  | true =>
    have HT := Lib.hid (light_iff hL)
    clear hL
    have hn := HT.out.1
    go_wp2_with fail
    refine (Light_calls A2 c2 more _ ((HA2.out.below B2.out).more B2.out.size) HL2.out).mono ?_
    rintro e w3 ⟨rfl, b3⟩
    have B3 := Lib.hid (bthen B2.out b3)
    clear b3
    cases hL2 : lightB more with
    | false =>
      go_wp2_with fail
      go_ret
      exact ⟨rfl, B3.out⟩
    | true =>
      have HT2 := Lib.hid (light_iff hL2)
      clear hL2
      have hn2 := HT2.out.1
      go_wp2_with fail
      refine (New_one 6 (by decide) _).mono ?_
      rintro e w4 ⟨rfl, o4, b4⟩
      have O4 := Lib.hid (o4.base B3.out.size)
      have B4 := Lib.hid (bthen B3.out b4)
      clear o4 b4
      go_wp2_with fail
      refine (New_one 6 (by decide) _).mono ?_
      rintro e w5 ⟨rfl, o5, b5⟩
      have B5 := Lib.hid (bthen B4.out b5)
      have T5 := Lib.hid (O4.out.and b5 o5)
      clear o5 b5
      generalize w3.heap.size + 1 = d1 at *
      generalize w4.heap.size + 1 = d2 at *
      generalize w3.heap.size = L1 at *
      generalize w4.heap.size = L2 at *
      go_wp2_with fail
      refine (Calls.mono (T5.out.swap.calls fun v hd => (Arm_calls _ _ _ v _ 1 cut _ hd).mono fun _ _ h => post_of_only h.1 h.2.1 h.2.2) ?_)
      rintro e w6 ⟨rfl, t6, b6, -⟩
      obtain ⟨C, hC⟩ : ∃ C : Int, max 0 cut = C := ⟨_, rfl⟩
      have HC := Lib.hid hC
      have hCr : 0 ≤ C ∧ C ≤ 9223372036854775807 := by omega
      have HI := Lib.hid (show KeepI W d1 L1 d2 L2 (fresh 6) (armedSt (fresh 6).last 1 C) 0 [] w6 from ⟨(fun x hx => by cases hx), Nat.le_refl _, by
        have e : armed (fresh 6) 1 cut = wait (armedSt (fresh 6).last 1 C) [] := by
          simp only [armed, fresh, wait, armedSt, if_pos, hC]
          rfl
        rw [e] at t6; exact t6.swap, B5.out.trans b6⟩)
      have hg1 : Good 6 (armedSt (fresh 6).last 1 C) := ⟨(fun x hx => by cases hx), (Good.fresh 6 (by decide)).len, by decide, Nat.zero_le _, by show 0 ≤ (1 : Int) ∧ (1 : Int) ≤ _; decide, hCr⟩
      have G1 := Lib.hid (And.intro (Good.fresh 6 (by decide)) hg1)
      clear t6 b6 hC hg1
      go_wp2_with fail
      go_loopw [34] (fun i wr => ∃ (k : Nat) (ws : List Wr), k ≤ l.length ∧ i = .int .i64 k ∧ Hid (KeepI W d1 L1 d2 L2 (fresh 6) (armedSt (fresh 6).last 1 C) k ws wr)) (fun i _ => l.length - (intOf i).toNat)
      case atStart => exact ⟨0, [], by omega, rfl, HI⟩
      case round =>
        obtain ⟨k, ws, hk, rfl, hI⟩ := hrel
        by_cases hlt : k < l.length
        · obtain ⟨b, off, rfl, hbl, hi⟩ := (HA.out.below hI.out.bel) (by omega)
          obtain ⟨r0, r1, r2, r3⟩ := hi k hlt
          clear hi
          generalize l.getD k default = x at *
          obtain ⟨kd, at_, ct, t⟩ := x
          simp only at r0 r1 r2 r3
          have hfz := hI.out.many
          obtain ⟨ws', he1, he2, hf', hm', -, -⟩ := wrote_both (fresh 6) (armedSt (fresh 6).last 1 C) ws 6 at_ t G1.out.1.len hI.out.fits rfl rfl
          have HE := Lib.hid (And.intro he1 he2)
          have HF' := Lib.hid hf'
          have HN := Lib.hid (Has.new wr #[.int .u8 (kd.toNat : Int), .int .i64 at_, .int .i64 ct, .string t] 42)
          clear he1 he2 hf'
          go_wp2_with fail
          refine ((hI.out.two.below ((Below.refl _ _).alloc (Nat.le_refl _) _)).calls fun v hd => Write_any _ _ _ 6 v _ at_ t (good_any G1.out.1 hI.out.fits (by omega)) (by show ws.length + 1 ≤ _; omega) _ hd).mono ?_
          rintro e w7 ⟨rfl, t7, b7, k7⟩
          rw [HE.out.1] at t7
          have HN7 := Lib.hid (k7 _ _ _ (by decide) (by decide) (by decide) HN.out)
          have y1 := HN7.out.cell 1
          have y3 := HN7.out.cell 3
          have T7 := Lib.hid t7
          have B7 := Lib.hid ((hI.out.bel.alloc hI.out.bel.size _).trans b7)
          clear t7 b7 k7
          go_wp2_with fail
          refine (T7.out.swap.calls fun v hd => Write_any _ _ _ 6 v _ at_ t (good_any G1.out.2 hI.out.fits (by omega)) (by show ws.length + 1 ≤ _; omega) _ hd).mono ?_
          rintro e w8 ⟨rfl, t8, b8, -⟩
          rw [HE.out.2] at t8
          have HK := Lib.hid (show KeepI W d1 L1 d2 L2 (fresh 6) (armedSt (fresh 6).last 1 C) (k + 1) ws' w8 from ⟨HF'.out, by omega, t8.swap, B7.out.trans b8⟩)
          clear t8 b8 y1 y3
          go_wp2_with fail
          exact ⟨⟨k + 1, ws', by omega, by go_num, HK⟩, by simp [intOf]; omega⟩
        · obtain rfl : k = l.length := by omega
          have hfz := hI.out.many
          have hgA := good_any G1.out.1 hI.out.fits (by omega)
          have hgB := good_any G1.out.2 hI.out.fits (by omega)
          have HG := Lib.hid (And.intro hgA hgB)
          clear hgA hgB
          go_wp2_with fail
          refine (hI.out.two.calls fun v hd => Sync_on _ _ _ 6 v _ HG.out.1 rfl (.inl rfl) _ hd).mono ?_
          rintro e w7 ⟨rfl, t7, b7, -⟩
          have T7 := Lib.hid t7
          have B7 := Lib.hid (hI.out.bel.trans b7)
          clear t7 b7
          go_wp2_with fail
          have HY := Lib.hid (show (wait (armedSt (fresh 6).last 1 C) ws).armed = false ∨ (wait (armedSt (fresh 6).last 1 C) ws).syncs ≠ 0 from .inr (by show (1 : Int) ≠ 0; decide))
          refine (T7.out.swap.calls fun v hd => Sync_on _ _ _ 6 v _ HG.out.2 rfl HY.out _ hd).mono ?_
          rintro e w8 ⟨rfl, t8, b8, -⟩
          have B8 := Lib.hid (B7.out.trans b8)
          have hwl := all_length 6 ws (fresh 6).last (Good.fresh 6 (by decide)).len hI.out.fits
          obtain ⟨was, hwas⟩ : ∃ was, all (fresh 6).last ws = was := ⟨_, rfl⟩
          rw [hwas] at hwl
          have T8 := Lib.hid (show Two W.heap.size d1 L1 d2 L2 (wait ⟨was, [], true, false, 0, 0⟩ []) (wait (armedSt was 0 C) []) w8 from by rw [← hwas]; exact t8.swap)
          clear t8 b8
          go_wp2_with fail
          refine (Calls.mono (T8.out.calls fun v hd => (Lasts_calls _ _ _ v _ _ hd).mono fun _ _ h => post_of_same hd h.1 h.2) ?_)
          rintro e w9 ⟨rfl, t9, b9, -⟩
          have B9 := Lib.hid (B8.out.trans b9)
          have T9 := Lib.hid t9
          clear t9 b9
          rw [show (wait ⟨was, [], true, false, 0, 0⟩ []).last = was from rfl]
          go_wp2_with fail
          generalize hm0 : w9.heap.size = m at *
          have hS0 : SinceI W m d1 L1 d2 L2 ⟨was, [], true, false, 0, 0⟩ (armedSt was 0 C) 0 [] (w9.alloc (.cells #[.bool false, .bool false, .bool false, .bool false, .bool false, .bool false] 47)) :=
            ⟨⟨(fun x hx => by cases hx), Nat.le_refl _, T9.out.below ((Below.refl _ _).alloc (Nat.le_refl _) _), B9.out.alloc B9.out.size _⟩, by rw [← hm0]; exact Has.new _ _ _⟩
          have HS0 := Lib.hid hS0
          have g2a : Good 6 ⟨was, [], true, false, 0, 0⟩ := ⟨(fun x hx => by cases hx), hwl, by decide, Nat.zero_le _, by simp, by simp⟩
          have g2b : Good 6 (armedSt was 0 C) := ⟨(fun x hx => by cases hx), hwl, by decide, Nat.zero_le _, by show 0 ≤ (0 : Int) ∧ (0 : Int) ≤ _; decide, hCr⟩
          have G2 := Lib.hid (And.intro g2a g2b)
          have HWL := Lib.hid hwl
          have hmW : W.heap.size ≤ m := by have := B9.out.size; omega
          clear hS0 g2a g2b hm0 hwas hwl
          generalize w9.alloc (.cells #[.bool false, .bool false, .bool false, .bool false, .bool false, .bool false] 47) = w10 at *
          go_loopw [63] (fun i wr => ∃ (k : Nat) (ws : List Wr), k ≤ more.length ∧ i = .int .i64 k ∧ Hid (SinceI W m d1 L1 d2 L2 ⟨was, [], true, false, 0, 0⟩ (armedSt was 0 C) k ws wr)) (fun i _ => more.length - (intOf i).toNat)
          case atStart => exact ⟨0, [], by omega, rfl, HS0⟩
          case round =>
            obtain ⟨k, ws, hk, rfl, hI⟩ := hrel
            by_cases hlt : k < more.length
            · obtain ⟨b, off, rfl, hbl, hi⟩ := (HA2.out.below hI.out.k.bel) (by omega)
              obtain ⟨r0, r1, r2, r3⟩ := hi k hlt
              clear hi
              generalize more.getD k default = x at *
              obtain ⟨kd, at_, ct, t⟩ := x
              simp only at r0 r1 r2 r3
              have hfz := hI.out.k.many
              obtain ⟨ws', he1, he2, hf', hm', hy', hn'⟩ := wrote_both ⟨was, [], true, false, 0, 0⟩ (armedSt was 0 C) ws 6 at_ t HWL.out hI.out.k.fits rfl rfl
              have HE := Lib.hid (And.intro he1 he2)
              have HF' := Lib.hid hf'
              have HN := Lib.hid (Has.new wr #[.int .u8 (kd.toNat : Int), .int .i64 at_, .int .i64 ct, .string t] 42)
              have HM := Lib.hid (hI.out.since.alloc (.cells #[.int .u8 (kd.toNat : Int), .int .i64 at_, .int .i64 ct, .string t] 42))
              clear he1 he2 hf'
              go_wp2_with fail
              refine ((hI.out.k.two.below ((Below.refl _ _).alloc (Nat.le_refl _) _)).calls fun v hd => Write_any _ _ _ 6 v _ at_ t (good_any G2.out.1 hI.out.k.fits (by omega)) (by show ws.length + 1 ≤ _; omega) _ hd).mono ?_
              rintro e w7 ⟨rfl, t7, b7, k7⟩
              rw [HE.out.1] at t7
              have HN7 := Lib.hid (k7 _ _ _ (by decide) (by decide) (by decide) HN.out)
              have HM7 := Lib.hid (k7 _ _ _ (by decide) (by decide) (by decide) HM.out)
              have y1 := HN7.out.cell 1
              have y3 := HN7.out.cell 3
              have T7 := Lib.hid t7
              have B7 := Lib.hid ((hI.out.k.bel.alloc hI.out.k.bel.size _).trans b7)
              clear t7 b7 k7
              by_cases hz : ans (wait ⟨was, [], true, false, 0, 0⟩ ws) at_ t = 0
              · rw [hz]
                obtain ⟨hq0, hq1, rfl⟩ := hy' hz
                obtain ⟨q, rfl⟩ := Int.eq_ofNat_of_zero_le hq0
                have fq := HM7.out.frozen q
                have cq : w7.cell? ⟨m, q, none⟩ = some (.bool (hasW ws q)) := by rw [HM7.out.cell, since_at _ _ (by omega)]
                have hmx : m ≠ wr.heap.size := fun e => by
                  have h1 := HM7.out
                  rw [e] at h1
                  exact absurd (has_type h1 HN7.out) (by decide)
                have HM8 := Lib.hid (show Has m (since (ws ++ [(q, t)])) 47 (w7.setCell ⟨m, q, none⟩ (.bool true)) by
                  rw [← since_set ws q t (by omega)]
                  exact HM7.out.set _)
                have HN8 := Lib.hid (HN7.out.set_other (p := ⟨m, q, none⟩) hmx (.bool true))
                have T8 := Lib.hid (T7.out.set_other (i := q) HM7.out (by decide) (by decide) (by decide) (.bool true))
                have B8 := Lib.hid (B7.out.setCell (p := ⟨m, q, none⟩) hmW (.bool true))
                clear hz hy' hn'
                rw [Int.toNat_natCast] at HF' HE T8
                go_wp2_with fail
                have y1 := HN8.out.cell 1
                have y3 := HN8.out.cell 3
                refine (T8.out.swap.calls fun v hd => Write_any _ _ _ 6 v _ (q : Int) t (good_any G2.out.2 hI.out.k.fits (by omega)) (by show ws.length + 1 ≤ _; omega) _ hd).mono ?_
                rintro e w9 ⟨rfl, t9, b9, k9⟩
                rw [HE.out.2] at t9
                have HK := Lib.hid (show SinceI W m d1 L1 d2 L2 ⟨was, [], true, false, 0, 0⟩ (armedSt was 0 C) (k + 1) (ws ++ [(q, t)]) w9 from ⟨⟨HF'.out, by first | omega | (simp; omega), t9.swap, B8.out.trans b9⟩, k9 _ _ _ (by decide) (by decide) (by decide) HM8.out⟩)
                clear t9 b9 k9 y1 y3
                go_wp2_with fail
                exact ⟨⟨k + 1, _, by omega, by go_num, HK⟩, by simp [intOf]; omega⟩
              · have HW := Lib.hid (hn' hz)
                have hz' : (ans (wait ⟨was, [], true, false, 0, 0⟩ ws) at_ t == 0) = false := by simpa using hz
                generalize ans (wait ⟨was, [], true, false, 0, 0⟩ ws) at_ t = z at *
                clear hy' hn' hz
                rw [HW.out] at HF' HE T7
                go_wp2_with fail
                refine (T7.out.swap.calls fun v hd => Write_any _ _ _ 6 v _ at_ t (good_any G2.out.2 hI.out.k.fits (by omega)) (by show ws.length + 1 ≤ _; omega) _ hd).mono ?_
                rintro e w9 ⟨rfl, t9, b9, k9⟩
                rw [HE.out.2] at t9
                have HK := Lib.hid (show SinceI W m d1 L1 d2 L2 ⟨was, [], true, false, 0, 0⟩ (armedSt was 0 C) (k + 1) ws w9 from ⟨⟨HF'.out, by first | omega | (simp; omega), t9.swap, B7.out.trans b9⟩, k9 _ _ _ (by decide) (by decide) (by decide) HM7.out⟩)
                clear t9 b9 k9 y1 y3
                go_wp2_with fail
                exact ⟨⟨k + 1, _, by omega, by go_num, HK⟩, by simp [intOf]; omega⟩
            · obtain rfl : k = more.length := by omega
              have hfz := hI.out.k.many
              have HG := Lib.hid (And.intro (good_any G2.out.1 hI.out.k.fits (by omega)) (good_any G2.out.2 hI.out.k.fits (by omega)))
              go_wp2_with fail
              refine (hI.out.k.two.calls fun v hd => Down_calls _ _ _ 6 v _ cut hc HG.out.1 _ hd).mono ?_
              rintro e w11 ⟨rfl, t11, b11, k11⟩
              have HM11 := Lib.hid (k11 _ _ _ (by decide) (by decide) (by decide) hI.out.since)
              have T11 := Lib.hid t11.swap
              have B11 := Lib.hid (hI.out.k.bel.trans b11)
              clear t11 b11 k11
              go_wp2_with fail
              refine (T11.out.calls fun v hd => Sync_any _ _ _ 6 v _ HG.out.2 _ hd).mono ?_
              rintro e w12 ⟨rfl, t12, b12, k12⟩
              rw [synced_gone _ rfl rfl rfl] at t12
              rw [synced_gone _ rfl rfl rfl]
              have hnw : done was ws C = done was ws cut := by rw [← HC.out, done_max]
              have hnl : (done was ws cut).length = 64 * 6 := done_length 6 ws was cut HWL.out hI.out.k.fits
              have hot := fun i hi => done_other 6 i ws was cut HWL.out hI.out.k.fits (hasW_no (ws := ws) (i := i) hi)
              have HOT := Lib.hid hot
              have HNL := Lib.hid hnl
              have HM12 := Lib.hid (k12 _ _ _ (by decide) (by decide) (by decide) HM11.out)
              have T12 := Lib.hid (show Two W.heap.size d1 L1 d2 L2 ⟨done was ws cut, [], false, false, 0, 0⟩ ⟨done was ws cut, [], false, true, 0, C⟩ w12 from by
                have h := t12.swap
                rw [show down (wait (armedSt was 0 C) ws) (wait (armedSt was 0 C) ws).cut = (⟨done was ws C, [], false, true, 0, C⟩ : DSt) from rfl, hnw] at h
                exact h)
              have B12 := Lib.hid (B11.out.trans b12)
              clear t12 b12 k12 hnl hot hnw
              generalize done was ws cut = now at *
              go_wp2_with fail
              refine (Calls.mono (T12.out.calls fun v hd => (Lasts_calls _ _ _ v _ _ hd).mono fun _ _ h => post_of_same hd h.1 h.2) ?_)
              rintro e w13 ⟨rfl, t13, b13, k13⟩
              have HM13 := Lib.hid (k13 _ _ _ (by decide) (by decide) (by decide) HM12.out)
              have T13 := Lib.hid t13.swap
              have B13 := Lib.hid (B12.out.trans b13)
              clear t13 b13 k13
              go_wp2_with fail
              refine (Calls.mono (T13.out.calls fun v hd => (Lasts_calls _ _ _ v _ _ hd).mono fun _ _ h => post_of_same hd h.1 h.2) ?_)
              rintro e w14 ⟨rfl, t14, b14, k14⟩
              have HM14 := Lib.hid (k14 _ _ _ (by decide) (by decide) (by decide) HM13.out)
              have T14 := Lib.hid t14.swap
              have B14 := Lib.hid (B13.out.trans b14)
              clear t14 b14 k14
              have hws : (Oct.bs was).size = 384 := by rw [Oct.bs_size, HWL.out]
              go_wp2_with fail
              refine (Calls.mono (T14.out.calls fun v hd => (Lasts_calls _ _ _ v _ _ hd).mono fun _ _ h => post_of_same hd h.1 h.2) ?_)
              rintro e w15 ⟨rfl, t15, b15, k15⟩
              have HM15 := Lib.hid (k15 _ _ _ (by decide) (by decide) (by decide) HM14.out)
              have T15 := Lib.hid t15
              have B15 := Lib.hid (B14.out.trans b15)
              clear t15 b15 k15
              go_wp2_with fail
              have hns : (Oct.bs now).size = 384 := by rw [Oct.bs_size, HNL.out]
              go_loopw [104] (fun i wr => ∃ (k : Nat), k ≤ 6 ∧ i = .int .i64 k ∧ Hid (LastI W m d1 L1 d2 L2 now C ws wr)) (fun i _ => 6 - (intOf i).toNat)
              case atStart => exact ⟨0, by omega, rfl, Lib.hid ⟨T15.out, HM15.out, B15.out⟩⟩
              case round =>
                obtain ⟨k, hk, rfl, hI⟩ := hrel
                by_cases hlt : k < 6
                · have cm : wr.cell? ⟨m, k, none⟩ = some (.bool (hasW ws k)) := by rw [hI.out.since.cell, since_at _ _ hlt]
                  have e1 : IntKind.i64.wrap ((k : Int) * 64) = (k : Int) * 64 := IntWalk.i64_in _ (by omega)
                  have e2 : IntKind.i64.wrap ((k : Int) + 1) = (k : Int) + 1 := IntWalk.i64_in _ (by omega)
                  have e3 : IntKind.i64.wrap (((k : Int) + 1) * 64) = ((k : Int) + 1) * 64 := IntWalk.i64_in _ (by omega)
                  have g1 : (0 : Int) ≤ (k : Int) * 64 := by omega
                  have g2 : (k : Int) * 64 ≤ ((k : Int) + 1) * 64 := by omega
                  have g3 : ((k : Int) + 1) * 64 ≤ 384 := by omega
                  have g4 : ((k : Int) * 64).toNat = k * 64 := by omega
                  have g5 : (((k : Int) + 1) * 64).toNat = (k + 1) * 64 := by omega
                  have g6 : (0 : Int) ≤ (k : Int) := by omega
                  have g7 : (k : Int) < 6 := by omega
                  have g8 : (0 : Int) ≤ ((k : Int) + 1) * 64 := by omega
                  cases hh : hasW ws k with
                  | true =>
                    rw [hh] at cm
                    clear hh
                    go_wp2_with fail
                    go_quiet (fail)
                    go_wp2_with fail
                    exact ⟨⟨k + 1, by omega, by go_num, Lib.hid (hI.out.drewN _)⟩, by simp [intOf]; omega⟩
                  | false =>
                    rw [hh] at cm
                    have hx : (Oct.bs was).extract (k * 64) ((k + 1) * 64) = (Oct.bs now).extract (k * 64) ((k + 1) * 64) := by
                      rw [show (k + 1) * 64 = k * 64 + 64 by omega, extract_mid, extract_mid, Nat.mul_comm k 64, ← HOT.out k hh]
                    clear hh
                    go_wp2_with fail
                    go_quiet (fail)
                    go_wp2_with fail
                    exact ⟨⟨k + 1, by omega, by go_num, Lib.hid (hI.out.drewN _)⟩, by simp [intOf]; omega⟩
                · obtain rfl : k = 6 := by omega
                  have HT16 := Lib.hid hI.out.two
                  have HB16 := Lib.hid hI.out.bel
                  go_wp2_with fail
                  refine (Calls.mono (HT16.out.calls fun v hd => (Up_calls _ _ _ v _ _ hd).mono fun _ _ h => post_of_only h.1 h.2.1 h.2.2) ?_)
                  rintro e w17 ⟨rfl, t17, b17, -⟩
                  have T17 := Lib.hid t17
                  have B17 := Lib.hid (HB16.out.trans b17)
                  clear t17 b17
                  rw [show upped ⟨now, [], false, false, 0, 0⟩ = ⟨now, [], true, false, 0, 0⟩ from rfl] at T17
                  go_wp2_with fail
                  refine (Calls.mono (T17.out.calls fun v hd => (On_calls _ _ _ v _ _ hd).mono fun _ _ h => post_of_same hd h.1 h.2) ?_)
                  rintro e w18 ⟨rfl, t18, b18, -⟩
                  have T18 := Lib.hid t18
                  have B18 := Lib.hid (B17.out.trans b18)
                  clear t18 b18
                  go_wp2_with fail
                  refine (T18.out.calls fun v hd => Sync_on _ _ _ 6 v _ ⟨(fun x hx => by cases hx), HNL.out, by decide, Nat.zero_le _, by simp, by simp⟩ rfl (.inl rfl) _ hd).mono ?_
                  rintro e w19 ⟨rfl, t19, b19, -⟩
                  have T19 := Lib.hid t19
                  have B19 := Lib.hid (B18.out.trans b19)
                  clear t19 b19
                  go_wp2_with fail
                  refine (Calls.mono (T19.out.calls fun v hd => (Lasts_calls _ _ _ v _ _ hd).mono fun _ _ h => post_of_same hd h.1 h.2) ?_)
                  rintro e w20 ⟨rfl, t20, b20, -⟩
                  have B20 := Lib.hid (B19.out.trans b20)
                  clear t20 b20
                  rw [show all now [] = now from rfl]
                  go_wp2_with fail
                  go_ret
                  exact ⟨by simp, B20.out⟩
end Go.Proofs.Ytopacbmdoognjaa.Disk
/- The walks of the document's disk (stairwellref15): Held, New, put, Check, Done, Waits. -/
namespace Go.Proofs.Ytopacbmdoognjaa.Disk
open Go Go.RowKit Frame
/-- The document's disk as a value; what waits lies in a row. -/
def RD (s : DSt) (v : Value) : Value := .agg #[.string (Oct.bs s.last), v, .bool s.on, .bool s.armed, .int .i64 s.syncs, .int .i64 s.cut]
def RW (v : Value) (ws : List Wr) (w : World) : Prop := w.ownsRow 0 127 2 v ws.length (rows ws) ∧ (ws.length = 0 → v = .slice none 0 0)
theorem RW.below {v : Value} {ws : List Wr} {w w' : World} (h : RW v ws w) (hb : Below w.heap.size w w') : RW v ws w' := by
  obtain ⟨⟨hlen, hv⟩, hnil⟩ := h
  refine ⟨⟨hlen, ?_⟩, hnil⟩
  rcases hv with hv | ⟨g, cap, cur, rfl, hb', hg, hr⟩
  · exact .inl hv
  · exact .inr ⟨g, cap, cur, rfl, hb', (hb.block g (Has.lt (cs := cur) hg)).trans hg, hr⟩
theorem RW.kept {v : Value} {ws : List Wr} {w w' : World} (h : RW v ws w) (hk : Kept w w') : RW v ws w' := by
  obtain ⟨⟨hlen, hv⟩, hnil⟩ := h
  refine ⟨⟨hlen, ?_⟩, hnil⟩
  rcases hv with hv | ⟨g, cap, cur, rfl, hb', hg, hr⟩
  · exact .inl hv
  · exact .inr ⟨g, cap, cur, rfl, hb', hk g cur _ (by decide) (by decide) (by decide) hg, hr⟩
theorem RW.nil (w : World) : RW (.slice none 0 0) [] w := ⟨⟨rfl, .inl ⟨rfl, rfl⟩⟩, fun _ => rfl⟩
theorem RW.row {v : Value} {ws : List Wr} {w : World} (h : RW v ws w) :
    ∃ A cap, v = .slice A ws.length cap ∧ (0 < ws.length → ∃ g, A = some ⟨g, 0, none⟩ ∧ g < w.heap.size ∧ ∀ i, i < ws.length → w.cell? ⟨g, i * 2, none⟩ = some (.int .i64 ((ws.getD i (0, ByteArray.empty)).1 : Int)) ∧ w.cell? ⟨g, i * 2 + 1, none⟩ = some (.string (ws.getD i (0, ByteArray.empty)).2)) := by
  obtain ⟨⟨hlen, hv⟩, -⟩ := h
  rcases hv with ⟨rfl, hz⟩ | ⟨g, cap, cur, rfl, hb, hg, hc, hm, hs, ht⟩
  · exact ⟨none, 0, by rw [hz], fun h => by omega⟩
  · refine ⟨some ⟨g, 0, none⟩, cap, rfl, fun _ => ⟨g, rfl, Has.lt (cs := cur) hg, fun i hi => ?_⟩⟩
    have hr := rows_at ws i hi
    rw [← ht] at hr
    have hc := fun j => (show w.cell? ⟨g, j, none⟩ = cur[j]? from Has.cell (cs := cur) hg j)
    rw [hc, hc]
    rw [List.getElem?_take_of_lt (by omega), List.getElem?_take_of_lt (by omega)] at hr
    simpa using hr
def heldN (n most : Int) : Int := max 0 (min n most)
theorem Held_calls (n m : Int) (w : World) :
    Calls Try.prog 50 #[.int .i64 n, .int .i64 m] w fun e w' => e = .returned (.int .i64 (heldN n m)) ∧ w = w' := by
  by_cases h1 : m < n
  · by_cases h2 : m < 0
    · have HE := Lib.hid (show heldN n m = 0 by unfold heldN; omega)
      go_enter Try.func50, Try.ntmps50
      go_wp2
      go_ret
      rw [HE.out]
      exact ⟨rfl, rfl⟩
    · have HE := Lib.hid (show heldN n m = m by unfold heldN; omega)
      go_enter Try.func50, Try.ntmps50
      go_wp2
      go_ret
      rw [HE.out]
      exact ⟨rfl, rfl⟩
  · by_cases h2 : n < 0
    · have HE := Lib.hid (show heldN n m = 0 by unfold heldN; omega)
      go_enter Try.func50, Try.ntmps50
      go_wp2
      go_ret
      rw [HE.out]
      exact ⟨rfl, rfl⟩
    · have HE := Lib.hid (show heldN n m = n by unfold heldN; omega)
      go_enter Try.func50, Try.ntmps50
      go_wp2
      go_ret
      rw [HE.out]
      exact ⟨rfl, rfl⟩
theorem below6 {B b : Nat} {a w : World} (h : Below B a w) (hb : B ≤ b) (v0 v1 v2 v3 v4 v5 : Value) :
    Below B a ((((((w.setCell ⟨b, 0, none⟩ v0).setCell ⟨b, 1, none⟩ v1).setCell ⟨b, 2, none⟩ v2).setCell ⟨b, 3, none⟩ v3).setCell ⟨b, 4, none⟩ v4).setCell ⟨b, 5, none⟩ v5) :=
  (((((h.setCell (p := ⟨b, 0, none⟩) hb v0).setCell (p := ⟨b, 1, none⟩) hb v1).setCell (p := ⟨b, 2, none⟩) hb v2).setCell (p := ⟨b, 3, none⟩) hb v3).setCell (p := ⟨b, 4, none⟩) hb v4).setCell (p := ⟨b, 5, none⟩) hb v5
set_option maxHeartbeats 1000000 in
theorem rNew_calls (n : Nat) (hn : n ≤ 4096) (w : World) :
    Calls Try.prog 51 #[.int .i64 n] w fun e w' => e = .returned (RD (fresh n) (.slice none 0 0)) ∧ Below w.heap.size w w' := by
  have HE := Lib.hid (show heldN n 4096 = n by unfold heldN; omega)
  go_enter Try.func51, Try.ntmps51
  go_wp2_with fail
  refine (Held_calls _ _ _).mono ?_
  rintro e w1 ⟨rfl, rfl⟩
  rw [HE.out]
  have ec : ((64 * n : Nat) : Int) = 64 * (n : Int) := by omega
  have HC := Lib.hid (Noughts_calls (64 * n) (by omega) (w.alloc (.cells #[.string { data := #[] }, .slice none 0 0, .bool false, .bool false, .int .i64 0, .int .i64 0] 63)))
  rw [ec] at HC
  clear ec
  go_wp2_with fail
  refine HC.out.mono ?_
  rintro e w2 ⟨rfl, b2⟩
  have hz : w.heap.size < w2.heap.size := by have := b2.size; simp at this; omega
  have hn := (Has.new w #[.string { data := #[] }, .slice none 0 0, .bool false, .bool false, .int .i64 0, .int .i64 0] 63).below b2
  have HN := Lib.hid hn
  have c0 := hn.cell 0
  have c1 := hn.cell 1
  have c2 := hn.cell 2
  have c3 := hn.cell 3
  have c4 := hn.cell 4
  have c5 := hn.cell 5
  have f := hn.frozen
  have B := Lib.hid (after_alloc b2)
  clear b2 hn
  go_wp2_with fail
  refine bodyPost_ret (v := RD (fresh n) (.slice none 0 0)) (by simp [results, Try.results51, go_sem, c0, c1, c2, c3, c4, c5, RD, fresh]) rfl ⟨rfl, ?_⟩
  exact below6 B.out (Nat.le_refl _) _ _ _ _ _ _
theorem put_bytes (s : List UInt8) (k : Nat) (t : ByteArray) : ((Oct.bs s).extract 0 (64 * k) ++ t) ++ (Oct.bs s).extract (64 * k + t.size) (Oct.bs s).size = Oct.bs (put s k t.data.toList) := by
  apply Oct.ba_ext
  simp only [ByteArray.data_append, Array.toList_append, put, Oct.bs_toList]
  have e1 : ((Oct.bs s).extract 0 (64 * k)).data.toList = s.take (64 * k) := by simp [Oct.bs]
  have e2 : ((Oct.bs s).extract (64 * k + t.size) (Oct.bs s).size).data.toList = s.drop (64 * k + t.data.toList.length) := by
    rw [Oct.bs_size]
    simp [Oct.bs]
    exact List.take_of_length_le (by simp)
  rw [e1, e2, List.append_assoc]
set_option maxHeartbeats 1000000 in
theorem put_calls (s : List UInt8) (k : Nat) (t : ByteArray) (h : 64 * k + t.size ≤ s.length) (hl : s.length ≤ 262144) (w : World) :
    Calls Try.prog 102 #[.string (Oct.bs s), .int .i64 (k : Int), .string t] w fun e w' => e = .returned (.string (Oct.bs (put s k t.data.toList))) ∧ ∃ m, w' = w.drewN m := by
  have HE := Lib.hid (put_bytes s k t)
  have hz : (Oct.bs s).size = s.length := Oct.bs_size s
  have HZ := Lib.hid hz
  have hz1 : (Oct.bs s).size ≤ 262144 := by omega
  have hz2 : 64 * k + t.size ≤ (Oct.bs s).size := by omega
  clear hz
  generalize Oct.bs s = S at *
  have e1 : IntKind.i64.wrap (64 * (k : Int)) = 64 * (k : Int) := IntWalk.i64_in _ (by omega)
  have e2 : IntKind.i64.wrap (64 * (k : Int) + (t.size : Int)) = 64 * (k : Int) + (t.size : Int) := IntWalk.i64_in _ (by omega)
  have g1 : (0 : Int) ≤ 64 * (k : Int) := by omega
  have g2 : 64 * (k : Int) ≤ (S.size : Int) := by omega
  have g3 : (0 : Int) ≤ 64 * (k : Int) + (t.size : Int) := by omega
  have g4 : 64 * (k : Int) + (t.size : Int) ≤ (S.size : Int) := by omega
  have g5 : (64 * (k : Int)).toNat = 64 * k := by omega
  have g6 : (64 * (k : Int) + (t.size : Int)).toNat = 64 * k + t.size := by omega
  have hx1 : (S.extract 0 (64 * k)).size + t.size ≤ 9223372036854775807 := by simp; omega
  have hx2 : (S.extract 0 (64 * k) ++ t).size + (S.extract (64 * k + t.size) S.size).size ≤ 9223372036854775807 := by simp; omega
  go_enter Try.func102, Try.ntmps102
  go_wp2_with fail
  go_quiet (fail)
  go_wp2_with fail
  go_ret
  exact ⟨congrArg (fun x => Ending.returned (.string x)) HE.out, _, rfl⟩
end Go.Proofs.Ytopacbmdoognjaa.Disk
/- The walks of the document's disk: Check, Waits, Done, Read. -/
namespace Go.Proofs.Ytopacbmdoognjaa.Disk
open Go Go.RowKit Frame
/-- The six cells of a disk of the document's in a block. -/
def RCells (s : DSt) (v : Value) : Array Value := #[.string (Oct.bs s.last), v, .bool s.on, .bool s.armed, .int .i64 s.syncs, .int .i64 s.cut]
def RHas (b : Nat) (s : DSt) (v : Value) (w : World) : Prop := Has b (RCells s v) 63 w
section
variable {b : Nat} {s : DSt} {v : Value} {w : World}
theorem RHas.c0 (h : RHas b s v w) : w.cell? ⟨b, 0, none⟩ = some (.string (Oct.bs s.last)) := Has.cell h 0
theorem RHas.c1 (h : RHas b s v w) : w.cell? ⟨b, 1, none⟩ = some v := Has.cell h 1
theorem RHas.c2 (h : RHas b s v w) : w.cell? ⟨b, 2, none⟩ = some (.bool s.on) := Has.cell h 2
theorem RHas.c3 (h : RHas b s v w) : w.cell? ⟨b, 3, none⟩ = some (.bool s.armed) := Has.cell h 3
theorem RHas.c4 (h : RHas b s v w) : w.cell? ⟨b, 4, none⟩ = some (.int .i64 s.syncs) := Has.cell h 4
theorem RHas.c5 (h : RHas b s v w) : w.cell? ⟨b, 5, none⟩ = some (.int .i64 s.cut) := Has.cell h 5
end
theorem RHas.new (w : World) (s : DSt) (v : Value) : RHas w.heap.size s v (w.alloc (.cells (RCells s v) 63)) := Has.new _ _ _
set_option maxHeartbeats 1000000 in
theorem Check_calls (s : DSt) (v : Value) (k : Int) (hl : s.last.length ≤ 262144) (w : World) :
    Calls Try.prog 95 #[RD s v, .int .i64 k] w fun e w' => e = .returned (.int .i64 (chk s k)) ∧ Below w.heap.size w w' := by
  have hz : (Oct.bs s.last).size = s.last.length := Oct.bs_size _
  have HB := Lib.hid ((Below.refl w.heap.size w).alloc (Nat.le_refl _) (.cells #[.string (Oct.bs s.last), v, .bool s.on, .bool s.armed, .int .i64 s.syncs, .int .i64 s.cut] 63))
  unfold RD
  rcases (Bool.eq_false_or_eq_true s.on).symm with ho | ho
  · have HE := Lib.hid (show chk s k = 16 by unfold chk; rw [if_pos ho])
    rw [ho] at HB ⊢
    clear ho
    go_enter Try.func95, Try.ntmps95
    go_wp2_with fail
    go_ret
    rw [HE.out]
    exact ⟨rfl, HB.out⟩
  · by_cases h1 : k < 0
    · have HE := Lib.hid (show chk s k = 7 by unfold chk; rw [if_neg (by simp [ho]), if_pos (Or.inl h1)])
      rw [ho] at HB ⊢
      clear ho
      go_enter Try.func95, Try.ntmps95
      go_wp2_with fail
      go_ret
      rw [HE.out]
      exact ⟨rfl, HB.out⟩
    · by_cases h2 : (s.last.length : Int) / 64 ≤ k
      · have HE := Lib.hid (show chk s k = 7 by unfold chk; rw [if_neg (by simp [ho]), if_pos (Or.inr h2)])
        rw [ho] at HB ⊢
        clear ho
        go_enter Try.func95, Try.ntmps95
        go_wp2_with fail
        go_ret
        rw [HE.out]
        exact ⟨rfl, HB.out⟩
      · have HE := Lib.hid (show chk s k = 0 by unfold chk; rw [if_neg (by simp [ho]), if_neg (by omega)])
        rw [ho] at HB ⊢
        clear ho
        go_enter Try.func95, Try.ntmps95
        go_wp2_with fail
        go_ret
        rw [HE.out]
        exact ⟨rfl, HB.out⟩
set_option maxRecDepth 100000 in
set_option maxHeartbeats 1000000 in
theorem rWaits_calls (n : Nat) (s : DSt) (v : Value) (hf : Fits n s.wait) (hn : s.wait.length ≤ 100000) (w : World) (hr : RW v s.wait w) :
    Calls Try.prog 53 #[RD s v] w fun e w' => e = .returned (.int .i64 (total s.wait)) ∧ Below w.heap.size w w' := by
  have HF := Lib.hid hf
  obtain ⟨A, cap, rfl, hrow⟩ := hr.row
  have HR := Lib.hid hrow
  clear hrow hf hr
  have hT : total s.wait ≤ 6400000 := by have := total_le n s.wait HF.out; omega
  have HB := Lib.hid ((Below.refl w.heap.size w).alloc (Nat.le_refl _) (.cells #[.string (Oct.bs s.last), .slice A s.wait.length cap, .bool s.on, .bool s.armed, .int .i64 s.syncs, .int .i64 s.cut] 63))
  unfold RD
  generalize s.wait = ws at *
  go_enter Try.func53, Try.ntmps53
  go_wp2_with fail
  go_loopw [3, 9] (fun t i wr => ∃ k : Nat, k ≤ ws.length ∧ i = .int .i64 k ∧ t = .int .i64 ((total (ws.take k) : Nat) : Int) ∧ Hid (Below w.heap.size w wr)) (fun _ i _ => ws.length - (intOf i).toNat)
  case atStart => exact ⟨0, by omega, rfl, rfl, HB⟩
  case round =>
    obtain ⟨k, hk, rfl, rfl, hB⟩ := hrel
    by_cases hlt : k < ws.length
    · obtain ⟨g, rfl, hg, hi⟩ := HR.out (by omega)
      obtain ⟨c0, c1'⟩ := hi k hlt
      have hc := fun o => hB.out.cell (p := ⟨g, o, none⟩) hg
      rw [← hc] at c0 c1'
      clear hi hc
      have hkT : total (ws.take (k + 1)) ≤ 6400000 := by
        have h1 := total_append (ws.take (k + 1)) (ws.drop (k + 1))
        rw [List.take_append_drop] at h1
        omega
      have hT2 := total_take ws k hlt
      rw [hT2] at hkT
      have HT := Lib.hid hT2
      clear hT2
      generalize ws.getD k (0, ByteArray.empty) = x at *
      generalize total (ws.take k) = T at *
      go_wp2_with fail
      exact ⟨⟨k + 1, by omega, by go_num, by rw [HT.out]; go_num, Lib.hid (hB.out.alloc hB.out.size _)⟩, by simp [intOf]; omega⟩
    · obtain rfl : k = ws.length := by omega
      rw [List.take_length]
      go_wp2_with fail
      go_ret
      exact ⟨rfl, hB.out⟩
theorem heldN_upto (c : Int) (n : Nat) : heldN c (n : Int) = ((upto c n : Nat) : Int) := by unfold heldN upto; omega
set_option maxRecDepth 100000 in
set_option maxHeartbeats 1000000 in
theorem Done_calls (n : Nat) (s : DSt) (v : Value) (cut : Int) (hc : -9223372036854775808 ≤ cut ∧ cut ≤ 9223372036854775807) (hf : Fits n s.wait) (hn : s.wait.length ≤ 100000) (hl : s.last.length = 64 * n) (hn' : n ≤ 4096) (w : World) (hr : RW v s.wait w) :
    Calls Try.prog 94 #[RD s v, .int .i64 cut] w fun e w' => e = .returned (.string (Oct.bs (done s.last s.wait cut))) ∧ Below w.heap.size w w' := by
  have HF := Lib.hid hf
  obtain ⟨A, cap, rfl, hrow⟩ := hr.row
  have HR := Lib.hid hrow
  have HL := Lib.hid hl
  clear hrow hf hr
  have HB := Lib.hid ((Below.refl w.heap.size w).alloc (Nat.le_refl _) (.cells #[.string (Oct.bs s.last), .slice A s.wait.length cap, .bool s.on, .bool s.armed, .int .i64 s.syncs, .int .i64 s.cut] 63))
  unfold RD
  generalize s.wait = ws at *
  generalize s.last = l0 at *
  clear hl
  go_enter Try.func94, Try.ntmps94
  go_wp2_with fail
  go_loopw [1, 5, 14] (fun c t i wr => ∃ k : Nat, k ≤ ws.length ∧ i = .int .i64 k ∧ c = .int .i64 (left (ws.take k) cut) ∧ t = .string (Oct.bs (done l0 (ws.take k) cut)) ∧ Hid (Below w.heap.size w wr)) (fun _ _ i _ => ws.length - (intOf i).toNat)
  case atStart => exact ⟨0, by omega, rfl, rfl, rfl, HB⟩
  case round =>
    obtain ⟨k, hk, rfl, rfl, rfl, hB⟩ := hrel
    by_cases hlt : k < ws.length
    · obtain ⟨g, rfl, hg, hi⟩ := HR.out (by omega)
      obtain ⟨c0, c1'⟩ := hi k hlt
      have hcc := fun o => hB.out.cell (p := ⟨g, o, none⟩) hg
      rw [← hcc] at c0 c1'
      clear hi hcc
      have HS := Lib.hid (done_step l0 ws k hlt cut)
      have hfx := HF.out _ (show ws.getD k (0, ByteArray.empty) ∈ ws by simp [List.getD_eq_getElem?_getD, hlt])
      have hll := left_le (ws.take k) cut
      have hdl := done_length n (ws.take k) l0 cut HL.out (fun x hx => HF.out x (List.mem_of_mem_take hx))
      have HDL := Lib.hid hdl
      clear hdl
      generalize ws.getD k (0, ByteArray.empty) = x at *
      obtain ⟨b, t⟩ := x
      simp only at hfx c0 c1'
      generalize left (ws.take k) cut = c at *
      generalize done l0 (ws.take k) cut = l at *
      have hu := upto_le c t.size
      go_wp2_with fail
      refine (Held_calls _ _ _).mono ?_
      rintro e w1 ⟨rfl, rfl⟩
      rw [heldN_upto]
      have hcu : ((upto c t.size : Nat) : Int) = max 0 (min c t.size) := by unfold upto; omega
      have hcr : -9223372036854775808 ≤ c - ((upto c t.size : Nat) : Int) ∧ c - ((upto c t.size : Nat) : Int) ≤ 9223372036854775807 := by omega
      clear hcu
      generalize upto c t.size = m at *
      have hn0 : (0 : Int) ≤ (m : Int) := by omega
      have hn1 : (m : Int) ≤ (t.size : Int) := by omega
      have HM := Lib.hid (show 64 * b + (t.extract 0 m).size ≤ l.length by have := HDL.out; simp; omega)
      have HL2 := Lib.hid (show l.length ≤ 262144 by have := HDL.out; omega)
      have HX := Lib.hid (extract_list t m)
      go_wp2_with fail
      go_quiet ((go_at_call 102; exact Calls.quiet_of (put_calls l b (t.extract 0 m) HM.out HL2.out _)))
      go_wp2_with fail
      rw [HX.out]
      exact ⟨⟨k + 1, by omega, by go_num, by rw [HS.out.2], by rw [HS.out.1], Lib.hid (below_drewN (hB.out.alloc hB.out.size _) _)⟩, by simp [intOf]; omega⟩
    · obtain rfl : k = ws.length := by omega
      rw [List.take_length]
      go_wp2_with fail
      go_ret
      exact ⟨rfl, hB.out⟩
set_option maxRecDepth 100000 in
set_option maxHeartbeats 2000000 in
theorem rRead_calls (n : Nat) (s : DSt) (v : Value) (k : Int) (hs : Good n s) (w : World) (hr : RW v s.wait w) :
    Calls Try.prog 79 #[RD s v, .int .i64 k] w fun e w' => e = .returned (.tuple #[.string (if chk s k = 0 then Oct.bs (((all s.last s.wait).drop (64 * k.toNat)).take 64) else ⟨#[]⟩), .int .i64 (chk s k)]) ∧ Below w.heap.size w w' := by
  have hl : s.last.length ≤ 262144 := by have := hs.len; have := hs.hn; omega
  have HC := Lib.hid (fun W => Check_calls s v k hl W)
  have HB := Lib.hid ((Below.refl w.heap.size w).alloc (Nat.le_refl _) (.cells (RCells s v) 63))
  have HH := Lib.hid (RHas.new w s v)
  have HR := Lib.hid (hr.below HB.out)
  have HG := Lib.hid hs
  clear hr
  have hcb := chk_zero (s := s) (k := k)
  unfold RD at HC ⊢
  unfold RCells at HB HH HR
  generalize hc : chk s k = c at *
  by_cases h0 : c = 0
  · subst h0
    obtain ⟨-, h3, h4⟩ := hcb rfl
    have hlen := hs.len
    obtain ⟨q, rfl⟩ := Int.eq_ofNat_of_zero_le h3
    clear hcb
    have HX := Lib.hid hc
    clear hc
    have HE := Lib.hid (show (Oct.bs (done s.last s.wait (total s.wait))).extract (64 * q) (64 * q + 64) = Oct.bs (((all s.last s.wait).drop (64 * q)).take 64) by rw [done_all _ _ _ (Int.le_refl _), extract_mid])
    have hsz : (Oct.bs (done s.last s.wait (total s.wait))).size = 64 * n := by rw [Oct.bs_size, done_length n _ _ _ hs.len hs.fits]
    have hqn : q < n := by omega
    have hn' := hs.hn
    have htl := total_le n s.wait hs.fits
    have hmn := hs.many
    clear hs hlen hl h3 h4
    rw [Int.toNat_natCast, if_pos rfl]
    go_enter Try.func79, Try.ntmps79
    go_wp2_with fail
    refine (HC.out _).mono ?_
    rintro e w1 ⟨rfl, b1⟩
    have HH1 := Lib.hid (show RHas w.heap.size s v w1.drew from (Has.below HH.out b1).drew)
    have HR1 := Lib.hid ((HR.out.below b1).below (Below.drew (Below.refl _ _)))
    have HB1 := Lib.hid (bthen HB.out b1).drew
    clear b1
    have y0 := HH1.out.c0
    have y1 := HH1.out.c1
    have y2 := HH1.out.c2
    have y3 := HH1.out.c3
    have y4 := HH1.out.c4
    have y5 := HH1.out.c5
    have e1 : IntKind.i64.wrap (64 * (q : Int)) = 64 * (q : Int) := IntWalk.i64_in _ (by omega)
    have e2 : IntKind.i64.wrap (64 * (q : Int) + 64) = 64 * (q : Int) + 64 := IntWalk.i64_in _ (by omega)
    have g1 : (0 : Int) ≤ 64 * (q : Int) := by omega
    have g2 : 64 * (q : Int) ≤ 64 * (q : Int) + 64 := by omega
    have g3 : (0 : Int) ≤ 64 * (q : Int) + 64 := by omega
    have g4 : 64 * (q : Int) + 64 ≤ ((Oct.bs (done s.last s.wait (total s.wait))).size : Int) := by omega
    have g5 : (64 * (q : Int)).toNat = 64 * q := by omega
    have g6 : (64 * (q : Int) + 64).toNat = 64 * q + 64 := by omega
    clear hsz
    go_wp2_with fail
    go_region_held3 (fun w' => w'.cell? ⟨w.heap.size, 0, none⟩ = some (.string (Oct.bs s.last)) ∧ w'.cell? ⟨w.heap.size, 1, none⟩ = some v ∧ w'.cell? ⟨w.heap.size, 2, none⟩ = some (.bool s.on) ∧ w'.cell? ⟨w.heap.size, 3, none⟩ = some (.bool s.armed) ∧ w'.cell? ⟨w.heap.size, 4, none⟩ = some (.int .i64 s.syncs) ∧ w'.cell? ⟨w.heap.size, 5, none⟩ = some (.int .i64 s.cut))
      (first | exact ⟨y0, y1, y2, y3, y4, y5⟩ | (have h : RHas w.heap.size s v _ := Has.below (Has.below HH1.out b2) b3; exact ⟨h.c0, h.c1, h.c2, h.c3, h.c4, h.c5⟩) | (have h : RHas w.heap.size s v _ := Has.below HH1.out b2; exact ⟨h.c0, h.c1, h.c2, h.c3, h.c4, h.c5⟩))
      (first
        | (go_at_call 53; refine (rWaits_calls n s v HG.out.fits HG.out.many _ HR1.out).mono ?_; rintro e w2 ⟨rfl, b2⟩)
        | (go_at_call 94; refine (Done_calls n s v _ ⟨by omega, by omega⟩ HG.out.fits HG.out.many HG.out.len HG.out.hn _ (HR1.out.below b2)).mono ?_; rintro e w3 ⟨rfl, b3⟩))
    go_wp2_with fail
    go_ret2
    exact ⟨congrArg (fun x => Ending.returned (.tuple #[.string x, .int .i64 0])) HE.out, bthen (bthen HB1.out b2) b3⟩
  · have HX := Lib.hid hc
    rw [if_neg h0]
    have h' : (c != 0) = true := by simpa using h0
    clear hc h0 hcb
    go_enter Try.func79, Try.ntmps79
    go_wp2_with fail
    refine (HC.out _).mono ?_
    rintro e w1 ⟨rfl, b1⟩
    go_wp2_with fail
    go_ret2
    exact ⟨rfl, bthen HB.out b1⟩
end Go.Proofs.Ytopacbmdoognjaa.Disk
/- The walks of the document's disk: Put, Down, Sync, Arm, Up. -/
namespace Go.Proofs.Ytopacbmdoognjaa.Disk
open Go Go.RowKit Frame
def RPost (s' : DSt) (w : World) (e : Ending) (w' : World) : Prop := ∃ v', e = .returned (RD s' v') ∧ RW v' s'.wait w' ∧ Below w.heap.size w w'
def RPost2 (s' : DSt) (r : Int) (w : World) (e : Ending) (w' : World) : Prop := ∃ v', e = .returned (.tuple #[RD s' v', .int .i64 r]) ∧ RW v' s'.wait w' ∧ Below w.heap.size w w'
theorem infoRW : (Try.prog.info? 127).map (fun i => (i.zero, i.size, i.bytes)) = some (some (.agg #[.int .i64 0, .string ⟨#[]⟩]), 2, 24) := by kernel_rfl
def rdown (s : DSt) (c : Int) : DSt := if s.on then ⟨done s.last s.wait c, [], false, false, 0, 0⟩ else s
def rup (s : DSt) : DSt := if s.on then s else ⟨s.last, [], true, false, 0, 0⟩
theorem below2 (w : World) (o1 o2 : Obj) : Below w.heap.size w ((w.alloc o1).alloc o2) := ((Below.refl _ _).alloc (Nat.le_refl _) _).alloc (by simp) _
def zeroR : Array Value := #[.string { data := #[] }, .slice none 0 0, .bool false, .bool false, .int .i64 0, .int .i64 0]
set_option maxHeartbeats 1000000 in
theorem rUp_calls (s : DSt) (v : Value) (w : World) (hr : RW v s.wait w) :
    Calls Try.prog 82 #[RD s v] w (RPost (rup s) w) := by
  obtain ⟨A, cap, rfl, -⟩ := hr.row
  have HR := Lib.hid hr
  clear hr
  unfold RD
  rcases (Bool.eq_false_or_eq_true s.on).symm with ho | ho
  · have HE := Lib.hid (show rup s = ⟨s.last, [], true, false, 0, 0⟩ by simp [rup, ho])
    rw [ho]
    clear ho
    go_enter Try.func82, Try.ntmps82
    go_wp2_with fail
    refine bodyPost_ret (v := RD ⟨s.last, [], true, false, 0, 0⟩ (.slice none 0 0)) (by simp [results, Try.results82, go_sem, RD]) rfl ?_
    rw [HE.out]
    exact ⟨_, rfl, RW.nil _, below2 _ _ _⟩
  · have HE := Lib.hid (show rup s = s by simp [rup, ho])
    have HO := Lib.hid ho
    rw [ho]
    clear ho
    go_enter Try.func82, Try.ntmps82
    go_wp2_with fail
    refine bodyPost_ret (v := RD s (.slice A s.wait.length cap)) (by simp [results, Try.results82, go_sem, RD, HO.out]) rfl ?_
    rw [HE.out]
    exact ⟨_, rfl, HR.out.below (below2 _ _ _), below2 _ _ _⟩
set_option maxHeartbeats 1000000 in
theorem rArm_calls (s : DSt) (v : Value) (n c : Int) (w : World) (hr : RW v s.wait w) :
    Calls Try.prog 80 #[RD s v, .int .i64 n, .int .i64 c] w (RPost (armed s n c) w) := by
  obtain ⟨A, cap, rfl, -⟩ := hr.row
  have HR := Lib.hid hr
  clear hr
  unfold RD
  rcases (Bool.eq_false_or_eq_true s.on).symm with ho | ho
  · have HE := Lib.hid (show armed s n c = s by simp [armed, ho])
    have HO := Lib.hid ho
    rw [ho]
    clear ho
    go_enter Try.func80, Try.ntmps80
    go_wp2_with fail
    refine bodyPost_ret (v := RD s (.slice A s.wait.length cap)) (by simp [results, Try.results80, go_sem, RD, HO.out]) rfl ?_
    rw [HE.out]
    exact ⟨_, rfl, HR.out.below (below2 _ _ _), below2 _ _ _⟩
  · obtain ⟨N, hN⟩ : ∃ N : Int, max n 0 = N := ⟨_, rfl⟩
    obtain ⟨C, hC⟩ : ∃ C : Int, max c 0 = C := ⟨_, rfl⟩
    have HE := Lib.hid (show armed s n c = ⟨s.last, s.wait, s.on, true, N, C⟩ by
      have h1 : max 0 n = N := by omega
      have h2 : max 0 c = C := by omega
      simp [armed, ho, h1, h2])
    have HO := Lib.hid ho
    rw [ho]
    clear ho
    go_enter Try.func80, Try.ntmps80
    go_wp2_with fail
    refine bodyPost_ret (v := RD ⟨s.last, s.wait, s.on, true, N, C⟩ (.slice A s.wait.length cap)) (by simp [results, Try.results80, go_sem, RD, HO.out]) rfl ?_
    rw [HE.out]
    exact ⟨_, rfl, HR.out.below (below2 _ _ _), below2 _ _ _⟩
set_option maxHeartbeats 1000000 in
theorem rDown_calls (n : Nat) (s : DSt) (v : Value) (c : Int) (hc : -9223372036854775808 ≤ c ∧ c ≤ 9223372036854775807) (hs : Good n s) (w : World) (hr : RW v s.wait w) :
    Calls Try.prog 81 #[RD s v, .int .i64 c] w (RPost (rdown s c) w) := by
  obtain ⟨A, cap, rfl, -⟩ := hr.row
  have HR := Lib.hid hr
  clear hr
  rcases (Bool.eq_false_or_eq_true s.on).symm with ho | ho
  · have HE := Lib.hid (show rdown s c = s by simp [rdown, ho])
    have HO := Lib.hid ho
    unfold RD
    rw [ho]
    clear ho
    go_enter Try.func81, Try.ntmps81
    go_wp2_with fail
    refine bodyPost_ret (v := RD s (.slice A s.wait.length cap)) (by simp [results, Try.results81, go_sem, RD, HO.out]) rfl ?_
    rw [HE.out]
    exact ⟨_, rfl, HR.out.below (below2 _ _ _), below2 _ _ _⟩
  · have HE := Lib.hid (show rdown s c = ⟨done s.last s.wait c, [], false, false, 0, 0⟩ by simp [rdown, ho])
    have HD := Lib.hid (fun W h => Done_calls n s (.slice A s.wait.length cap) c hc hs.fits hs.many hs.len hs.hn W h)
    have HB := Lib.hid (below2 w (.cells (RCells s (.slice A s.wait.length cap)) 63) (.cells zeroR 63))
    have HR2 := Lib.hid (HR.out.below HB.out)
    have hn2 : Has (w.heap.size + 1) zeroR 63 ((w.alloc (.cells (RCells s (.slice A s.wait.length cap)) 63)).alloc (.cells zeroR 63)) := by
      have := Has.new (w.alloc (.cells (RCells s (.slice A s.wait.length cap)) 63)) zeroR 63
      simpa using this
    have HN := Lib.hid hn2
    clear hn2
    unfold RD RCells zeroR at *
    rw [ho] at HD HB HR2 HN ⊢
    clear ho
    go_enter Try.func81, Try.ntmps81
    go_wp2_with fail
    refine (HD.out _ HR2.out).mono ?_
    rintro e w2 ⟨rfl, b2⟩
    have hn := HN.out.below b2
    have f := hn.frozen
    have c0 := hn.cell 0
    have c1 := hn.cell 1
    have c2 := hn.cell 2
    have c3 := hn.cell 3
    have c4 := hn.cell 4
    have c5 := hn.cell 5
    have hz := hn.lt
    have B := Lib.hid (bthen HB.out b2)
    clear b2 hn
    go_wp2_with fail
    refine bodyPost_ret (v := RD ⟨done s.last s.wait c, [], false, false, 0, 0⟩ (.slice none 0 0)) (by simp [results, Try.results81, go_sem, RD, c0, c1, c2, c3, c4, c5]) rfl ?_
    rw [HE.out]
    exact ⟨_, rfl, RW.nil _, below6 B.out (by omega) _ _ _ _ _ _⟩
end Go.Proofs.Ytopacbmdoognjaa.Disk
/- The walks of the document's disk: Sync. -/
namespace Go.Proofs.Ytopacbmdoognjaa.Disk
open Go Go.RowKit Frame
theorem RW.apart {v : Value} {ws : List Wr} {w : World} (h : RW v ws w) {b : Nat} {cs : Array Value} {t : TypeId} (hb : Has b cs t w) (hne : t ≠ 127) : v.ownBlock ≠ some b := by
  rcases h.1.2 with ⟨rfl, _⟩ | ⟨g, cap, cur, rfl, _, hg, _⟩
  · simp [Value.ownBlock]
  · intro e
    simp [Value.ownBlock] at e
    subst e
    exact hne (has_type hb hg)
theorem RW.set6 {v : Value} {ws : List Wr} {w : World} {b : Nat} (h : RW v ws w) (hb : v.ownBlock ≠ some b) (v0 v1 v2 v3 v4 v5 : Value) :
    RW v ws ((((((w.setCell ⟨b, 0, none⟩ v0).setCell ⟨b, 1, none⟩ v1).setCell ⟨b, 2, none⟩ v2).setCell ⟨b, 3, none⟩ v3).setCell ⟨b, 4, none⟩ v4).setCell ⟨b, 5, none⟩ v5) := by
  refine ⟨?_, h.2⟩
  exact ownsRow_setCell_other (ownsRow_setCell_other (ownsRow_setCell_other (ownsRow_setCell_other (ownsRow_setCell_other (ownsRow_setCell_other h.1 (a := ⟨b, 0, none⟩) hb v0) (a := ⟨b, 1, none⟩) hb v1) (a := ⟨b, 2, none⟩) hb v2) (a := ⟨b, 3, none⟩) hb v3) (a := ⟨b, 4, none⟩) hb v4) (a := ⟨b, 5, none⟩) hb v5
def rsync (s : DSt) : DSt × Int :=
  if s.on then (if s.armed && s.syncs == 0 then (rdown s s.cut, 16) else ({ s with last := all s.last s.wait, wait := [], syncs := if s.armed then s.syncs - 1 else s.syncs }, 0)) else (s, 16)
theorem rsync_off (s : DSt) (h : s.on = false) : rsync s = (s, 16) := by simp [rsync, h]
theorem rsync_gone (s : DSt) (h : s.on = true) (ha : s.armed = true) (hz : s.syncs = 0) : rsync s = (rdown s s.cut, 16) := by simp [rsync, h, ha, hz]
theorem rsync_armed (s : DSt) (h : s.on = true) (ha : s.armed = true) (hz : s.syncs ≠ 0) : rsync s = (⟨all s.last s.wait, [], s.on, s.armed, s.syncs - 1, s.cut⟩, 0) := by simp [rsync, h, ha, hz]
theorem rsync_not (s : DSt) (h : s.on = true) (ha : s.armed = false) : rsync s = (⟨all s.last s.wait, [], s.on, s.armed, s.syncs, s.cut⟩, 0) := by simp [rsync, h, ha]
theorem zero_has (w : World) (cs : Array Value) : Has (w.heap.size + 1) zeroR 63 ((w.alloc (.cells cs 63)).alloc (.cells zeroR 63)) := by
  have := Has.new (w.alloc (.cells cs 63)) zeroR 63
  simpa using this
theorem first_has (w : World) (cs : Array Value) (o : Obj) : Has w.heap.size cs 63 ((w.alloc (.cells cs 63)).alloc o) := (Has.new _ _ _).alloc _
set_option maxRecDepth 100000 in
set_option maxHeartbeats 4000000 in
theorem rSync_gone (n : Nat) (last : List UInt8) (ws : List Wr) (ct : Int) (v : Value) (hs : Good n ⟨last, ws, true, true, 0, ct⟩) (w : World) (hr : RW v ws w) :
    Calls Try.prog 78 #[RD ⟨last, ws, true, true, 0, ct⟩ v] w (RPost2 (rdown ⟨last, ws, true, true, 0, ct⟩ ct) 16 w) := by
  obtain ⟨A, cap, rfl, -⟩ := hr.row
  have hcr : -9223372036854775808 ≤ ct ∧ ct ≤ 9223372036854775807 := by have h := hs.cut; simp only at h; omega
  have HR := Lib.hid hr
  have HG := Lib.hid hs
  clear hr hs
  have HD := Lib.hid (fun W h => rDown_calls n ⟨last, ws, true, true, 0, ct⟩ (.slice A ws.length cap) ct hcr HG.out W h)
  have HB := Lib.hid (below2 w (.cells (RCells ⟨last, ws, true, true, 0, ct⟩ (.slice A ws.length cap)) 63) (.cells zeroR 63))
  have HN := Lib.hid (zero_has w (RCells ⟨last, ws, true, true, 0, ct⟩ (.slice A ws.length cap)))
  have HR2 := Lib.hid (HR.out.below HB.out)
  unfold RD at HD ⊢
  unfold RCells zeroR at HB HN HR2
  simp only at HD HB HN HR2 ⊢
  go_enter Try.func78, Try.ntmps78
  go_wp2_with fail
  refine (HD.out _ HR2.out).mono ?_
  rintro e w2 ⟨v2, rfl, r2, b2⟩
  obtain ⟨A2, cap2, rfl, -⟩ := r2.row
  have hn := HN.out.below b2
  have f := hn.frozen
  have c0 := hn.cell 0
  have c1 := hn.cell 1
  have c2 := hn.cell 2
  have c3 := hn.cell 3
  have c4 := hn.cell 4
  have c5 := hn.cell 5
  have hz := hn.lt
  have B := Lib.hid (bthen HB.out b2)
  have R2 := Lib.hid r2
  have hne := Lib.hid (r2.apart hn (by decide))
  clear b2 hn r2
  unfold RD
  generalize rdown ⟨last, ws, true, true, 0, ct⟩ ct = s2 at *
  go_wp2_with fail
  refine bodyPost_ret (v := .tuple #[RD s2 (.slice A2 s2.wait.length cap2), .int .i64 16]) (by simp [results, Try.results78, go_sem, RD, c0, c1, c2, c3, c4, c5]) rfl ?_
  refine ⟨_, rfl, ?_, below6 B.out (by omega) _ _ _ _ _ _⟩
  exact R2.out.set6 hne.out _ _ _ _ _ _
set_option maxRecDepth 100000 in
set_option maxHeartbeats 4000000 in
theorem rSync_on (n : Nat) (last : List UInt8) (ws : List Wr) (ar : Bool) (sy ct : Int) (v : Value) (hs : Good n ⟨last, ws, true, ar, sy, ct⟩) (hy : ar = true → sy ≠ 0) (sy' : Int) (hm : sy' = if ar then sy - 1 else sy) (w : World) (hr : RW v ws w) :
    Calls Try.prog 78 #[RD ⟨last, ws, true, ar, sy, ct⟩ v] w (RPost2 ⟨all last ws, [], true, ar, sy', ct⟩ 0 w) := by
  obtain ⟨A, cap, rfl, -⟩ := hr.row
  have hsy : 0 ≤ sy ∧ sy ≤ 9223372036854775807 := hs.syncs
  have htl := total_le n ws hs.fits
  have hmn : ws.length ≤ 100000 := hs.many
  have HR := Lib.hid hr
  have HG := Lib.hid hs
  clear hr hs
  have HX := Lib.hid (show Oct.bs (done last ws (total ws)) = Oct.bs (all last ws) by rw [done_all _ _ _ (Int.le_refl _)])
  cases ar with
  | true =>
    have hz : (sy == 0) = false := by have := hy rfl; simpa using this
    have hz2 : sy ≠ 0 := hy rfl
    obtain rfl : sy' = sy - 1 := by simpa using hm
    clear hm
    have HD := Lib.hid (fun W h => Done_calls n ⟨last, ws, true, true, sy - 1, ct⟩ (.slice A ws.length cap) (total ws) ⟨by omega, by omega⟩ HG.out.fits hmn HG.out.len HG.out.hn W h)
    have HW := Lib.hid (fun W h => rWaits_calls n ⟨last, ws, true, true, sy - 1, ct⟩ (.slice A ws.length cap) HG.out.fits hmn W h)
    have HB := Lib.hid (below2 w (.cells (RCells ⟨last, ws, true, true, sy - 1, ct⟩ (.slice A ws.length cap)) 63) (.cells zeroR 63))
    have HN := Lib.hid (zero_has w (RCells ⟨last, ws, true, true, sy - 1, ct⟩ (.slice A ws.length cap)))
    have HN1 := Lib.hid (first_has w (RCells ⟨last, ws, true, true, sy - 1, ct⟩ (.slice A ws.length cap)) (.cells zeroR 63))
    have HR2 := Lib.hid (HR.out.below HB.out)
    clear hy htl hmn
    unfold RD at HD HW ⊢
    unfold RCells zeroR at HB HN HN1 HR2
    simp only at HD HW HB HN HN1 HR2 ⊢
    go_enter Try.func78, Try.ntmps78
    go_wp2_with fail
    go_region_with
      (first
        | (go_at_call 53; refine (HW.out _ (HR2.out.below (Below.drew (Below.refl _ _)))).mono ?_; rintro e w2 ⟨rfl, b2⟩;
           have b2 := (Below.drew (Below.refl _ _)).trans b2; have h2 := HN1.out.below b2; have c0 := h2.cell 0; have c1 := h2.cell 1; have c2 := h2.cell 2; have c3 := h2.cell 3; have c4 := h2.cell 4; have c5 := h2.cell 5; have f2 := h2.frozen; clear h2)
        | (go_at_call 94; refine (HD.out _ ((HR2.out.below b2).below (Below.refl _ _))).mono ?_; rintro e w3 ⟨rfl, b3⟩;
           have h3 := (HN1.out.below b2).below b3; have k0 := h3.cell 0; have k1 := h3.cell 1; have k2 := h3.cell 2; have k3 := h3.cell 3; have k4 := h3.cell 4; have k5 := h3.cell 5; have f3 := h3.frozen; clear h3; have h4 := (HN.out.below b2).below b3; have z0 := h4.cell 0; have z1 := h4.cell 1; have z2 := h4.cell 2; have z3 := h4.cell 3; have z4 := h4.cell 4; have z5 := h4.cell 5; have f4 := h4.frozen; have hz4 := h4.lt; clear h4; have B3 := Lib.hid (bthen (bthen HB.out b2) b3); clear b3))
    all_goals
      rw [HX.out]
      go_wp2_with fail
      refine bodyPost_ret (v := .tuple #[RD ⟨all last ws, [], true, true, sy - 1, ct⟩ (.slice none 0 0), .int .i64 0]) (by simp [results, Try.results78, go_sem, RD, z0, z1, z2, z3, z4, z5]) rfl ?_
      exact ⟨_, rfl, RW.nil _, below6 ((B3.out.setCell (p := ⟨w.heap.size, 0, none⟩) (Nat.le_refl _) _).setCell (p := ⟨w.heap.size, 1, none⟩) (Nat.le_refl _) _) (Nat.le_succ _) _ _ _ _ _ _⟩
  | false =>
    obtain rfl : sy' = sy := by simpa using hm
    clear hm
    have HD := Lib.hid (fun W h => Done_calls n ⟨last, ws, true, false, sy', ct⟩ (.slice A ws.length cap) (total ws) ⟨by omega, by omega⟩ HG.out.fits hmn HG.out.len HG.out.hn W h)
    have HW := Lib.hid (fun W h => rWaits_calls n ⟨last, ws, true, false, sy', ct⟩ (.slice A ws.length cap) HG.out.fits hmn W h)
    have HB := Lib.hid (below2 w (.cells (RCells ⟨last, ws, true, false, sy', ct⟩ (.slice A ws.length cap)) 63) (.cells zeroR 63))
    have HN := Lib.hid (zero_has w (RCells ⟨last, ws, true, false, sy', ct⟩ (.slice A ws.length cap)))
    have HN1 := Lib.hid (first_has w (RCells ⟨last, ws, true, false, sy', ct⟩ (.slice A ws.length cap)) (.cells zeroR 63))
    have HR2 := Lib.hid (HR.out.below HB.out)
    clear hy htl hmn
    unfold RD at HD HW ⊢
    unfold RCells zeroR at HB HN HN1 HR2
    simp only at HD HW HB HN HN1 HR2 ⊢
    go_enter Try.func78, Try.ntmps78
    go_wp2_with fail
    go_region_with
      (first
        | (go_at_call 53; refine (HW.out _ (HR2.out.below (Below.drew (Below.refl _ _)))).mono ?_; rintro e w2 ⟨rfl, b2⟩;
           have b2 := (Below.drew (Below.refl _ _)).trans b2; have h2 := HN1.out.below b2; have c0 := h2.cell 0; have c1 := h2.cell 1; have c2 := h2.cell 2; have c3 := h2.cell 3; have c4 := h2.cell 4; have c5 := h2.cell 5; have f2 := h2.frozen; clear h2)
        | (go_at_call 94; refine (HD.out _ ((HR2.out.below b2).below (Below.refl _ _))).mono ?_; rintro e w3 ⟨rfl, b3⟩;
           have h3 := (HN1.out.below b2).below b3; have k0 := h3.cell 0; have k1 := h3.cell 1; have k2 := h3.cell 2; have k3 := h3.cell 3; have k4 := h3.cell 4; have k5 := h3.cell 5; have f3 := h3.frozen; clear h3; have h4 := (HN.out.below b2).below b3; have z0 := h4.cell 0; have z1 := h4.cell 1; have z2 := h4.cell 2; have z3 := h4.cell 3; have z4 := h4.cell 4; have z5 := h4.cell 5; have f4 := h4.frozen; have hz4 := h4.lt; clear h4; have B3 := Lib.hid (bthen (bthen HB.out b2) b3); clear b3))
    all_goals
      rw [HX.out]
      go_wp2_with fail
      refine bodyPost_ret (v := .tuple #[RD ⟨all last ws, [], true, false, sy', ct⟩ (.slice none 0 0), .int .i64 0]) (by simp [results, Try.results78, go_sem, RD, z0, z1, z2, z3, z4, z5]) rfl ?_
      exact ⟨_, rfl, RW.nil _, below6 ((B3.out.setCell (p := ⟨w.heap.size, 0, none⟩) (Nat.le_refl _) _).setCell (p := ⟨w.heap.size, 1, none⟩) (Nat.le_refl _) _) (Nat.le_succ _) _ _ _ _ _ _⟩
set_option maxHeartbeats 1000000 in
theorem rSync_off (s : DSt) (ho : s.on = false) (v : Value) (w : World) (hr : RW v s.wait w) :
    Calls Try.prog 78 #[RD s v] w (RPost2 s 16 w) := by
  obtain ⟨A, cap, rfl, -⟩ := hr.row
  have HR := Lib.hid hr
  have HO := Lib.hid ho
  unfold RD
  rw [ho]
  clear ho hr
  go_enter Try.func78, Try.ntmps78
  go_wp2_with fail
  refine bodyPost_ret (v := .tuple #[RD s (.slice A s.wait.length cap), .int .i64 16]) (by simp [results, Try.results78, go_sem, RD, HO.out]) rfl ?_
  exact ⟨_, rfl, HR.out.below (below2 _ _ _), below2 _ _ _⟩
theorem rSync_calls (n : Nat) (s : DSt) (v : Value) (hs : Good n s) (w : World) (hr : RW v s.wait w) :
    Calls Try.prog 78 #[RD s v] w (RPost2 (rsync s).1 (rsync s).2 w) := by
  rcases (Bool.eq_false_or_eq_true s.on).symm with ho | ho
  · rw [rsync_off s ho]
    exact rSync_off s ho v w hr
  · obtain ⟨last, ws, on, ar, sy, ct⟩ := s
    simp only at ho
    subst ho
    by_cases h : ar = true ∧ sy = 0
    · obtain ⟨rfl, rfl⟩ := h
      rw [rsync_gone _ rfl rfl rfl]
      exact rSync_gone n last ws ct v hs w hr
    · have e : rsync ⟨last, ws, true, ar, sy, ct⟩ = (⟨all last ws, [], true, ar, if ar then sy - 1 else sy, ct⟩, 0) := by
        cases ar with
        | true =>
          rw [rsync_armed _ rfl rfl (by simp at h; exact h)]
          rfl
        | false => rw [rsync_not _ rfl rfl]; rfl
      rw [e]
      exact rSync_on n last ws ar sy ct v hs (fun ha hz => h ⟨ha, hz⟩) _ rfl w hr
end Go.Proofs.Ytopacbmdoognjaa.Disk
/- The walks of the document's disk: Put. -/
namespace Go.Proofs.Ytopacbmdoognjaa.Disk
open Go Go.RowKit Frame
set_option maxRecDepth 100000 in
set_option maxHeartbeats 2000000 in
theorem rPut_no (s : DSt) (v : Value) (k : Int) (t : ByteArray) (ha : ans s k t ≠ 0) (hl : s.last.length ≤ 262144) (w : World) (hr : RW v s.wait w) :
    Calls Try.prog 83 #[RD s v, .int .i64 k, .string t] w (RPost2 s (ans s k t) w) := by
  obtain ⟨A, cap, rfl, -⟩ := hr.row
  have HC := Lib.hid (fun W => Check_calls s (.slice A s.wait.length cap) k hl W)
  have HB := Lib.hid (below2 w (.cells (RCells s (.slice A s.wait.length cap)) 63) (.cells zeroR 63))
  have HN := Lib.hid (zero_has w (RCells s (.slice A s.wait.length cap)))
  have HN1 := Lib.hid (first_has w (RCells s (.slice A s.wait.length cap)) (.cells zeroR 63))
  have HR2 := Lib.hid (hr.below HB.out)
  have hans : ans s k t = if chk s k ≠ 0 then chk s k else if 64 < t.size then 5 else 0 := rfl
  clear hr
  unfold RD at HC ⊢
  unfold RCells zeroR at HB HN HN1 HR2
  generalize chk s k = c at *
  by_cases hc : c = 0
  · subst hc
    have ht : 64 < t.size := by
      rcases Nat.lt_or_ge 64 t.size with h | h
      · exact h
      · rw [if_neg (by simp), if_neg (by omega)] at hans
        exact absurd hans ha
    have HE := Lib.hid (show ans s k t = 5 by rw [hans, if_neg (by simp), if_pos ht])
    clear hans ha
    go_enter Try.func83, Try.ntmps83
    go_wp2_with fail
    refine (HC.out _).mono ?_
    rintro e w2 ⟨rfl, b2⟩
    have h3 := HN1.out.below b2; have k0 := h3.cell 0; have k1 := h3.cell 1; have k2 := h3.cell 2; have k3 := h3.cell 3; have k4 := h3.cell 4; have k5 := h3.cell 5
    have h4 := HN.out.below b2; have z0 := h4.cell 0; have z1 := h4.cell 1; have z2 := h4.cell 2; have z3 := h4.cell 3; have z4 := h4.cell 4; have z5 := h4.cell 5; have f4 := h4.frozen; have hz4 := h4.lt
    have R2 := Lib.hid (HR2.out.below b2)
    have hne := Lib.hid (R2.out.apart h4 (by decide))
    have B2 := Lib.hid (bthen HB.out b2)
    clear h3 h4 b2
    go_wp2_with fail
    refine bodyPost_ret (v := .tuple #[RD s (.slice A s.wait.length cap), .int .i64 5]) (by simp [results, Try.results83, go_sem, RD, z0, z1, z2, z3, z4, z5]) rfl ?_
    rw [HE.out]
    exact ⟨_, rfl, R2.out.set6 hne.out _ _ _ _ _ _, below6 B2.out (Nat.le_succ _) _ _ _ _ _ _⟩
  · have HE := Lib.hid (show ans s k t = c by rw [hans, if_pos hc])
    have hc' : (c != 0) = true := by simpa using hc
    have hc2 : (c == 0) = false := by simpa using hc
    clear hans ha hc
    go_enter Try.func83, Try.ntmps83
    go_wp2_with fail
    refine (HC.out _).mono ?_
    rintro e w2 ⟨rfl, b2⟩
    have h3 := HN1.out.below b2; have k0 := h3.cell 0; have k1 := h3.cell 1; have k2 := h3.cell 2; have k3 := h3.cell 3; have k4 := h3.cell 4; have k5 := h3.cell 5
    have h4 := HN.out.below b2; have z0 := h4.cell 0; have z1 := h4.cell 1; have z2 := h4.cell 2; have z3 := h4.cell 3; have z4 := h4.cell 4; have z5 := h4.cell 5; have f4 := h4.frozen; have hz4 := h4.lt
    have R2 := Lib.hid (HR2.out.below b2)
    have hne := Lib.hid (R2.out.apart h4 (by decide))
    have B2 := Lib.hid (bthen HB.out b2)
    clear h3 h4 b2
    go_wp2_with fail
    refine bodyPost_ret (v := .tuple #[RD s (.slice A s.wait.length cap), .int .i64 c]) (by simp [results, Try.results83, go_sem, RD, z0, z1, z2, z3, z4, z5]) rfl ?_
    rw [HE.out]
    exact ⟨_, rfl, R2.out.set6 hne.out _ _ _ _ _ _, below6 B2.out (Nat.le_succ _) _ _ _ _ _ _⟩
theorem has_grown {b : Nat} {cs : Array Value} {t : TypeId} {w w' : World} {row : Option Nat} (h : Has b cs t w) (hg : w.grownBy w' row) (hne : some b ≠ row) : Has b cs t w' := (hg.block b h.lt hne).trans h
theorem below_grown {B : Nat} {a w w' : World} {row : Option Nat} (h : Below B a w) (hg : w.grownBy w' row) (hB : B ≤ w.heap.size) (hr : ∀ g, row = some g → B ≤ g) : Below B a w' :=
  ⟨hg.os.trans h.os, hg.tape.trans h.tape, hg.output.trans h.output, Nat.le_trans h.size hg.size, fun i hi => (hg.block i (by omega) (fun e => by have := hr i e.symm; omega)).trans (h.block i hi)⟩
theorem RW.of_own {base g cap m : Nat} {ws : List Wr} {xs : List Value} {w : World} (h : w.ownsRow base 127 2 (.slice (some ⟨g, 0, none⟩) m cap) m xs) (hm : m = ws.length) (hx : xs = rows ws) (h0 : 0 < ws.length) : RW (.slice (some ⟨g, 0, none⟩) m cap) ws w := by
  subst hm
  subst hx
  refine ⟨⟨h.1, ?_⟩, fun h' => by omega⟩
  rcases h.2 with ⟨e, _⟩ | ⟨g', cap', cur, e, _, hr⟩
  · cases e
  · exact .inr ⟨g', cap', cur, e, Nat.zero_le _, hr⟩
theorem RW.set1 {v : Value} {ws : List Wr} {w : World} {b i : Nat} (h : RW v ws w) (hb : v.ownBlock ≠ some b) (x : Value) : RW v ws (w.setCell ⟨b, i, none⟩ x) :=
  ⟨ownsRow_setCell_other h.1 (a := ⟨b, i, none⟩) hb x, h.2⟩
theorem rows_one (ws : List Wr) : ∀ u ∈ rows ws, u.oneCell' = true := by
  intro u hu
  simp only [rows, List.mem_flatMap] at hu
  obtain ⟨x, _, hx⟩ := hu
  simp at hx
  rcases hx with rfl | rfl <;> rfl
set_option maxRecDepth 100000 in
set_option maxHeartbeats 2000000 in
theorem rPut_yes (s : DSt) (v : Value) (q : Nat) (t : ByteArray) (hc : chk s q = 0) (ht : t.size ≤ 64) (hl : s.last.length ≤ 262144) (hn : s.wait.length ≤ 100000) (w : World) (hr : RW v s.wait w) :
    Calls Try.prog 83 #[RD s v, .int .i64 (q : Int), .string t] w (RPost2 { s with wait := s.wait ++ [(q, t)] } 0 w) := by
  obtain ⟨i0, hi0, hz0, hz1, hz2⟩ := info_parts infoRW
  obtain ⟨last, ws, on, ar, sy, ct⟩ := s
  simp only at hr hl hn ⊢
  obtain ⟨A, cap, rfl, hrow⟩ := hr.row
  have HC := Lib.hid (fun W => Check_calls ⟨last, ws, on, ar, sy, ct⟩ (.slice A ws.length cap) q hl W)
  rw [hc] at HC
  have HB := Lib.hid (below2 w (.cells (RCells ⟨last, ws, on, ar, sy, ct⟩ (.slice A ws.length cap)) 63) (.cells zeroR 63))
  have HN := Lib.hid (zero_has w (RCells ⟨last, ws, on, ar, sy, ct⟩ (.slice A ws.length cap)))
  have HN1 := Lib.hid (first_has w (RCells ⟨last, ws, on, ar, sy, ct⟩ (.slice A ws.length cap)) (.cells zeroR 63))
  have HR2 := Lib.hid (hr.below HB.out)
  have HROW := Lib.hid hrow
  clear hr hc hrow
  unfold RD at HC ⊢
  unfold RCells zeroR at HB HN HN1 HR2
  simp only at HC HB HN HN1 HR2 ⊢
  by_cases hw : ws = []
  · subst hw
    have hv := HR2.out.2 rfl
    simp only [List.length_nil, Value.slice.injEq] at hv
    obtain ⟨rfl, -, rfl⟩ := hv
    simp only [List.length_nil] at HC HB HN HN1 HR2 ⊢
    go_enter Try.func83, Try.ntmps83
    go_wp2_with fail
    refine (HC.out _).mono ?_
    rintro e w2 ⟨rfl, b2⟩
    have R2 := Lib.hid (HR2.out.below b2)
    have K2 := Lib.hid (HN1.out.below b2)
    have Z2 := Lib.hid (HN.out.below b2)
    have B2 := Lib.hid (bthen HB.out b2)
    have k0 := K2.out.cell 0; have k1 := K2.out.cell 1; have k2 := K2.out.cell 2; have k3 := K2.out.cell 3; have k4 := K2.out.cell 4; have k5 := K2.out.cell 5
    have hs2 := Z2.out.lt
    clear b2
    go_wp2_with (first
      | (at_builtin; refine wpList_append_own_none rfl _ _ _ rfl 0 127 i0 2 Try.underlying61 hi0 (.slice none 0 0) 0 [] rfl (World.ownsRow_nil _ _ _ _) rfl ?_)
      | (at_builtin; refine wpList_append_lies _ rfl _ _ _ rfl w2.heap.size 127 i0 _ 2 24 Try.underlying61 hi0 hz0 hz1 hz2 rfl (by omega) (.slice none 0 0) 0 [] rfl (World.ownsRow_nil _ _ _ _) ⟨w2.heap.size, 0, none⟩ 1 1 [.int .i64 (q : Int), .string t] rfl rfl (World.news_of_block (cs := #[.int .i64 (q : Int), .string t]) (t := 127) (fr := (0, 0)) (heap_alloc_new w2 _)) (by simp [Value.oneCell']) (by omega) (by unfold maxLen; omega) (by omega) (by simp) (w2.heap.size + 1) (by simp) ?_; intro g4 cap4 w4 hown4 hgrow4 hat4 hlt4;
         have K4 := Lib.hid (has_grown (K2.out.alloc _) hgrow4 (by simp [Value.ownBlock]));
         have Z4 := Lib.hid (has_grown (Z2.out.alloc _) hgrow4 (by simp [Value.ownBlock]));
         have B4 := Lib.hid (below_grown (B2.out.alloc (by omega) _) hgrow4 (by simp; omega) (by simp [Value.ownBlock]));
         clear k0 k1 k2 k3 k4 k5;
         have k0 := K4.out.cell 0; have k1 := K4.out.cell 1; have k2 := K4.out.cell 2; have k3 := K4.out.cell 3; have k4 := K4.out.cell 4; have k5 := K4.out.cell 5;
         have z0 := Z4.out.cell 0; have z1 := Z4.out.cell 1; have z2 := Z4.out.cell 2; have z3 := Z4.out.cell 3; have z4 := Z4.out.cell 4; have z5 := Z4.out.cell 5;
         have f4 := K4.out.frozen; have y4 := Z4.out.frozen;
         have HO4 := Lib.hid hown4; clear hown4 hgrow4 hat4))
    have hrow4 := RW.of_own (ws := [] ++ [(q, t)]) HO4.out (by simp) (by rw [rows_snoc]; rfl) (by simp)
    have hne1 := hrow4.apart K4.out (by decide)
    have hne2 := hrow4.apart Z4.out (by decide)
    have HF := Lib.hid (And.intro hrow4 (And.intro hne1 hne2))
    clear hrow4 hne1 hne2
    refine bodyPost_ret (v := .tuple #[RD ⟨last, [] ++ [(q, t)], on, ar, sy, ct⟩ (.slice (some ⟨g4, 0, none⟩) (0 + 1) cap4), .int .i64 0]) (by simp [results, Try.results83, go_sem, RD, z0, z1, z2, z3, z4, z5]) rfl ?_
    exact ⟨_, rfl, (HF.out.1.set1 HF.out.2.1 _).set6 HF.out.2.2 _ _ _ _ _ _, below6 (B4.out.setCell (p := ⟨w.heap.size, 1, none⟩) (Nat.le_refl _) _) (Nat.le_succ _) _ _ _ _ _ _⟩
  · have hw0 : 0 < ws.length := (by cases ws with | nil => exact absurd rfl hw | cons _ _ => simp)
    clear hw
    obtain ⟨g, rfl, hg, -⟩ := HROW.out hw0
    go_enter Try.func83, Try.ntmps83
    go_wp2_with fail
    refine (HC.out _).mono ?_
    rintro e w2 ⟨rfl, b2⟩
    have R2 := Lib.hid (HR2.out.below b2)
    have K2 := Lib.hid (HN1.out.below b2)
    have Z2 := Lib.hid (HN.out.below b2)
    have B2 := Lib.hid (bthen HB.out b2)
    have k0 := K2.out.cell 0; have k1 := K2.out.cell 1; have k2 := K2.out.cell 2; have k3 := K2.out.cell 3; have k4 := K2.out.cell 4; have k5 := K2.out.cell 5
    have hs2 := Z2.out.lt
    clear b2
    go_wp2_with (first
      | (at_builtin; refine wpList_append_lies _ rfl _ _ _ rfl w2.heap.size 127 i0 _ 2 24 Try.underlying61 hi0 hz0 hz1 hz2 rfl (by omega) (.slice none 0 0) 0 [] rfl (World.ownsRow_nil _ _ _ _) ⟨g, 0, none⟩ ws.length cap (rows ws) rfl R2.out.1.1 (R2.out.1.cells rfl) (rows_one ws) (by omega) (by unfold maxLen; omega) (by omega) (by omega) w2.heap.size (by rfl) ?_; intro g1 cap1 w3 hown1 hgrow1 hat1 hlt1;
         obtain rfl : g1 = w2.heap.size := hat1.resolve_left (by simp [Value.ownBlock]);
         have K3 := Lib.hid (has_grown K2.out hgrow1 (by simp [Value.ownBlock]));
         have Z3 := Lib.hid (has_grown Z2.out hgrow1 (by simp [Value.ownBlock]));
         have B3 := Lib.hid (below_grown B2.out hgrow1 (by omega) (by simp [Value.ownBlock]));
         have S3 := hgrow1.size;
         clear hgrow1 hat1 k0 k1 k2 k3 k4 k5;
         simp only [Nat.zero_add, List.nil_append] at hown1 ⊢;
         have HO1 := Lib.hid hown1; clear hown1)
      | (at_builtin; refine wpList_append_lies _ rfl _ _ _ rfl w2.heap.size 127 i0 _ 2 24 Try.underlying61 hi0 hz0 hz1 hz2 rfl (by omega) (.slice (some ⟨w2.heap.size, 0, none⟩) ws.length cap1) ws.length (rows ws) rfl (HO1.out.alloc _) ⟨w3.heap.size, 0, none⟩ 1 1 [.int .i64 (q : Int), .string t] rfl rfl (World.news_of_block (cs := #[.int .i64 (q : Int), .string t]) (t := 127) (fr := (0, 0)) (heap_alloc_new w3 _)) (by simp [Value.oneCell']) (by omega) (by unfold maxLen; omega) (by omega) (by simp; omega) (w3.heap.size + 1) (by simp) ?_; intro g4 cap4 w4 hown4 hgrow4 hat4 hlt4;
         have K4 := Lib.hid (has_grown (K3.out.alloc _) hgrow4 (by simp [Value.ownBlock]; omega));
         have Z4 := Lib.hid (has_grown (Z3.out.alloc _) hgrow4 (by simp [Value.ownBlock]; omega));
         have B4 := Lib.hid (below_grown (B3.out.alloc (by omega) _) hgrow4 (by simp; omega) (by simp [Value.ownBlock]; omega));
         have k0 := K4.out.cell 0; have k1 := K4.out.cell 1; have k2 := K4.out.cell 2; have k3 := K4.out.cell 3; have k4 := K4.out.cell 4; have k5 := K4.out.cell 5;
         have z0 := Z4.out.cell 0; have z1 := Z4.out.cell 1; have z2 := Z4.out.cell 2; have z3 := Z4.out.cell 3; have z4 := Z4.out.cell 4; have z5 := Z4.out.cell 5;
         have f4 := K4.out.frozen; have y4 := Z4.out.frozen;
         have HO4 := Lib.hid hown4; clear hown4 hgrow4 hat4))
    have hrow4 := RW.of_own (ws := ws ++ [(q, t)]) HO4.out (by simp) (by rw [rows_snoc]) (by simp)
    have hne1 := hrow4.apart K4.out (by decide)
    have hne2 := hrow4.apart Z4.out (by decide)
    have HF := Lib.hid (And.intro hrow4 (And.intro hne1 hne2))
    clear hrow4 hne1 hne2
    refine bodyPost_ret (v := .tuple #[RD ⟨last, ws ++ [(q, t)], on, ar, sy, ct⟩ (.slice (some ⟨g4, 0, none⟩) (ws.length + 1) cap4), .int .i64 0]) (by simp [results, Try.results83, go_sem, RD, z0, z1, z2, z3, z4, z5]) rfl ?_
    exact ⟨_, rfl, (HF.out.1.set1 HF.out.2.1 _).set6 HF.out.2.2 _ _ _ _ _ _, below6 (B4.out.setCell (p := ⟨w.heap.size, 1, none⟩) (Nat.le_refl _) _) (Nat.le_succ _) _ _ _ _ _ _⟩
theorem rPut_calls (n : Nat) (s : DSt) (v : Value) (k : Int) (t : ByteArray) (hs : Good n s) (w : World) (hr : RW v s.wait w) :
    Calls Try.prog 83 #[RD s v, .int .i64 k, .string t] w (RPost2 (wrote s k t) (ans s k t) w) := by
  have hl : s.last.length ≤ 262144 := by have := hs.len; have := hs.hn; omega
  by_cases h : ans s k t = 0
  · obtain ⟨h1, h2⟩ := ans_zero h
    obtain ⟨_, h3, _⟩ := chk_zero h1
    have e : wrote s k t = { s with wait := s.wait ++ [(k.toNat, t)] } := by unfold wrote; rw [if_pos h]
    rw [e, h]
    obtain ⟨q, rfl⟩ := Int.eq_ofNat_of_zero_le h3
    exact rPut_yes s v q t h1 h2 hl hs.many w hr
  · rw [wrote_no s k t h]
    exact rPut_no s v k t h hl w hr
end Go.Proofs.Ytopacbmdoognjaa.Disk
/- The walk of disk.Disk.Read. -/
namespace Go.Proofs.Ytopacbmdoognjaa.Disk
open Go Go.RowKit Frame
/-- A block of 64 bytes of a disk. -/
def blk (l : List UInt8) (k : Nat) : List UInt8 := (l.drop (64 * k)).take 64
theorem blk_length (l : List UInt8) (k n : Nat) (hl : l.length = 64 * n) (hk : k < n) : (blk l k).length = 64 := by unfold blk; simp; omega
theorem blk_put (l : List UInt8) (k n : Nat) (d : List UInt8) (hl : l.length = 64 * n) (hk : k < n) (hd : d.length ≤ 64) : blk (put l k d) k = d ++ (blk l k).drop d.length := by
  unfold blk put
  have h1 : (l.take (64 * k)).length = 64 * k := by simp; omega
  rw [List.drop_append_of_le_length (by omega), List.drop_of_length_le (by omega), List.nil_append, List.take_append, List.take_of_length_le hd]
  congr 1
  rw [List.drop_take, List.drop_drop]
theorem size1U8 : (Try.prog.info? 5).map (·.size) = some 1 := by
  have h := infoU8
  simp only [Option.map_eq_some_iff] at h ⊢
  obtain ⟨i, hi, he⟩ := h
  simp only [Prod.mk.injEq] at he
  exact ⟨i, hi, he.2.1⟩
/-- What Read has gathered of some of the writes. -/
structure ReadI (last : List UInt8) (ws : List Wr) (q k : Nat) (w wr : World) : Prop where
  has : Has w.heap.size (bcells (blk (all last (ws.take k)) q)) 128 wr
  bel : Below w.heap.size w wr
theorem setCells_has {b : Nat} {l d : List UInt8} {t : TypeId} {w : World} (h : Has b (bcells l) t w) (hl : d.length ≤ l.length) : Has b (bcells (d ++ l.drop d.length)) t (w.setCells b 0 (d.map fun x : UInt8 => Value.int .u8 (x.toNat : Int))) := by
  have := Has.setCells (d.map fun x : UInt8 => Value.int .u8 (x.toNat : Int)) 0 _ _ h (by simpa using hl)
  simpa [bcells, List.map_drop] using this
theorem setCells_below {B b o : Nat} {a w : World} (h : Below B a w) (hb : B ≤ b) (hB : B ≤ w.heap.size) (vs : List Value) : Below B a (w.setCells b o vs) :=
  Only.to_below h (Only.setCells vs o _ (Only.refl b w)) hb hB
theorem all_snoc (s : List UInt8) (ws : List Wr) (b : Nat) (t : ByteArray) : all s (ws ++ [(b, t)]) = put (all s ws) b t.data.toList := by
  rw [all_append]
  rfl
set_option maxRecDepth 100000 in
set_option maxHeartbeats 2000000 in
theorem Read_yes (base d L n : Nat) (wv : Value) (s : DSt) (q : Nat) (hc : chk s q = 0) (hs : Good n s) (w : World) (h : Dk base d L wv s w) :
    Calls Try.prog 54 #[.pointer (some ⟨d, 0, none⟩), .int .i64 (q : Int)] w fun e w' => e = .returned (.tuple #[.string (Oct.bs (blk (all s.last s.wait) q)), .int .i64 0]) ∧ Below w.heap.size w w' := by
  have hl : s.last.length ≤ 262144 := by have := hs.len; have := hs.hn; omega
  have HC := Lib.hid (check_calls base d L wv s q hl _ h)
  rw [hc] at HC
  have hqn : q < n := by
    obtain ⟨_, _, h4⟩ := chk_zero hc
    have := hs.len
    omega
  have hll := hs.len
  have hn := hs.hn
  have HG := Lib.hid hs
  have H := Lib.hid h
  have hLw := h.l.lt
  have hdw := h.h.lt
  have HBL := Lib.hid (blk_length s.last q n hs.len hqn)
  clear hs h hc
  go_enter Try.func54, Try.ntmps54
  go_wp2_with fail
  refine HC.out.mono ?_
  rintro e w1 ⟨rfl, rfl⟩
  have e1 : IntKind.i64.wrap ((q : Int) * 64) = (q : Int) * 64 := IntWalk.i64_in _ (by omega)
  have hk0 : (0 : Int) ≤ (q : Int) * 64 := by omega
  have hk1 : (q : Int) * 64 ≤ 64 * (n : Int) := by omega
  have hk2 : (q : Int) * 64 < 64 * (n : Int) := by omega
  have hk3 : q * 64 < 64 * n := by omega
  have hk5 : ((q : Int) * 64).toNat = q * 64 := by omega
  have hk6 : ¬ 64 * n = q * 64 := by omega
  have hk4 : q * 64 ≤ 64 * n := by omega
  go_wp2_with fail
  change Code.wp _ _ _ _ (w.alloc (.cells (bcells (List.replicate 64 0)) 128))
  have HW1 := Lib.hid (Has.new w (bcells (List.replicate 64 0)) 128)
  have HB1 := Lib.hid ((Below.refl w.heap.size w).alloc (Nat.le_refl _) (.cells (bcells (List.replicate 64 0)) 128))
  generalize w.alloc (.cells (bcells (List.replicate 64 0)) 128) = w1 at *
  have H1 := Lib.hid (H.out.below HB1.out)
  have y0 : w1.drew.cell? ⟨d, 0, none⟩ = some (.slice (some ⟨L, 0, none⟩) s.last.length s.last.length) := H1.out.c0
  have hcs : ((blk s.last q).map fun x : UInt8 => Value.int .u8 (x.toNat : Int)).length = 64 := by rw [List.length_map]; exact HBL.out
  have HCP := Lib.hid (run_copy_cells (P := Try.prog) w1.drew 103 103 3 5 w.heap.size 0 64 64 ⟨L, q * 64, none⟩ (64 * n - q * 64) (64 * n - q * 64) ((blk s.last q).map fun x : UInt8 => Value.int .u8 (x.toNat : Int)) Try.underlying103 size1U8
    (by rw [hcs]; show 64 = min (64 * n - q * 64) 64; omega)
    (fun j v hj => by
      have hadd : (⟨L, q * 64, none⟩ : Addr).add j = ⟨L, q * 64 + j, none⟩ := by unfold Addr.add; split <;> simp_all
      rw [hadd, H1.out.l.drew.cell]
      have hjl : j < 64 := by
        rcases Nat.lt_or_ge j 64 with h | h
        · exact h
        · rw [List.getElem?_eq_none (by rw [hcs]; exact h)] at hj; cases hj
      rw [← hj]
      simp only [bcells, blk, List.getElem?_toArray, List.getElem?_map, List.getElem?_take_of_lt hjl, List.getElem?_drop]
      rw [Nat.mul_comm q 64])
    (fun j hj => by
      rw [hcs] at hj
      rw [HW1.out.drew.cell, Array.getElem?_eq_getElem (by simp [bcells]; omega)]
      rfl)
    (fun j _ => HW1.out.drew.frozen _)
    (fun v hv => by
      rw [List.mem_map] at hv
      obtain ⟨x, _, rfl⟩ := hv
      rfl))
  clear hcs
  have hsz1 : w.heap.size ≤ w1.drew.heap.size := HB1.out.size
  have z0 := ((Only.setCells ((blk s.last q).map fun x : UInt8 => Value.int .u8 (x.toNat : Int)) 0 _ (Only.refl w.heap.size w1.drew)).cell (p := ⟨d, 0, none⟩) (by show d < _; omega) (by show d ≠ _; omega)).trans y0
  have Z0 := Lib.hid z0
  clear z0
  go_wp2_with fail
  go_region_held3 (fun w' => w'.cell? ⟨d, 0, none⟩ = some (.slice (some ⟨L, 0, none⟩) s.last.length s.last.length)) (first | exact y0 | exact Z0.out)
    ((refine step_copy_runI rfl _ _ _ _ (by rfl) _ _ (by rfl) (by rfl) HCP.out ?_))
  have HI := Lib.hid (show ReadI s.last s.wait q 0 w (w1.drew.setCells w.heap.size 0 ((blk s.last q).map fun x : UInt8 => Value.int .u8 (x.toNat : Int))) from
    ⟨by
      have h := setCells_has HW1.out.drew (d := blk s.last q) (by rw [HBL.out]; simp)
      rw [HBL.out, List.drop_of_length_le (by simp), List.append_nil] at h
      exact h, setCells_below HB1.out.drew (Nat.le_refl _) hsz1 _⟩)
  clear HW1 y0 Z0 HCP
  generalize w1.drew.setCells w.heap.size 0 ((blk s.last q).map fun x : UInt8 => Value.int .u8 (x.toNat : Int)) = w2 at *
  obtain ⟨A, cap, rfl, hrow⟩ := H.out.row
  have HR := Lib.hid hrow
  have c1 := (HI.out.bel.cell (p := ⟨d, 1, none⟩) hdw).trans H.out.c1
  have hmn := HG.out.many
  clear hrow
  go_wp2_with fail
  go_loopw [30] (fun i wr => ∃ k : Nat, k ≤ s.wait.length ∧ i = .int .i64 k ∧ Hid (ReadI s.last s.wait q k w wr)) (fun i _ => s.wait.length - (intOf i).toNat)
  case atStart => exact ⟨0, by omega, rfl, HI⟩
  case round =>
    obtain ⟨k, hk, rfl, hI⟩ := hrel
    by_cases hlt : k < s.wait.length
    · obtain ⟨g, rfl, hg, hi⟩ := HR.out (by omega)
      obtain ⟨r0, r1⟩ := hi k hlt
      have hcc := fun o => hI.out.bel.cell (p := ⟨g, o, none⟩) hg
      rw [← hcc] at r0 r1
      clear hi hcc
      have hfx := HG.out.fits _ (show s.wait.getD k (0, ByteArray.empty) ∈ s.wait by simp [List.getD_eq_getElem?_getD, hlt])
      have HS := Lib.hid (take_snoc s.wait k hlt)
      have hal := all_length n (s.wait.take k) s.last HG.out.len (fun x hx => HG.out.fits x (List.mem_of_mem_take hx))
      have HAL := Lib.hid hal
      clear hal
      generalize s.wait.getD k (0, ByteArray.empty) = x at *
      obtain ⟨b, t⟩ := x
      simp only at hfx r0 r1
      by_cases hb : b = q
      · subst hb
        have HBL2 := Lib.hid (blk_length _ b n HAL.out hqn)
        have hX : Has wr.heap.size #[.int .i64 (b : Int), .string t] 115 (wr.alloc (.cells #[.int .i64 (b : Int), .string t] 115)).drew := (Has.new _ _ _).drew
        have hRX : Has w.heap.size (bcells (blk (all s.last (s.wait.take k)) b)) 128 (wr.alloc (.cells #[.int .i64 (b : Int), .string t] 115)).drew := (hI.out.has.alloc _).drew
        have x1 := hX.cell 1
        have hwr := hI.out.has.lt
        have z1 := ((Only.setCells (t.data.toList.map fun x : UInt8 => Value.int .u8 (x.toNat : Int)) 0 _ (Only.refl w.heap.size (wr.alloc (.cells #[.int .i64 (b : Int), .string t] 115)).drew)).cell (p := ⟨wr.heap.size, 1, none⟩) hX.lt (by show wr.heap.size ≠ _; omega)).trans x1
        have hcl : ∀ j, j < t.size → ((wr.alloc (.cells #[.int .i64 (b : Int), .string t] 115)).drew.cell? ⟨w.heap.size, 0 + j, none⟩).isSome = true := fun j hj => by
          rw [hRX.cell, Array.getElem?_eq_getElem (by simp only [bcells, List.size_toArray, List.length_map, HBL2.out]; omega)]
          rfl
        have hfl : ∀ j, j < t.size → (wr.alloc (.cells #[.int .i64 (b : Int), .string t] 115)).drew.frozen? ⟨w.heap.size, 0 + j, none⟩ = false := fun j _ => hRX.frozen _
        have HCL := Lib.hid hcl
        have HFL := Lib.hid hfl
        have Z1 := Lib.hid z1
        have HT64 := Lib.hid hfx.2
        have HJ := Lib.hid (show ReadI s.last s.wait b (k + 1) w ((wr.alloc (.cells #[.int .i64 (b : Int), .string t] 115)).drew.setCells w.heap.size 0 (t.data.toList.map fun x : UInt8 => Value.int .u8 (x.toNat : Int))) from
          ⟨by
            rw [HS.out, all_snoc, blk_put _ b n _ HAL.out hqn (by simpa using hfx.2)]
            exact setCells_has hRX (by rw [HBL2.out]; simpa using hfx.2), setCells_below ((hI.out.bel.alloc hI.out.bel.size _).drew) (Nat.le_refl _) (by have := hRX.lt; omega) _⟩)
        clear hcl hfl z1 hX hRX
        go_wp2_with fail
        go_region_held3 (fun w' => w'.cell? ⟨wr.heap.size, 1, none⟩ = some (.string t)) (first | exact x1 | exact Z1.out)
          ((refine step_copy_string rfl _ _ _ _ (by rfl) 5 Try.underlying103 sizeU8 w.heap.size 0 64 64 (by rfl) t (by rfl) HT64.out HCL.out HFL.out ?_))
        clear x1 Z1 HCL HFL
        generalize (wr.alloc (.cells #[.int .i64 (b : Int), .string t] 115)).drew.setCells w.heap.size 0 (t.data.toList.map fun x : UInt8 => Value.int .u8 (x.toNat : Int)) = w5 at *
        go_wp2_with fail
        exact ⟨⟨k + 1, by omega, by go_num, HJ⟩, by simp [intOf]; omega⟩
      · have hb' : ((b : Int) == (q : Int)) = false := by simp; omega
        have HJ := Lib.hid (show ReadI s.last s.wait q (k + 1) w (wr.alloc (.cells #[.int .i64 (b : Int), .string t] 115)) from
          ⟨by
            rw [HS.out, all_snoc, show blk (put (all s.last (s.wait.take k)) b t.data.toList) q = blk (all s.last (s.wait.take k)) q from
              put_other _ b _ n q HAL.out hfx.1 (by simpa using hfx.2) (fun e => hb e.symm)]
            exact hI.out.has.alloc _, hI.out.bel.alloc hI.out.bel.size _⟩)
        clear hb
        go_wp2_with fail
        exact ⟨⟨k + 1, by omega, by go_num, HJ⟩, by simp [intOf]; omega⟩
    · obtain rfl : k = s.wait.length := by omega
      have hw := hI.out.has
      rw [List.take_length] at hw
      have hal := all_length n s.wait s.last HG.out.len HG.out.fits
      have hbl := blk_length _ q n hal hqn
      generalize hrr : blk (all s.last s.wait) q = r at *
      have HRR := Lib.hid hrr
      clear hrr
      have hby : Lib.Bytes wr w.heap.size 0 (Oct.bs r) := fun i hi => by
        rw [hw.cell]
        have hi' : i < r.length := by rw [← Oct.bs_size]; exact hi
        simp only [bcells, Nat.zero_add, List.getElem?_toArray, List.getElem?_map, List.getElem?_eq_getElem hi', Option.map_some]
        rfl
      have hcv := Lib.run_convert_whole (P := Try.prog) wr 103 5 9 Try.underlying103 Try.underlying5 Try.underlying9 w.heap.size 0 (Oct.bs r) hby 64
      rw [Oct.bs_size, hbl] at hcv
      clear hby hw hal hbl
      go_wp2_with fail
      go_ret2
      rw [HRR.out]
      exact ⟨rfl, hI.out.bel⟩
end Go.Proofs.Ytopacbmdoognjaa.Disk
