/- The walks of disk.Disk.Up, Lasts, Down and Sync. -/
import Derived.Test.YtopacbmdoognjaaDoorDiskDoWalk
import Derived.Test.YtopacbmdoognjaaDoorPlain
import Derived.Lib.SlBytesRow
namespace Go.Proofs.YtopacbmdoognjaaDoor.Disk
open Go Go.RowKit Frame
/-- A disk's numbers are in range. -/
structure Good (n : Nat) (s : DSt) : Prop where
  fits : Fits n s.wait
  len : s.last.length = 64 * n
  hn : n ≤ 4096
  many : s.wait.length ≤ 100000
  syncs : 0 ≤ s.syncs ∧ s.syncs ≤ 9223372036854775807
  cut : 0 ≤ s.cut ∧ s.cut ≤ 9223372036854775807
def down (s : DSt) (c : Int) : DSt := if s.on then { s with last := done s.last s.wait c, wait := [], on := false } else s
def synced (s : DSt) : DSt × Int :=
  if s.on then (if s.armed && s.syncs == 0 then (down s s.cut, 16) else ({ s with last := all s.last s.wait, wait := [], syncs := max 0 (s.syncs - 1) }, 0)) else (s, 16)
def DPost (base d L : Nat) (wv : Value) (s' : DSt) (v : Value) (w : World) (e : Ending) (w' : World) : Prop :=
  ∃ wv', e = .returned v ∧ Dk base d L wv' s' w' ∧ Turn (Foot d L wv) w w' ∧ Held wv wv' w
theorem Held.refl (wv : Value) (w : World) : Held wv wv w := .inl rfl
section
variable {base d L : Nat} {wv : Value} {s : DSt} {w : World}
theorem Only.turn {d L : Nat} {wv : Value} {w w' : World} (h : Only d w w') : Turn (Foot d L wv) w w' := ⟨h.os, h.tape, h.output, h.size, fun k hk hne => h.block k hk fun e => hne (.inl e)⟩
theorem Dk.below (h : Dk base d L wv s w) {w' : World} (hb : Below w.heap.size w w') : Dk base d L wv s w' := by
  refine ⟨h.h.below hb, h.l.below hb, ?_, h.ne, h.hb⟩
  obtain ⟨hlen, hv⟩ := h.v
  refine ⟨hlen, ?_⟩
  rcases hv with hv | ⟨g, cap, cur, rfl, hb', hg, hr⟩
  · exact .inl hv
  · exact .inr ⟨g, cap, cur, rfl, hb', (hb.block g (Has.lt (cs := cur) hg)).trans hg, hr⟩
end
set_option maxHeartbeats 1000000 in
theorem Up_calls (base d L : Nat) (wv : Value) (s : DSt) (w : World) (h : Dk base d L wv s w) :
    Calls Tryd.prog 72 #[.pointer (some ⟨d, 0, none⟩)] w fun e w' => e = .returned (.tuple #[]) ∧ Dk base d L wv (upped s) w' ∧ Only d w w' := by
  have c2 := h.c2
  have f2 := h.h.frozen 2
  have f3 := h.h.frozen 3
  have f4 := h.h.frozen 4
  have f5 := h.h.frozen 5
  have c3 := h.c3
  have c4 := h.c4
  have c5 := h.c5
  have H := Lib.hid h
  clear h
  cases ho : s.on with
  | true =>
    have HE := Lib.hid (show upped s = s by simp [upped, ho])
    rw [ho] at c2
    clear ho
    go_enter Tryd.func72, Tryd.ntmps72
    go_wp2_with fail
    go_end0
    exact ⟨rfl, by rw [HE.out]; exact H.out, Only.refl _ _⟩
  | false =>
    have HF := Lib.hid (show Dk base d L wv (upped s) ((((w.setCell ⟨d, 2, none⟩ (.bool true)).setCell ⟨d, 3, none⟩ (.bool false)).setCell ⟨d, 4, none⟩ (.int .i64 0)).setCell ⟨d, 5, none⟩ (.int .i64 0)) by
      rw [show upped s = { s with on := true, armed := false, syncs := 0, cut := 0 } by simp [upped, ho]]
      refine H.out.stored rfl rfl ?_ (((((Only.refl _ _).set _).set _).set _).set _)
      have := (((H.out.h.set (i := 2) (.bool true)).set (i := 3) (.bool false)).set (i := 4) (.int .i64 0)).set (i := 5) (.int .i64 0)
      simpa using this)
    rw [ho] at c2
    clear ho
    go_enter Tryd.func72, Tryd.ntmps72
    go_wp2_with fail
    go_end0
    exact ⟨rfl, HF.out, ((((Only.refl _ _).set _).set _).set _).set _⟩
set_option maxHeartbeats 1000000 in
theorem Lasts_calls (base d L : Nat) (wv : Value) (s : DSt) (w : World) (h : Dk base d L wv s w) :
    Calls Tryd.prog 62 #[.pointer (some ⟨d, 0, none⟩)] w fun e w' => e = .returned (.string (Oct.bs s.last)) ∧ w = w' := by
  have c0 := h.c0
  have hb : Lib.Bytes w L 0 (Oct.bs s.last) := fun i hi => by
    rw [h.l.cell]
    have hi' : i < s.last.length := by rw [← Oct.bs_size]; exact hi
    simp only [bcells, Nat.zero_add, List.getElem?_toArray, List.getElem?_map, List.getElem?_eq_getElem hi', Option.map_some]
    rfl
  have hcv := Lib.run_convert_whole (P := Tryd.prog) w 32 5 9 Tryd.underlying32 Tryd.underlying5 Tryd.underlying9 L 0 (Oct.bs s.last) hb s.last.length
  rw [Oct.bs_size] at hcv
  clear h hb
  go_enter Tryd.func62, Tryd.ntmps62
  go_wp2
  go_ret
  exact ⟨rfl, rfl⟩
set_option maxHeartbeats 1000000 in
theorem Down_calls (base d L n : Nat) (wv : Value) (s : DSt) (c : Int) (hc : -9223372036854775808 ≤ c ∧ c ≤ 9223372036854775807) (hs : Good n s) (w : World) (h : Dk base d L wv s w) :
    Calls Tryd.prog 60 #[.pointer (some ⟨d, 0, none⟩), .int .i64 c] w (DPost base d L wv (down s c) (.tuple #[]) w) := by
  have c2 := h.c2
  have hdw := h.h.lt
  cases ho : s.on with
  | false =>
    have HE := Lib.hid (show down s c = s by simp [down, ho])
    have H := Lib.hid h
    clear h
    rw [ho] at c2
    clear ho
    go_enter Tryd.func60, Tryd.ntmps60
    go_wp2_with fail
    go_end0
    exact ⟨wv, rfl, by rw [HE.out]; exact H.out, Turn.refl _ _, Held.refl _ _⟩
  | true =>
    have HE := Lib.hid (show down s c = { s with last := done s.last s.wait c, wait := [], on := false } by simp [down, ho])
    have HG := Lib.hid hs
    have HO := Lib.hid ho
    rw [ho] at c2
    clear ho hs
    go_enter Tryd.func60, Tryd.ntmps60
    go_wp2_with fail
    refine (do_calls base d L n wv s c hc HG.out.fits HG.out.many HG.out.len HG.out.hn _ h).mono ?_
    rintro e w1 ⟨rfl, h1, t1⟩
    have d2 := h1.c2
    have g2 := h1.h.frozen 2
    have H1 := Lib.hid h1
    have T1 := Lib.hid t1
    clear h1 t1 h c2
    go_wp2_with fail
    go_end0
    refine ⟨.slice none 0 0, rfl, ?_, T1.out.setCell (.inl (.inl rfl)) _, .inr (.inl rfl)⟩
    rw [HE.out]
    refine H1.out.stored rfl rfl ?_ ((Only.refl _ _).set _)
    have := H1.out.h.set (i := 2) (.bool false)
    simpa using this
theorem synced_off (s : DSt) (h : s.on = false) : synced s = (s, 16) := by simp [synced, h]
theorem synced_gone (s : DSt) (h : s.on = true) (ha : s.armed = true) (hz : s.syncs = 0) : synced s = (down s s.cut, 16) := by simp [synced, h, ha, hz]
theorem synced_on (s : DSt) (h : s.on = true) (ha : s.armed = false ∨ s.syncs ≠ 0) : synced s = ({ s with last := all s.last s.wait, wait := [], syncs := max 0 (s.syncs - 1) }, 0) := by
  unfold synced
  rw [if_pos h, if_neg]
  rcases ha with ha | ha
  · simp [ha]
  · simp [ha]
set_option maxRecDepth 100000 in
set_option maxHeartbeats 1000000 in
/-- Sync, on, no power goes. -/
theorem Sync_on (base d L n : Nat) (wv : Value) (s : DSt) (hs : Good n s) (ho : s.on = true) (ha : s.armed = false ∨ s.syncs ≠ 0) (w : World) (h : Dk base d L wv s w) :
    Calls Tryd.prog 58 #[.pointer (some ⟨d, 0, none⟩)] w (DPost base d L wv { s with last := all s.last s.wait, wait := [], syncs := max 0 (s.syncs - 1) } (.int .i64 0) w) := by
  have c2 := h.c2
  have c3 := h.c3
  have c4 := h.c4
  have f4 := h.h.frozen 4
  have H := Lib.hid h
  have HG := Lib.hid hs
  rw [ho] at c2
  have hsy := hs.syncs
  obtain ⟨m, hm⟩ : ∃ m : Int, max 0 (s.syncs - 1) = m := ⟨_, rfl⟩
  have HM := Lib.hid hm
  have hD := HG.out.fits
  have HD := Lib.hid hD
  have h1 : Dk base d L wv { s with syncs := m } (w.setCell ⟨d, 4, none⟩ (.int .i64 m)) := by
    refine h.stored rfl rfl ?_ ((Only.refl _ _).set _)
    have := h.h.set (i := 4) (.int .i64 m)
    simpa using this
  have H1 := Lib.hid h1
  have HO := Lib.hid ho
  clear hs h h1 hD ho
  have fin : ∀ (w2 w3 : World), Below (w.setCell ⟨d, 4, none⟩ (.int .i64 m)).heap.size (w.setCell ⟨d, 4, none⟩ (.int .i64 m)) w2 → Dk base d L (.slice none 0 0) { s with last := done s.last s.wait (total s.wait), wait := [], syncs := m } w3 → Turn (Foot d L wv) w2 w3 →
      DPost base d L wv { s with last := all s.last s.wait, wait := [], syncs := max 0 (s.syncs - 1) } (.int .i64 0) w (.returned (.int .i64 0)) w3 := by
    intro w2 w3 hb hd ht
    refine ⟨.slice none 0 0, rfl, ?_, ?_, .inr (.inl rfl)⟩
    · rw [HM.out, ← done_all s.wait s.last (total s.wait) (Int.le_refl _)]
      exact hd
    · have t1 : Turn (Foot d L wv) w (w.setCell ⟨d, 4, none⟩ (.int .i64 m)) := (Turn.refl _ _).setCell (.inl (.inl rfl)) _
      exact (t1.below hb).trans ht fun _ _ h => h
  have HF := Lib.hid fin
  clear fin
  have htot := total_le n s.wait HD.out
  have hmany := HG.out.many
  rcases (Bool.eq_false_or_eq_true s.armed).symm with hA | hA
  · rw [hA] at c3
    clear hA ha
    go_enter Tryd.func58, Tryd.ntmps58
    go_wp2_with fail
    refine (Waits_calls base d L n wv { s with syncs := m } HD.out hmany _ H1.out).mono ?_
    rintro e w2 ⟨rfl, hb⟩
    have HB := Lib.hid hb
    clear hb
    go_wp2_with fail
    refine (do_calls base d L n wv { s with syncs := m } (total s.wait) ⟨by omega, by omega⟩ HD.out hmany HG.out.len HG.out.hn _ (H1.out.below HB.out)).mono ?_
    rintro e w3 ⟨rfl, h3, t3⟩
    have H3 := Lib.hid h3
    have T3 := Lib.hid t3
    clear h3 t3
    go_wp2_with fail
    go_ret
    exact HF.out w2 w3 HB.out H3.out T3.out
  · rw [hA] at c3
    have hz : (s.syncs == 0) = false := by rcases ha with ha | ha <;> simp_all
    clear hA ha
    go_enter Tryd.func58, Tryd.ntmps58
    go_wp2_with fail
    refine (Waits_calls base d L n wv { s with syncs := m } HD.out hmany _ H1.out).mono ?_
    rintro e w2 ⟨rfl, hb⟩
    have HB := Lib.hid hb
    clear hb
    go_wp2_with fail
    refine (do_calls base d L n wv { s with syncs := m } (total s.wait) ⟨by omega, by omega⟩ HD.out hmany HG.out.len HG.out.hn _ (H1.out.below HB.out)).mono ?_
    rintro e w3 ⟨rfl, h3, t3⟩
    have H3 := Lib.hid h3
    have T3 := Lib.hid t3
    clear h3 t3
    go_wp2_with fail
    go_ret
    exact HF.out w2 w3 HB.out H3.out T3.out
set_option maxRecDepth 100000 in
set_option maxHeartbeats 1000000 in
theorem Sync_any (base d L n : Nat) (wv : Value) (s : DSt) (hs : Good n s) (w : World) (h : Dk base d L wv s w) :
    Calls Tryd.prog 58 #[.pointer (some ⟨d, 0, none⟩)] w (DPost base d L wv (synced s).1 (.int .i64 (synced s).2) w) := by
  by_cases ho : s.on = true
  · by_cases ha : s.armed = false ∨ s.syncs ≠ 0
    · rw [synced_on s ho ha]
      exact Sync_on base d L n wv s hs ho ha w h
    · have h1 : s.armed = true := by simp at ha; exact ha.1
      have h2 : s.syncs = 0 := by simp at ha; exact ha.2
      rw [synced_gone s ho h1 h2]
      have c2 := h.c2
      have c3 := h.c3
      have c4 := h.c4
      have c5 := h.c5
      rw [ho] at c2
      rw [h1] at c3
      rw [h2] at c4
      clear ho ha h1 h2
      go_enter Tryd.func58, Tryd.ntmps58
      go_wp2_with fail
      refine (Down_calls base d L n wv s s.cut ⟨by have := hs.cut; omega, by have := hs.cut; omega⟩ hs _ h).mono ?_
      rintro e w2 ⟨wv', rfl, h2, t2, k2⟩
      have H2 := Lib.hid (And.intro h2 (And.intro t2 k2))
      clear h2 t2 k2 c2 c3 c4 c5
      go_wp2_with fail
      go_ret
      exact ⟨wv', rfl, H2.out.1, H2.out.2.1, H2.out.2.2⟩
  · have ho : s.on = false := by simpa using ho
    rw [synced_off s ho]
    have c2 := h.c2
    rw [ho] at c2
    clear ho
    go_enter Tryd.func58, Tryd.ntmps58
    go_wp2_with fail
    go_ret
    exact ⟨wv, rfl, h, Turn.refl _ _, Held.refl _ _⟩
end Go.Proofs.YtopacbmdoognjaaDoor.Disk
