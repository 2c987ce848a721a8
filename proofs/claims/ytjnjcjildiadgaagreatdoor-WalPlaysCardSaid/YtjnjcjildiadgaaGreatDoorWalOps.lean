/- The log, plainly: what each of its methods does to it and to its disk. -/
import Derived.Test.YtjnjcjildiadgaaGreatDoorPlain
import Derived.Test.YtjnjcjildiadgaaGreatDoorDiskTwo
namespace Go.Proofs.YtjnjcjildiadgaaGreatDoor.Wl
open Go Oct Disk
structure LSt where
  area : Int
  gen : Nat
  ready : Bool
  broken : Bool
  done : List UInt8
  wait : List UInt8
def brk (l : LSt) : LSt := { l with ready := false, broken := true }
/-- Blocks are written, and synced. -/
def putS (s : DSt) (a n : Nat) (x : List UInt8) : DSt × Int := if s.on then synced { s with wait := wrs a x n } else (s, 16)
/-- A log as it is opened. -/
def openL (h : Nat) (last : List UInt8) : LSt := ⟨(opened h last).area, (opened h last).gen, false, false, [], []⟩
def beginE (l : LSt) (h : Nat) (img : List UInt8) : Int :=
  if l.broken then 21 else if (Sg.bytes [img]).2 ≠ 0 then (Sg.bytes [img]).2 else if 64 * (h - 1) < (Sg.bytes [img]).1.length then 17 else if l.gen = 18446744073709551615 then 18 else 0
def beginS (s : DSt) (l : LSt) (h : Nat) (img : List UInt8) : DSt × LSt × Int :=
  if beginE l h img ≠ 0 then (s, l, beginE l h img) else
  let p1 := putS s (h * tgt l.area) 1 (noughts 64)
  if p1.2 ≠ 0 then (p1.1, brk l, p1.2) else
  let p2 := putS p1.1 (h * tgt l.area + 1) (h - 1) (pad (Sg.one img) (h - 1))
  if p2.2 ≠ 0 then (p2.1, brk l, p2.2) else
  let p3 := putS p2.1 (h * tgt l.area) 1 (pad (headOf (l.gen + 1)) 1)
  if p3.2 ≠ 0 then (p3.1, brk l, p3.2) else (p3.1, ⟨(tgt l.area : Nat), l.gen + 1, true, false, Sg.one img, []⟩, 0)
def checkE (l : LSt) : Int := if l.broken then 21 else if l.ready then 0 else 13
def room (l : LSt) (h : Nat) : Int := if l.ready then 64 * ((h : Int) - 1) - l.done.length - l.wait.length else 0
def appendS (l : LSt) (h : Nat) (rs : List (List UInt8)) : LSt × Int :=
  if checkE l ≠ 0 then (l, checkE l) else if (Sg.bytes rs).2 ≠ 0 then (l, (Sg.bytes rs).2) else if room l h < (Sg.bytes rs).1.length then (l, 17) else ({ l with wait := l.wait ++ (Sg.bytes rs).1 }, 0)
/-- How many blocks a Commit writes, from which one on, and what. -/
def from_ (l : LSt) : Nat := l.done.length / 64
def text (l : LSt) : List UInt8 := l.done.drop (64 * from_ l) ++ l.wait
def many (l : LSt) : Nat := ((text l).length + 63) / 64
def commitS (s : DSt) (l : LSt) (h : Nat) : DSt × LSt × Int :=
  if checkE l ≠ 0 then (s, l, checkE l) else if l.wait = [] then (s, l, 0) else
  let p := putS s (h * l.area.toNat + (1 + from_ l)) (many l) (pad (text l) (many l))
  if p.2 ≠ 0 then (p.1, brk l, p.2) else (p.1, { l with done := l.done ++ l.wait, wait := [] }, 0)
/-- A log and its disk between two calls. -/
structure LInv (n : Nat) (s : DSt) (l : LSt) : Prop where
  good : Disk.Good n s
  wait : s.wait = []
  four : 4 ≤ n
  area : -1 ≤ l.area ∧ l.area ≤ 1
  gen : l.gen < 18446744073709551616
  rm : l.done.length + l.wait.length ≤ 64 * (n / 2 - 1)
  ready : l.ready = true → 0 ≤ l.area ∧ l.broken = false
theorem putS_good {n : Nat} {s : DSt} (hs : Disk.Good n s) (a m : Nat) (x : List UInt8) (ha : a + m ≤ n) : Disk.Good n { s with wait := wrs a x m } :=
  ⟨wrs_fits a n x m ha, hs.len, hs.hn, by have := hs.hn; simp only [wrs_length]; omega, hs.syncs, hs.cut⟩
/-- A put, as it comes out: all of it, or a beginning. -/
theorem putS_out {n : Nat} {s : DSt} (hs : Disk.Good n s) (hw : s.wait = []) (a m : Nat) (x : List UInt8) (ha : a + m ≤ n) (hx : x.length = 64 * m) :
    Disk.Good n (putS s a m x).1 ∧ (putS s a m x).1.wait = [] ∧
    ((s.on = false ∧ putS s a m x = (s, 16)) ∨
     (s.on = true ∧ (putS s a m x).2 = 16 ∧ (putS s a m x).1.on = false ∧ ∃ c, c ≤ 64 * m ∧ (putS s a m x).1.last = over s.last (64 * a) (x.take c)) ∨
     (s.on = true ∧ (putS s a m x).2 = 0 ∧ (putS s a m x).1.on = true ∧ (putS s a m x).1.last = over s.last (64 * a) x)) := by
  have hl := hs.len
  have hgw := putS_good hs a m x ha
  rcases Bool.eq_false_or_eq_true s.on with ho | ho
  · by_cases hg : s.armed = true ∧ s.syncs = 0
    · have e : putS s a m x = (down { s with wait := wrs a x m } s.cut, 16) := by
        unfold putS
        rw [if_pos ho]
        exact synced_gone { s with wait := wrs a x m } ho hg.1 hg.2
      have e2 : down { s with wait := wrs a x m } s.cut = { s with last := done s.last (wrs a x m) s.cut, wait := [], on := false } := by
        unfold down
        rw [if_pos (show ({ s with wait := wrs a x m } : DSt).on = true from ho)]
      rw [e, e2, (done_wrs s.last a x s.cut (by omega) m (by omega)).1]
      have hu := upto_le s.cut (64 * m)
      refine ⟨⟨(fun y hy => by cases hy), ?_, hs.hn, Nat.zero_le _, hs.syncs, hs.cut⟩, rfl, .inr (.inl ⟨ho, rfl, rfl, _, hu, rfl⟩)⟩
      show (over s.last (64 * a) _).length = _
      rw [over_length _ _ _ (by simp; omega)]
      exact hl
    · have e : putS s a m x = ({ s with last := all s.last (wrs a x m), wait := [], syncs := max 0 (s.syncs - 1) }, 0) := by
        unfold putS
        rw [if_pos ho]
        refine synced_on { s with wait := wrs a x m } ho ?_
        rcases Bool.eq_false_or_eq_true s.armed with h1 | h1
        · exact .inr fun h2 => hg ⟨h1, h2⟩
        · exact .inl h1
      rw [e, all_wrs s.last a x m (by omega) hx]
      have hsy := hs.syncs
      refine ⟨⟨(fun y hy => by cases hy), ?_, hs.hn, Nat.zero_le _, by show 0 ≤ max 0 (s.syncs - 1) ∧ max 0 (s.syncs - 1) ≤ _; omega, hs.cut⟩, rfl, .inr (.inr ⟨ho, rfl, ho, rfl⟩)⟩
      show (over s.last (64 * a) _).length = _
      rw [over_length _ _ _ (by omega)]
      exact hl
  · have e : putS s a m x = (s, 16) := by unfold putS; rw [ho]; rfl
    exact ⟨by rw [e]; exact hs, by rw [e]; exact hw, .inl ⟨ho, e⟩⟩
theorem bytes_one_ok {img : List UInt8} (h : (Sg.bytes [img]).2 = 0) : Sg.bad img = 0 ∧ (Sg.bytes [img]).1 = Sg.one img := by
  have he : Sg.err [img] = Sg.bad img := by unfold Sg.err; split <;> simp_all [Sg.err]
  unfold Sg.bytes at h ⊢
  by_cases hb : Sg.err [img] ≠ 0
  · rw [if_pos hb] at h; exact absurd h hb
  · rw [if_neg hb]
    refine ⟨by rw [← he]; omega, by simp [Sg.cat]⟩
theorem bytes_ok {rs : List (List UInt8)} (h : (Sg.bytes rs).2 = 0) : Sg.err rs = 0 ∧ (Sg.bytes rs).1 = Sg.cat rs := by
  unfold Sg.bytes at h ⊢
  by_cases hb : Sg.err rs ≠ 0
  · rw [if_pos hb] at h; exact absurd h hb
  · rw [if_neg hb]; exact ⟨by omega, rfl⟩
theorem beginE_ok {l : LSt} {h : Nat} {img : List UInt8} (he : beginE l h img = 0) : l.broken = false ∧ Sg.bad img = 0 ∧ (Sg.bytes [img]).2 = 0 ∧ (Sg.bytes [img]).1 = Sg.one img ∧ (Sg.one img).length ≤ 64 * (h - 1) ∧ l.gen ≠ 18446744073709551615 := by
  unfold beginE at he
  rcases Bool.eq_false_or_eq_true l.broken with hb | hb
  · rw [hb, if_pos rfl] at he; omega
  rw [hb, if_neg (by decide)] at he
  by_cases h1 : (Sg.bytes [img]).2 ≠ 0
  · rw [if_pos h1] at he; exact absurd he h1
  rw [if_neg h1] at he
  by_cases h2 : 64 * (h - 1) < (Sg.bytes [img]).1.length
  · rw [if_pos h2] at he; omega
  rw [if_neg h2] at he
  by_cases h3 : l.gen = 18446744073709551615
  · rw [if_pos h3] at he; omega
  obtain ⟨k1, k2⟩ := bytes_one_ok (show (Sg.bytes [img]).2 = 0 by omega)
  rw [k2] at h2
  exact ⟨hb, k1, by omega, k2, by omega, h3⟩
theorem LInv.brk {n : Nat} {s s' : DSt} {l : LSt} (h : LInv n s l) (hg : Disk.Good n s') (hw : s'.wait = []) : LInv n s' (brk l) := ⟨hg, hw, h.four, h.area, h.gen, h.rm, fun h => by cases h⟩
theorem tgt_mul (h : Nat) (c : Int) : h * tgt c ≤ h := by have := Nat.mul_le_mul_left h (tgt_le c); omega
theorem LInv.begin_ {n : Nat} {s : DSt} {l : LSt} (h : LInv n s l) (img : List UInt8) : LInv n (beginS s l (n / 2) img).1 (beginS s l (n / 2) img).2.1 := by
  have hn := h.four
  have ht := tgt_mul (n / 2) l.area
  unfold beginS
  by_cases he : beginE l (n / 2) img ≠ 0
  · rw [if_pos he]; exact h
  rw [if_neg he]
  obtain ⟨h1, h2, h3, h4, h5, h6⟩ := beginE_ok (show beginE l (n / 2) img = 0 by omega)
  obtain ⟨g1, w1, -⟩ := putS_out h.good h.wait (n / 2 * tgt l.area) 1 (noughts 64) (by omega) (by simp)
  generalize putS s (n / 2 * tgt l.area) 1 (noughts 64) = p1 at *
  by_cases e1 : p1.2 ≠ 0
  · simp only [if_pos e1]; exact h.brk g1 w1
  simp only [if_neg e1]
  obtain ⟨g2, w2, -⟩ := putS_out g1 w1 (n / 2 * tgt l.area + 1) (n / 2 - 1) (pad (Sg.one img) (n / 2 - 1)) (by omega) (pad_length _ _ h5)
  generalize putS p1.1 (n / 2 * tgt l.area + 1) (n / 2 - 1) (pad (Sg.one img) (n / 2 - 1)) = p2 at *
  by_cases e2 : p2.2 ≠ 0
  · simp only [if_pos e2]; exact h.brk g2 w2
  simp only [if_neg e2]
  obtain ⟨g3, w3, -⟩ := putS_out g2 w2 (n / 2 * tgt l.area) 1 (pad (headOf (l.gen + 1)) 1) (by omega) (pad_length _ _ (by rw [headOf_length]; omega))
  generalize putS p2.1 (n / 2 * tgt l.area) 1 (pad (headOf (l.gen + 1)) 1) = p3 at *
  by_cases e3 : p3.2 ≠ 0
  · simp only [if_pos e3]; exact h.brk g3 w3
  simp only [if_neg e3]
  have hg := h.gen
  refine ⟨g3, w3, hn, ?_, by show l.gen + 1 < _; omega, by show (Sg.one img).length + 0 ≤ _; omega, fun _ => ⟨by show (0 : Int) ≤ (tgt l.area : Nat); omega, rfl⟩⟩
  have := tgt_le l.area
  show -1 ≤ ((tgt l.area : Nat) : Int) ∧ ((tgt l.area : Nat) : Int) ≤ 1
  omega
theorem checkE_ok {l : LSt} (h : checkE l = 0) : l.broken = false ∧ l.ready = true := by
  unfold checkE at h
  rcases Bool.eq_false_or_eq_true l.broken with hb | hb
  · rw [hb, if_pos rfl] at h; omega
  rw [hb, if_neg (by decide)] at h
  rcases Bool.eq_false_or_eq_true l.ready with hr | hr
  · exact ⟨hb, hr⟩
  · rw [hr, if_neg (by decide)] at h; omega
theorem LInv.append {n : Nat} {s : DSt} {l : LSt} (h : LInv n s l) (rs : List (List UInt8)) : LInv n s (appendS l (n / 2) rs).1 := by
  have hn := h.four
  unfold appendS
  by_cases he : checkE l ≠ 0
  · rw [if_pos he]; exact h
  rw [if_neg he]
  by_cases h1 : (Sg.bytes rs).2 ≠ 0
  · rw [if_pos h1]; exact h
  rw [if_neg h1]
  by_cases h2 : Wl.room l (n / 2) < (Sg.bytes rs).1.length
  · rw [if_pos h2]; exact h
  rw [if_neg h2]
  have hr := (checkE_ok (show checkE l = 0 by omega)).2
  unfold Wl.room at h2
  rw [if_pos hr] at h2
  refine ⟨h.good, h.wait, hn, h.area, h.gen, ?_, h.ready⟩
  show l.done.length + (l.wait ++ (Sg.bytes rs).1).length ≤ _
  rw [List.length_append]
  omega
theorem text_length (l : LSt) : (text l).length = l.done.length - 64 * from_ l + l.wait.length := by simp [text]
theorem many_bounds (n : Nat) (l : LSt) (h : l.done.length + l.wait.length ≤ 64 * (n / 2 - 1)) (hw : l.wait ≠ []) : (text l).length ≤ 64 * many l ∧ 0 < many l ∧ from_ l + many l ≤ n / 2 - 1 := by
  have hp : 0 < l.wait.length := List.length_pos_iff.2 hw
  have := text_length l
  unfold many from_ at *
  omega
theorem LInv.commit {n : Nat} {s : DSt} {l : LSt} (h : LInv n s l) : LInv n (commitS s l (n / 2)).1 (commitS s l (n / 2)).2.1 := by
  have hn := h.four
  unfold commitS
  by_cases he : checkE l ≠ 0
  · rw [if_pos he]; exact h
  rw [if_neg he]
  by_cases h1 : l.wait = []
  · rw [if_pos h1]; exact h
  rw [if_neg h1]
  have hr := (checkE_ok (show checkE l = 0 by omega)).2
  obtain ⟨m1, m2, m3⟩ := many_bounds n l h.rm h1
  have ha := h.area
  have ha2 := (h.ready hr).1
  have hm : n / 2 * l.area.toNat ≤ n / 2 := by have : l.area.toNat ≤ 1 := by omega
                                               have := Nat.mul_le_mul_left (n / 2) this; omega
  obtain ⟨g1, w1, -⟩ := putS_out h.good h.wait (n / 2 * l.area.toNat + (1 + from_ l)) (many l) (pad (text l) (many l)) (by omega) (pad_length _ _ m1)
  generalize putS s (n / 2 * l.area.toNat + (1 + from_ l)) (many l) (pad (text l) (many l)) = p1 at *
  by_cases e1 : p1.2 ≠ 0
  · simp only [if_pos e1]; exact h.brk g1 w1
  simp only [if_neg e1]
  refine ⟨g1, w1, hn, ha, h.gen, ?_, h.ready⟩
  show (l.done ++ l.wait).length + 0 ≤ _
  rw [List.length_append]
  exact h.rm
end Go.Proofs.YtjnjcjildiadgaaGreatDoor.Wl
