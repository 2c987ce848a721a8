/- The log's theorem, plainly: wherever the power goes, what is told is the image that was begun last and a beginning of what was appended since, with all that was committed; or the image alone of a Begin that was cut off. -/
import Derived.Test.YtjnjcjildiadgaaGreatDoorWalOps
namespace Go.Proofs.YtjnjcjildiadgaaGreatDoor.Wl
open Go Oct Disk
/-- A log that isn't broken, the image that was begun last, what was appended since, how much of it was committed. -/
structure Live (h : Nat) (last : List UInt8) (l : LSt) (image : List UInt8) (all : List (List UInt8)) (safe : Nat) : Prop where
  sf : safe ≤ all.length
  shape : Shape h last l.area l.gen (if l.area < 0 then [] else image :: all.take safe)
  none_ : l.area < 0 → image = [] ∧ all = []
  idle : l.ready = false → safe = all.length
  rdy : l.ready = true → Sg.err (image :: all) = 0 ∧ l.done = Sg.cat (image :: all.take safe) ∧ l.wait = Sg.cat (all.drop safe) ∧ 0 ≤ l.area ∧ (ar last h l.area.toNat).drop 64 = l.done ++ noughts (64 * (h - 1) - l.done.length)
/-- A disk behind a loss of power. -/
def Dead (h : Nat) (last : List UInt8) (image may : List UInt8) (all : List (List UInt8)) (safe : Nat) : Prop :=
  safe ≤ all.length ∧ ∃ c g rs, Shape h last c g rs ∧ ((c < 0 ∧ image = [] ∧ all = []) ∨ (0 ≤ c ∧ ∃ k, safe ≤ k ∧ k ≤ all.length ∧ rs = image :: all.take k) ∨ (0 ≤ c ∧ may ≠ [] ∧ rs = [may]))
theorem Shape.neg {h : Nat} {s : List UInt8} {c : Int} {g : Nat} {rs : List (List UInt8)} (H : Shape h s c g rs) (hc : c < 0) : c = -1 ∧ rs = [] := by
  rcases H with ⟨h0, _, h1, _⟩ | ⟨a, _, _, h0, _⟩
  · exact ⟨h0, h1⟩
  · omega
theorem Live.dead {h : Nat} {last : List UInt8} {l : LSt} {image may : List UInt8} {all : List (List UInt8)} {safe : Nat} (H : Live h last l image all safe) : Dead h last image may all safe := by
  refine ⟨H.sf, l.area, l.gen, _, H.shape, ?_⟩
  by_cases hn : l.area < 0
  · exact .inl ⟨hn, H.none_ hn⟩
  · refine .inr (.inl ⟨by omega, safe, Nat.le_refl _, H.sf, by rw [if_neg hn]⟩)
/-- What the law asks of an Open. -/
def Told (s : List UInt8) (recs : List (List UInt8)) (image may : List UInt8) (all : List (List UInt8)) (safe : Nat) : Prop :=
  (s = image ∧ safe ≤ recs.length ∧ recs.length ≤ all.length ∧ recs = all.take recs.length) ∨ (may ≠ [] ∧ s = may ∧ recs = [])
theorem Dead.opens {h : Nat} {last : List UInt8} {image may : List UInt8} {all : List (List UInt8)} {safe : Nat} (H : Dead h last image may all safe) :
    Told ((opened h last).best.getD 0 []) ((opened h last).best.drop 1) image may all safe ∧ Live h last (openL h last) ((opened h last).best.getD 0 []) ((opened h last).best.drop 1) ((opened h last).best.drop 1).length ∧
    Sg.used ((opened h last).best.drop 1) ≤ Sg.used all := by
  obtain ⟨hs, c, g, rs, hS, hc⟩ := H
  obtain ⟨e1, e2, e3⟩ := hS.opened
  have hlive : ∀ (hcr : c < 0 ∨ rs ≠ []), Live h last (openL h last) (rs.getD 0 []) (rs.drop 1) (rs.drop 1).length := fun hcr => by
    refine ⟨Nat.le_refl _, ?_, ?_, fun _ => rfl, fun h => by cases h⟩
    · show Shape h last (opened h last).area (opened h last).gen (if (opened h last).area < 0 then [] else _)
      rw [e1, e2, List.take_length]
      by_cases hn : c < 0
      · rw [if_pos hn]
        have := (hS.neg hn).2
        rw [← this]; exact hS
      · rw [if_neg hn]
        rcases hcr with hcr | hcr
        · exact absurd hcr hn
        · match rs, hcr, hS with
          | r :: rest, _, hS => exact hS
    · intro hn
      have hn' : c < 0 := by rw [← e1]; exact hn
      have := (hS.neg hn').2
      rw [this]
      exact ⟨rfl, rfl⟩
  rw [e3]
  rcases hc with ⟨hn, rfl, rfl⟩ | ⟨hp, k, hk1, hk2, rfl⟩ | ⟨hp, hm, rfl⟩
  · have := (hS.neg hn).2
    subst this
    exact ⟨.inl ⟨rfl, by simpa using hs, Nat.le_refl _, rfl⟩, hlive (.inl hn), Nat.le_refl _⟩
  · refine ⟨.inl ⟨rfl, ?_, ?_, ?_⟩, hlive (.inr (by simp)), ?_⟩
    · show safe ≤ (all.take k).length; rw [List.length_take]; omega
    · show (all.take k).length ≤ _; rw [List.length_take]; omega
    · show all.take k = all.take (all.take k).length; rw [List.length_take, Nat.min_eq_left hk2]
    · show Sg.used (all.take k) ≤ _
      have := Sg.used_append (all.take k) (all.drop k)
      rw [List.take_append_drop] at this
      omega
  · exact ⟨.inr ⟨hm, rfl, rfl⟩, hlive (.inr (by simp)), Nat.zero_le _⟩
theorem fresh_rd (h a : Nat) (n : Nat) : rd (ar (noughts n) h a) = none := by
  apply rd_first
  unfold ar
  have : ((noughts n).drop (64 * (h * a))).take (64 * h) = noughts (min (64 * h) (n - 64 * (h * a))) := by simp [noughts, List.drop_replicate, List.take_replicate]
  rw [this, nought_getD]
  decide
theorem Live.fresh (h n : Nat) : Live h (noughts n) (openL h (noughts n)) [] [] 0 := by
  have hS : Shape h (noughts n) (-1) 0 [] := .inl ⟨rfl, rfl, rfl, fresh_rd _ _ _, fresh_rd _ _ _⟩
  obtain ⟨e1, e2, e3⟩ := hS.opened
  refine ⟨Nat.le_refl _, ?_, fun _ => ⟨rfl, rfl⟩, fun _ => rfl, fun h => by cases h⟩
  show Shape h (noughts n) (opened h (noughts n)).area (opened h (noughts n)).gen (if (opened h (noughts n)).area < 0 then [] else _)
  rw [e1, e2, if_pos (by decide)]
  exact hS
theorem bad_no16 (r : List UInt8) : Sg.bad r ≠ 16 := by
  unfold Sg.bad
  split
  · decide
  · split <;> decide
theorem err_no16 (l : List (List UInt8)) : Sg.err l ≠ 16 := by
  induction l with
  | nil => decide
  | cons r l ih =>
    unfold Sg.err
    split
    · exact bad_no16 r
    · exact ih
theorem bytes_no16 (l : List (List UInt8)) : (Sg.bytes l).2 ≠ 16 := by
  unfold Sg.bytes
  split
  · exact err_no16 l
  · show (0 : Int) ≠ 16; decide
theorem beginE_no16 (l : LSt) (h : Nat) (img : List UInt8) : beginE l h img ≠ 16 := by
  unfold beginE
  split
  · decide
  split
  · exact bytes_no16 _
  split
  · decide
  split
  · decide
  · decide
/-- How a Begin goes. -/
theorem Live.begins {n : Nat} {s : DSt} {l : LSt} {image : List UInt8} {all : List (List UInt8)} {safe : Nat} (hi : LInv n s l) (hon : s.on = true) (H : Live (n / 2) s.last l image all safe) (img : List UInt8) :
    (beginE l (n / 2) img ≠ 0 ∧ beginS s l (n / 2) img = (s, l, beginE l (n / 2) img)) ∨
    (∃ s', beginS s l (n / 2) img = (s', brk l, 16) ∧ s'.on = false ∧ Dead (n / 2) s'.last image img all safe) ∨
    (∃ s', beginS s l (n / 2) img = (s', ⟨(tgt l.area : Nat), l.gen + 1, true, false, Sg.one img, []⟩, 0) ∧ s'.on = true ∧ Live (n / 2) s'.last ⟨(tgt l.area : Nat), l.gen + 1, true, false, Sg.one img, []⟩ img [] 0) := by
  by_cases he : beginE l (n / 2) img ≠ 0
  · exact .inl ⟨he, by unfold beginS; rw [if_pos he]⟩
  right
  have he0 : beginE l (n / 2) img = 0 := by omega
  obtain ⟨h1, h2, h3, h4, h5, h6⟩ := beginE_ok he0
  have hn := hi.four
  have ht := tgt_mul (n / 2) l.area
  have ht1 := tgt_le l.area
  have hh : 0 < n / 2 := by omega
  have hlen := hi.good.len
  have hl2 : 64 * (2 * (n / 2)) ≤ s.last.length := by omega
  have hgen := hi.gen
  have hS := H.shape
  have himg : img ≠ [] := by
    intro e
    rw [e] at h2
    exact absurd h2 (by decide)
  have dead : ∀ (s' : DSt), Shape (n / 2) s'.last l.area l.gen (if l.area < 0 then [] else image :: all.take safe) → Dead (n / 2) s'.last image img all safe := fun s' hS' => by
    refine ⟨H.sf, l.area, l.gen, _, hS', ?_⟩
    by_cases hn : l.area < 0
    · exact .inl ⟨hn, H.none_ hn⟩
    · refine .inr (.inl ⟨by omega, safe, Nat.le_refl _, H.sf, by rw [if_neg hn]⟩)
  unfold beginS
  rw [if_neg he]
  obtain ⟨g1, w1, p1⟩ := putS_out hi.good hi.wait (n / 2 * tgt l.area) 1 (noughts 64) (by omega) (by simp)
  generalize putS s (n / 2 * tgt l.area) 1 (noughts 64) = r1 at *
  rcases p1 with ⟨p1, -⟩ | ⟨-, p2, p3, c, hc, p4⟩ | ⟨-, p2, p3, p4⟩
  · rw [hon] at p1; cases p1
  · left
    refine ⟨r1.1, ?_, p3, dead r1.1 ?_⟩
    · simp only [p2]; rfl
    · rw [p4]; exact cut1 hl2 hh c (by omega) hS
  have hS1 : Shape (n / 2) r1.1.last l.area l.gen (if l.area < 0 then [] else image :: all.take safe) := by
    have := cut1 hl2 hh 64 (Nat.le_refl _) hS
    rw [List.take_of_length_le (by simp)] at this
    rw [p4]; exact this
  have hz1 : (ar r1.1.last (n / 2) (tgt l.area)).take 64 = noughts 64 := by rw [p4]; exact step1 (tgt l.area) ht1 hl2 hh
  have hlen1 := g1.len
  simp only [p2]
  rw [if_neg (by decide)]
  obtain ⟨g2, w2, q1⟩ := putS_out g1 w1 (n / 2 * tgt l.area + 1) (n / 2 - 1) (pad (Sg.one img) (n / 2 - 1)) (by omega) (pad_length _ _ h5)
  generalize putS r1.1 (n / 2 * tgt l.area + 1) (n / 2 - 1) (pad (Sg.one img) (n / 2 - 1)) = r2 at *
  have hpl := pad_length (Sg.one img) (n / 2 - 1) h5
  rcases q1 with ⟨q1, -⟩ | ⟨-, q2, q3, c, hc, q4⟩ | ⟨-, q2, q3, q4⟩
  · rw [p3] at q1; cases q1
  · left
    refine ⟨r2.1, ?_, q3, dead r2.1 ?_⟩
    · simp only [q2]; rfl
    · rw [q4]; exact cut2 (by omega) hh _ (by simp; omega) hz1 hS1
  have hS2 : Shape (n / 2) r2.1.last l.area l.gen (if l.area < 0 then [] else image :: all.take safe) := by
    rw [q4]; exact cut2 (by omega) hh _ (by omega) hz1 hS1
  have hz2 : ar r2.1.last (n / 2) (tgt l.area) = noughts 64 ++ pad (Sg.one img) (n / 2 - 1) := by
    rw [q4]; exact step2 (tgt l.area) ht1 (by omega) hh _ hpl hz1
  have hlen2 := g2.len
  simp only [q2]
  rw [if_neg (by decide)]
  obtain ⟨g3, w3, t1⟩ := putS_out g2 w2 (n / 2 * tgt l.area) 1 (pad (headOf (l.gen + 1)) 1) (by omega) (pad_length _ _ (by rw [headOf_length]; omega))
  generalize putS r2.1 (n / 2 * tgt l.area) 1 (pad (headOf (l.gen + 1)) 1) = r3 at *
  rcases t1 with ⟨t1, -⟩ | ⟨-, t2, t3, c, hc, t4⟩ | ⟨-, t2, t3, t4⟩
  · rw [q3] at t1; cases t1
  · left
    refine ⟨r3.1, ?_, t3, ?_⟩
    · simp only [t2]; rfl
    · rcases cut3 (by omega) hh img h2 (by omega) hz2 c (by omega) hS2 with ⟨-, hS3⟩ | ⟨-, hS3, -⟩
      · rw [← t4] at hS3; exact dead r3.1 hS3
      · rw [← t4] at hS3
        exact ⟨H.sf, _, _, _, hS3, .inr (.inr ⟨by omega, himg, rfl⟩)⟩
  · right
    refine ⟨r3.1, ?_, t3, ?_⟩
    · simp only [t2]; rfl
    · have hplh := pad_length (headOf (l.gen + 1)) 1 (by rw [headOf_length]; omega)
      rcases cut3 (by omega) hh img h2 (by omega) hz2 64 (Nat.le_refl _) hS2 with ⟨h17, -⟩ | ⟨-, hS3, hrow⟩
      · omega
      · rw [List.take_of_length_le (by omega), ← t4] at hS3 hrow
        refine ⟨Nat.le_refl _, ?_, fun hn => absurd hn (by show ¬ ((tgt l.area : Nat) : Int) < 0; omega), (fun h => by cases h), fun _ => ⟨?_, ?_, rfl, by show (0 : Int) ≤ (tgt l.area : Nat); omega, ?_⟩⟩
        · show Shape _ _ ((tgt l.area : Nat) : Int) _ (if ((tgt l.area : Nat) : Int) < 0 then [] else _)
          rw [if_neg (by omega)]
          exact hS3
        · simp [Sg.err, h2]
        · simp [Sg.cat]
        · show (ar r3.1.last (n / 2) ((tgt l.area : Nat) : Int).toNat).drop 64 = _
          rw [show ((tgt l.area : Nat) : Int).toNat = tgt l.area by omega, hrow]
          rfl
/-- How an Append goes. -/
theorem Live.appends {n : Nat} {s : DSt} {l : LSt} {image : List UInt8} {all : List (List UInt8)} {safe : Nat} (H : Live (n / 2) s.last l image all safe) (rs : List (List UInt8)) :
    ((appendS l (n / 2) rs).2 ≠ 0 ∧ (appendS l (n / 2) rs).1 = l) ∨ ((appendS l (n / 2) rs).2 = 0 ∧ (appendS l (n / 2) rs).1 = { l with wait := l.wait ++ Sg.cat rs } ∧ l.ready = true ∧ Live (n / 2) s.last { l with wait := l.wait ++ Sg.cat rs } image (all ++ rs) safe) := by
  unfold appendS
  by_cases h1 : checkE l ≠ 0
  · rw [if_pos h1]; exact .inl ⟨h1, rfl⟩
  rw [if_neg h1]
  by_cases h2 : (Sg.bytes rs).2 ≠ 0
  · rw [if_pos h2]; exact .inl ⟨h2, rfl⟩
  rw [if_neg h2]
  by_cases h3 : room l (n / 2) < (Sg.bytes rs).1.length
  · rw [if_pos h3]; exact .inl ⟨by show (17 : Int) ≠ 0; decide, rfl⟩
  rw [if_neg h3]
  have hr := (checkE_ok (show checkE l = 0 by omega)).2
  obtain ⟨k1, k2⟩ := bytes_ok (show (Sg.bytes rs).2 = 0 by omega)
  rw [k2]
  obtain ⟨r1, r2, r3, r4, r5⟩ := H.rdy hr
  refine .inr ⟨rfl, rfl, hr, ⟨?_, ?_, fun hn => absurd hn (by show ¬ l.area < 0; omega), (fun h => by rw [show ({ l with wait := l.wait ++ Sg.cat rs } : LSt).ready = l.ready from rfl, hr] at h; cases h), fun _ => ⟨?_, ?_, ?_, r4, r5⟩⟩⟩
  · have := H.sf; rw [List.length_append]; omega
  · show Shape _ _ l.area l.gen (if l.area < 0 then [] else image :: (all ++ rs).take safe)
    rw [List.take_append_of_le_length H.sf]
    exact H.shape
  · refine Sg.err_of fun r hr => ?_
    have e1 := Sg.err_ok r1
    have e2 := Sg.err_ok k1
    rw [← List.cons_append, List.mem_append] at hr
    rcases hr with hr | hr
    · exact e1 r hr
    · exact e2 r hr
  · show l.done = Sg.cat (image :: (all ++ rs).take safe)
    rw [List.take_append_of_le_length H.sf]; exact r2
  · show l.wait ++ Sg.cat rs = Sg.cat ((all ++ rs).drop safe)
    rw [List.drop_append_of_le_length H.sf, Sg.cat_append, r3]
theorem cat_nil_of {l : List (List UInt8)} (h : Sg.cat l = []) : l = [] := by
  cases l with
  | nil => rfl
  | cons r l =>
    have := congrArg List.length h
    rw [Sg.cat_cons, List.length_append, Sg.one_length] at this
    simp at this
/-- How a Commit goes. -/
theorem Live.commits {n : Nat} {s : DSt} {l : LSt} {image may : List UInt8} {all : List (List UInt8)} {safe : Nat} (hi : LInv n s l) (hon : s.on = true) (H : Live (n / 2) s.last l image all safe) :
    ((commitS s l (n / 2)).2.2 ≠ 0 ∧ (commitS s l (n / 2)).1 = s ∧ (commitS s l (n / 2)).2.1 = l) ∨
    (∃ s', commitS s l (n / 2) = (s', brk l, 16) ∧ s'.on = false ∧ Dead (n / 2) s'.last image may all safe) ∨
    (∃ s' l', commitS s l (n / 2) = (s', l', 0) ∧ s'.on = true ∧ l'.broken = l.broken ∧ l'.ready = true ∧ l'.gen = l.gen ∧ Live (n / 2) s'.last l' image all all.length) := by
  have hce : commitS s l (n / 2) = if checkE l ≠ 0 then (s, l, checkE l) else if l.wait = [] then (s, l, 0) else
    if (putS s (n / 2 * l.area.toNat + (1 + from_ l)) (many l) (pad (text l) (many l))).2 ≠ 0 then ((putS s (n / 2 * l.area.toNat + (1 + from_ l)) (many l) (pad (text l) (many l))).1, brk l, (putS s (n / 2 * l.area.toNat + (1 + from_ l)) (many l) (pad (text l) (many l))).2)
    else ((putS s (n / 2 * l.area.toNat + (1 + from_ l)) (many l) (pad (text l) (many l))).1, { l with done := l.done ++ l.wait, wait := [] }, 0) := rfl
  rw [hce]
  by_cases h1 : checkE l ≠ 0
  · rw [if_pos h1]; exact .inl ⟨h1, rfl, rfl⟩
  rw [if_neg h1]
  have hr := (checkE_ok (show checkE l = 0 by omega)).2
  obtain ⟨r1, r2, r3, r4, r5⟩ := H.rdy hr
  by_cases h2 : l.wait = []
  · rw [if_pos h2]
    right; right
    have hd : all.drop safe = [] := cat_nil_of (by rw [← r3]; exact h2)
    have hs : safe = all.length := by
      have := congrArg List.length hd
      have h3 := H.sf
      simp at this
      omega
    exact ⟨s, l, rfl, hon, rfl, hr, rfl, by rw [← hs]; exact H⟩
  rw [if_neg h2]
  obtain ⟨m1, m2, m3⟩ := many_bounds n l hi.rm h2
  have hn := hi.four
  have ha := hi.area
  obtain ⟨k, hk⟩ := Int.eq_ofNat_of_zero_le r4
  have hk1 : k ≤ 1 := by omega
  have hkt : l.area.toNat = k := by omega
  have hkm : n / 2 * k ≤ n / 2 := by have := Nat.mul_le_mul_left (n / 2) hk1; omega
  have hlen := hi.good.len
  have hrm := hi.rm
  have hgen := hi.gen
  have hpl := pad_length (text l) (many l) m1
  have hok : (k = 0 ∧ 1 - k = 1) ∨ (k = 1 ∧ 1 - k = 0) := by omega
  rw [hkt] at r5 ⊢
  obtain ⟨g1, w1, p1⟩ := putS_out hi.good hi.wait (n / 2 * k + (1 + from_ l)) (many l) (pad (text l) (many l)) (by omega) hpl
  generalize putS s (n / 2 * k + (1 + from_ l)) (many l) (pad (text l) (many l)) = r at *
  have hSk : Shape (n / 2) s.last (k : Int) l.gen (image :: all.take safe) := by
    have := H.shape
    rw [if_neg (by omega), hk] at this
    exact this
  have hal : (ar s.last (n / 2) k).length = 64 * (n / 2) := ar_length _ _ _ (by omega)
  have hrd : (ar s.last (n / 2) k).take 17 = headOf l.gen := by
    rcases hSk with ⟨h0, _⟩ | ⟨a, b, _, hca, _, hra, _⟩
    · omega
    · have : k = a := by omega
      rw [this]; exact (rd_some hra).1
  -- what stands behind the first c bytes of the put
  have key : ∀ c, c ≤ 64 * many l → ∃ j, j ≤ (all.drop safe).length ∧ (c = 64 * many l → j = (all.drop safe).length) ∧ Shape (n / 2) (over s.last (64 * (n / 2 * k + (1 + from_ l))) ((pad (text l) (many l)).take c)) (k : Int) l.gen (image :: all.take (safe + j)) ∧
      (c = 64 * many l → (ar (over s.last (64 * (n / 2 * k + (1 + from_ l))) ((pad (text l) (many l)).take c)) (n / 2) k).drop 64 = (l.done ++ l.wait) ++ noughts (64 * (n / 2 - 1) - (l.done ++ l.wait).length)) := fun c hc => by
    have hxl : ((pad (text l) (many l)).take c).length = c := by simp; omega
    have hff : 64 * from_ l ≤ l.done.length := by unfold from_; omega
    have ea : 64 * (n / 2 * k + (1 + from_ l)) = 64 * (n / 2 * k) + (64 + 64 * from_ l) := by omega
    have hu := ar_other s.last (n / 2) k (1 - k) (64 + 64 * from_ l) ((pad (text l) (many l)).take c) hok (by omega) (by omega)
    have hav := ar_over s.last (n / 2) k (64 + 64 * from_ l) ((pad (text l) (many l)).take c) (by omega) (by omega)
    rw [← ea] at hu hav
    have hrow : (over (ar s.last (n / 2) k) (64 + 64 * from_ l) ((pad (text l) (many l)).take c)).drop 64 = over ((ar s.last (n / 2) k).drop 64) (64 * from_ l) ((pad (text l) (many l)).take c) := by
      unfold over
      rw [List.drop_append_of_le_length (by simp; omega), List.drop_take, List.drop_drop]
      congr 2
      · congr 1; omega
      · congr 1; omega
    have hhd : (over (ar s.last (n / 2) k) (64 + 64 * from_ l) ((pad (text l) (many l)).take c)).take 17 = headOf l.gen := by
      unfold over
      rw [List.take_append_of_le_length (by simp; omega), List.take_take, Nat.min_eq_left (by omega)]
      exact hrd
    have hcut := row_cut l.done l.wait (64 * (n / 2 - 1)) (many l) c hi.rm (by have := text_length l; unfold from_ at *; omega) (by unfold from_ at *; omega) hc
    rw [show 64 * (l.done.length / 64) = 64 * from_ l from rfl, show l.done.drop (64 * from_ l) ++ l.wait = text l from rfl, ← r5, ← hrow] at hcut
    have hcat : l.done ++ l.wait = Sg.cat ((image :: all.take safe) ++ all.drop safe) := by rw [Sg.cat_append, ← r2, ← r3]
    have hall : (image :: all.take safe) ++ all.drop safe = image :: all := by rw [List.cons_append, List.take_append_drop]
    have hql : (l.done ++ l.wait).length = l.done.length + l.wait.length := List.length_append
    obtain ⟨j, hj1, hj2, hj3⟩ := scan_cut (image :: all.take safe) (all.drop safe) (by rw [hall]; exact r1) (max l.done.length (min (64 * from_ l + c) (l.done.length + l.wait.length))) (64 * (n / 2 - 1) - max l.done.length (min (64 * from_ l + c) (l.done.length + l.wait.length))) (by rw [← r2]; omega)
    rw [← hcat] at hj3
    have hfull : c = 64 * many l → max l.done.length (min (64 * from_ l + c) (l.done.length + l.wait.length)) = (l.done ++ l.wait).length := fun e => by
      have := text_length l
      rw [hql]
      omega
    refine ⟨j, hj1, fun e => hj2 (by rw [hfull e, hcat]), ?_, fun e => ?_⟩
    · refine hSk.row hk1 hu (by simp) ?_
      rw [hav, rd_eq hhd hgen, hcut, hj3, List.cons_append]
      congr 3
      rw [List.take_add]
    · rw [hav, hcut, hfull e, List.take_length]
  rcases p1 with ⟨p1, -⟩ | ⟨-, p2, p3, c, hc, p4⟩ | ⟨-, p2, p3, p4⟩
  · rw [hon] at p1; cases p1
  · right; left
    obtain ⟨j, hj1, -, hS', -⟩ := key c hc
    refine ⟨r.1, by simp only [p2]; rfl, p3, H.sf, (k : Int), l.gen, _, by rw [p4]; exact hS', .inr (.inl ⟨by omega, safe + j, by omega, ?_, rfl⟩)⟩
    have := H.sf
    simp at hj1
    omega
  · right; right
    obtain ⟨j, hj1, hj2, hS', hrow⟩ := key (64 * many l) (Nat.le_refl _)
    rw [List.take_of_length_le (by omega), ← p4] at hS' hrow
    have hj := hj2 rfl
    have hsj : safe + j = all.length := by have := H.sf; simp at hj; omega
    refine ⟨r.1, { l with done := l.done ++ l.wait, wait := [] }, by simp only [p2]; rfl, p3, rfl, hr, rfl, Nat.le_refl _, ?_, fun hn => absurd hn (by show ¬ l.area < 0; omega), (fun _ => rfl), fun _ => ⟨r1, ?_, ?_, r4, ?_⟩⟩
    · show Shape _ _ l.area l.gen (if l.area < 0 then [] else image :: all.take all.length)
      rw [if_neg (by omega), hk, ← hsj]
      exact hS'
    · show l.done ++ l.wait = Sg.cat (image :: all.take all.length)
      rw [List.take_length, r2, r3, ← Sg.cat_append, List.cons_append, List.take_append_drop]
    · show [] = Sg.cat (all.drop all.length)
      rw [List.drop_length]; rfl
    · show (ar r.1.last (n / 2) l.area.toNat).drop 64 = _
      rw [hkt]
      exact hrow rfl
end Go.Proofs.YtjnjcjildiadgaaGreatDoor.Wl
