/- What holds between the acts of WalFalls, and how each act goes. -/
import Derived.Test.YtjnjcjildiadgaaDoorWalActs
namespace Go.Proofs.YtjnjcjildiadgaaDoor.Wl
open Go Go.RowKit Frame Oct Disk
structure FI (B p d L : Nat) (s : DSt) (l : LSt) (image may : List UInt8) (all : List (List UInt8)) (safe : Nat) (W w : World) : Prop where
  i : Lw B p d L s l W w
  inv : LInv 20 s l
  on : l.broken = false → s.on = true
  live : l.broken = false → Live 10 s.last l image all safe
  dead : l.broken = true → Dead 10 s.last image may all safe
  small : Sg.used all ≤ 640
  sf : safe ≤ all.length
section
variable {B p d L : Nat} {s : DSt} {l : LSt} {image may : List UInt8} {all : List (List UInt8)} {safe : Nat} {W w w' : World} {e : Ending}
theorem FI.below (h : FI B p d L s l image may all safe W w) (hb : Below w.heap.size w w') : FI B p d L s l image may all safe W w' := ⟨h.i.below hb, h.inv, h.on, h.live, h.dead, h.small, h.sf⟩
theorem FI.to {s' : DSt} {l' : LSt} (h : FI B p d L s l image may all safe W w) (hs : s' = s) (hl : l' = l) (hi : Lw B p d L s' l' W w') : FI B p d L s' l' image may all safe W w' := by
  subst hs; subst hl; exact ⟨hi, h.inv, h.on, h.live, h.dead, h.small, h.sf⟩
theorem brk_brk (l : LSt) : (brk l).broken = true := rfl
theorem FI.commits (h : FI B p d L s l image may all safe W w) (H : ComPost B p d L (20 / 2) s l w e w') :
    ∃ x s' l', e = .returned (.int .i64 x) ∧ Kept2 w w' ∧ ((x = 0 ∧ FI B p d L s' l' image may all all.length W w') ∨ (x ≠ 0 ∧ FI B p d L s' l' image may all safe W w')) := by
  have hinv := h.inv.commit
  rw [show (20 : Nat) / 2 = 10 from rfl] at *
  rcases Bool.eq_false_or_eq_true l.broken with hb | hb
  · have hc : commitS s l 10 = (s, l, 21) := by
      have : checkE l = 21 := by unfold checkE; rw [if_pos hb]
      unfold commitS
      rw [this, if_pos (by decide)]
    obtain ⟨he, hl, hk⟩ := H.out hc h.i
    exact ⟨21, s, l, he, hk, .inr ⟨by decide, h.to rfl rfl hl⟩⟩
  · rcases Live.commits (n := 20) (may := may) h.inv (h.on hb) (h.live hb) with ⟨q1, q2, q3⟩ | ⟨s', q1, q2, q3⟩ | ⟨s', l', q1, q2, q3, q4, -, q5⟩
    · rw [show (20 : Nat) / 2 = 10 from rfl] at q1 q2 q3
      obtain ⟨he, hl, hk⟩ := H.out (Prod.ext rfl (Prod.ext rfl rfl)) h.i
      exact ⟨_, _, _, he, hk, .inr ⟨q1, h.to q2 q3 hl⟩⟩
    · rw [show (20 : Nat) / 2 = 10 from rfl] at q1 q3
      rw [q1] at hinv
      obtain ⟨he, hl, hk⟩ := H.out q1 h.i
      exact ⟨16, s', brk l, he, hk, .inr ⟨by decide, hl, hinv, (fun h => by cases h), (fun h => by cases h), (fun _ => q3), h.small, h.sf⟩⟩
    · rw [show (20 : Nat) / 2 = 10 from rfl] at q1 q5
      rw [q1] at hinv
      obtain ⟨he, hl, hk⟩ := H.out q1 h.i
      exact ⟨0, s', l', he, hk, .inl ⟨rfl, hl, hinv, (fun _ => q2), (fun _ => q5), (fun h' => by rw [q3, hb] at h'; cases h'), h.small, Nat.le_refl _⟩⟩
theorem FI.begins (img : List UInt8) (h : FI B p d L s l image may all safe W w) (H : BegPost B p d L (20 / 2) s l img w e w') :
    ∃ x s' l', e = .returned (.int .i64 x) ∧ Kept2 w w' ∧ ((x = 0 ∧ FI B p d L s' l' img may [] 0 W w') ∨ (x = 16 ∧ FI B p d L s' l' image img all safe W w') ∨ (x ≠ 0 ∧ x ≠ 16 ∧ FI B p d L s' l' image may all safe W w')) := by
  have hinv := h.inv.begin_ img
  rw [show (20 : Nat) / 2 = 10 from rfl] at *
  rcases Bool.eq_false_or_eq_true l.broken with hb | hb
  · have hc : beginS s l 10 img = (s, l, 21) := by
      have : beginE l 10 img = 21 := by unfold beginE; rw [if_pos hb]
      rw [begin_0 (by rw [this]; decide), this]
    obtain ⟨he, hl, hk⟩ := H.out hc h.i
    exact ⟨21, s, l, he, hk, .inr (.inr ⟨by decide, by decide, h.to rfl rfl hl⟩)⟩
  · rcases Live.begins (n := 20) h.inv (h.on hb) (h.live hb) img with ⟨q1, q2⟩ | ⟨s', q1, q2, q3⟩ | ⟨s', q1, q2, q3⟩
    · rw [show (20 : Nat) / 2 = 10 from rfl] at q1 q2
      obtain ⟨he, hl, hk⟩ := H.out q2 h.i
      exact ⟨_, _, _, he, hk, .inr (.inr ⟨q1, beginE_no16 l 10 img, h.to rfl rfl hl⟩)⟩
    · rw [show (20 : Nat) / 2 = 10 from rfl] at q1 q3
      rw [q1] at hinv
      obtain ⟨he, hl, hk⟩ := H.out q1 h.i
      exact ⟨16, s', brk l, he, hk, .inr (.inl ⟨rfl, hl, hinv, (fun h => by cases h), (fun h => by cases h), (fun _ => q3), h.small, h.sf⟩)⟩
    · rw [show (20 : Nat) / 2 = 10 from rfl] at q1 q3
      rw [q1] at hinv
      obtain ⟨he, hl, hk⟩ := H.out q1 h.i
      exact ⟨0, s', _, he, hk, .inl ⟨rfl, hl, hinv, (fun _ => q2), (fun _ => q3), (fun h => by cases h), Nat.zero_le _, Nat.le_refl _⟩⟩
theorem FI.appends (rs : List (List UInt8)) (h : FI B p d L s l image may all safe W w) (H : AppPost B p d L (20 / 2) s l rs w e w') :
    ∃ x l', e = .returned (.int .i64 x) ∧ Kept2 w w' ∧ ((x = 0 ∧ FI B p d L s l' image may (all ++ rs) safe W w') ∨ (x ≠ 0 ∧ FI B p d L s l' image may all safe W w')) := by
  have hinv := h.inv.append rs
  rw [show (20 : Nat) / 2 = 10 from rfl] at *
  rcases Bool.eq_false_or_eq_true l.broken with hb | hb
  · have hc : appendS l 10 rs = (l, 21) := by
      have : checkE l = 21 := by unfold checkE; rw [if_pos hb]
      unfold appendS
      rw [this, if_pos (by decide)]
    obtain ⟨he, hl, hk⟩ := H.out hc h.i
    exact ⟨21, l, he, hk, .inr ⟨by decide, h.to rfl rfl hl⟩⟩
  · rcases Live.appends (n := 20) (h.live hb) rs with ⟨q1, q2⟩ | ⟨q1, q2, q3, q4⟩
    · rw [show (20 : Nat) / 2 = 10 from rfl] at q1 q2
      obtain ⟨he, hl, hk⟩ := H.out (Prod.ext rfl rfl) h.i
      exact ⟨_, _, he, hk, .inr ⟨q1, h.to rfl q2 hl⟩⟩
    · rw [show (20 : Nat) / 2 = 10 from rfl] at q1 q2 q4
      obtain ⟨he, hl, hk⟩ := H.out (Prod.ext q2 q1) h.i
      rw [q2] at hinv
      refine ⟨0, _, he, hk, .inl ⟨rfl, hl, hinv, (fun _ => h.on hb), (fun _ => q4), (fun h' => by rw [show ({ l with wait := l.wait ++ Sg.cat rs } : LSt).broken = l.broken from rfl, hb] at h'; cases h'), ?_, by rw [List.length_append]; have := h.sf; omega⟩⟩
      obtain ⟨-, r2, r3, -, -⟩ := q4.rdy q3
      have hrm := hinv.rm
      have e1 := congrArg List.length r2
      have e2 := congrArg List.length r3
      rw [Sg.cat_length] at e1 e2
      have hu := Sg.used_append ((all ++ rs).take safe) ((all ++ rs).drop safe)
      rw [List.take_append_drop] at hu
      have hc : Sg.used (image :: (all ++ rs).take safe) = image.length + 9 + Sg.used ((all ++ rs).take safe) := rfl
      omega
theorem armed_good {n : Nat} (hg : Disk.Good n s) (a c : Int) (ha : a ≤ 9223372036854775807) (hc : c ≤ 9223372036854775807) : Disk.Good n (armed s a c) := by
  unfold armed
  split
  · exact ⟨hg.fits, hg.len, hg.hn, hg.many, by show 0 ≤ max 0 a ∧ max 0 a ≤ _; omega, by show 0 ≤ max 0 c ∧ max 0 c ≤ _; omega⟩
  · exact hg
theorem armed_same (s : DSt) (a c : Int) : (armed s a c).last = s.last ∧ (armed s a c).wait = s.wait ∧ (armed s a c).on = s.on := by
  unfold armed
  split <;> exact ⟨rfl, rfl, rfl⟩
theorem FI.arms (a c : Int) (ha : a ≤ 9223372036854775807) (hc : c ≤ 9223372036854775807) (h : FI B p d L s l image may all safe W w) (ho : One B d L (armed s a c) w') (hb : Below B w w') (hk : Kept w w') : FI B p d L (armed s a c) l image may all safe W w' := by
  obtain ⟨e1, e2, e3⟩ := armed_same s a c
  exact ⟨h.i.next (h.i.wd.disk ho hb hk), ⟨armed_good h.inv.good a c ha hc, by rw [e2]; exact h.inv.wait, h.inv.four, h.inv.area, h.inv.gen, h.inv.rm, h.inv.ready⟩, fun k => by rw [e3]; exact h.on k, fun k => by rw [e1]; exact h.live k, fun k => by rw [e1]; exact h.dead k, h.small, h.sf⟩
/-- The power goes and comes again. -/
def anew (s : DSt) (c : Int) : DSt := upped (down s c)
theorem anew_out {n : Nat} (hg : Disk.Good n s) (hw : s.wait = []) (c : Int) : Disk.Good n (down s c) ∧ Disk.Good n (anew s c) ∧ (anew s c).wait = [] ∧ (anew s c).on = true ∧ (anew s c).last = s.last := by
  have hdn : (down s c).last = s.last ∧ (down s c).wait = [] ∧ (down s c).on = false ∧ Disk.Good n (down s c) := by
    unfold down
    rcases Bool.eq_false_or_eq_true s.on with ho | ho
    · rw [if_pos ho, hw]
      exact ⟨rfl, rfl, rfl, ⟨(fun y hy => by cases hy), hg.len, hg.hn, Nat.zero_le _, hg.syncs, hg.cut⟩⟩
    · rw [if_neg (by rw [ho]; decide)]
      exact ⟨rfl, hw, ho, hg⟩
  obtain ⟨e1, e2, e3, e4⟩ := hdn
  have e5 : anew s c = { down s c with on := true, armed := false, syncs := 0, cut := 0 } := by
    unfold anew upped
    rw [if_neg (by rw [e3]; decide)]
  refine ⟨e4, ?_, by rw [e5]; exact e2, by rw [e5], by rw [e5]; exact e1⟩
  rw [e5]
  exact ⟨e4.fits, e4.len, e4.hn, e4.many, by show (0 : Int) ≤ 0 ∧ (0 : Int) ≤ _; decide, by show (0 : Int) ≤ 0 ∧ (0 : Int) ≤ _; decide⟩
theorem openL_inv {n : Nat} {s : DSt} (hg : Disk.Good n s) (hw : s.wait = []) (h4 : 4 ≤ n) : LInv n s (openL (n / 2) s.last) := by
  have ho := ofold_ok (n / 2) s.last 2
  rw [opened_fold] at ho
  have ha := ho.area
  exact ⟨hg, hw, h4, by show -1 ≤ (opened _ _).area ∧ (opened _ _).area ≤ 1; omega, ho.gen.1, Nat.zero_le _, fun h => by cases h⟩
theorem FI.deadly (h : FI B p d L s l image may all safe W w) : Dead 10 s.last image may all safe := by
  rcases Bool.eq_false_or_eq_true l.broken with hb | hb
  · exact h.dead hb
  · exact (h.live hb).dead
/-- What is opened behind that. -/
theorem FI.opens (c : Int) (h : FI B p d L s l image may all safe W w) (ho : One B d L (anew s c) w') (hb : Below B w w') {p' : Nat} (hp : B ≤ p') (hl : Lg p' d (openL 10 (anew s c).last) w') :
    Told ((opened 10 (anew s c).last).best.getD 0 []) ((opened 10 (anew s c).last).best.drop 1) image may all safe ∧
    FI B p' d L (anew s c) (openL 10 (anew s c).last) ((opened 10 (anew s c).last).best.getD 0 []) [] ((opened 10 (anew s c).last).best.drop 1) ((opened 10 (anew s c).last).best.drop 1).length W w' := by
  obtain ⟨g1, g2, g3, g4, g5⟩ := anew_out h.inv.good h.inv.wait c
  obtain ⟨t1, t2, t3⟩ := h.deadly.opens
  have hinv := openL_inv g2 g3 h.inv.four
  rw [g5] at hinv hl ⊢
  exact ⟨t1, ⟨⟨ho, hl, h.i.bel.trans hb, hp⟩, hinv, fun _ => g4, fun _ => by rw [g5]; exact t2, (fun h => by cases h), Nat.le_trans t3 h.small, Nat.le_refl _⟩⟩
end
end Go.Proofs.YtjnjcjildiadgaaDoor.Wl
