/- Disks: Write, whatever comes; two disks beside each other; Noughts; the chapter's example. -/
import Derived.Test.YtopacbmdoognjaaDiskSync
import Derived.Test.YtopacbmdoognjaaDiskCut
namespace Go.Proofs.Ytopacbmdoognjaa.Disk
open Go Go.RowKit Frame
/-- What Write answers, and what the disk is then. -/
def ans (s : DSt) (k : Int) (t : ByteArray) : Int := if chk s k ≠ 0 then chk s k else if 64 < t.size then 5 else 0
def wrote (s : DSt) (k : Int) (t : ByteArray) : DSt := if ans s k t = 0 then { s with wait := s.wait ++ [(k.toNat, t)] } else s
theorem chk_zero {s : DSt} {k : Int} (h : chk s k = 0) : s.on = true ∧ 0 ≤ k ∧ k < (s.last.length : Int) / 64 := by
  unfold chk at h
  split at h
  · cases h
  · rename_i h1
    split at h
    · cases h
    · rename_i h2
      exact ⟨by simpa using h1, by omega, by omega⟩
theorem ans_zero {s : DSt} {k : Int} {t : ByteArray} (h : ans s k t = 0) : chk s k = 0 ∧ t.size ≤ 64 := by
  unfold ans at h
  split at h
  · rename_i h1; exact absurd h h1
  · rename_i h1
    split at h
    · cases h
    · exact ⟨by simpa using h1, by omega⟩
theorem Good.wrote {n : Nat} {s : DSt} (h : Good n s) (k : Int) (t : ByteArray) (hm : s.wait.length + 1 ≤ 100000) : Good n (wrote s k t) := by
  unfold Disk.wrote
  split
  · rename_i h0
    obtain ⟨h1, h2⟩ := ans_zero h0
    obtain ⟨_, h3, h4⟩ := chk_zero h1
    have hl := h.len
    refine ⟨h.fits.append fun x hx => ?_, h.len, h.hn, by simpa using hm, h.syncs, h.cut⟩
    simp only [List.mem_singleton] at hx
    subst hx
    exact ⟨by simp only; omega, h2⟩
  · exact h
set_option maxHeartbeats 1000000 in
theorem Write_any (base d L n : Nat) (wv : Value) (s : DSt) (k : Int) (t : ByteArray) (hs : Good n s) (hn : s.wait.length + 1 ≤ 100000) (w : World) (h : Dk base d L wv s w) :
    Calls Try.prog 27 #[.pointer (some ⟨d, 0, none⟩), .int .i64 k, .string t] w (DPost base d L wv (wrote s k t) (.int .i64 (ans s k t)) w) := by
  have hl : s.last.length ≤ 262144 := by have := hs.len; have := hs.hn; omega
  by_cases h0 : chk s k = 0
  · obtain ⟨_, h3, _⟩ := chk_zero h0
    by_cases ht : t.size ≤ 64
    · have e : ans s k t = 0 := by unfold ans; rw [if_neg (by simp [h0]), if_neg (by omega)]
      have e2 : wrote s k t = { s with wait := s.wait ++ [(k.toNat, t)] } := by unfold wrote; rw [if_pos e]
      rw [e, e2]
      have hk : (k.toNat : Int) = k := by omega
      have := Write_calls base d L wv s k.toNat t (by rw [hk]; exact h0) ht hl (by omega) w h
      rw [hk] at this
      exact this
    · have e : ans s k t = 5 := by unfold ans; rw [if_neg (by simp [h0]), if_pos (by omega)]
      have e2 : wrote s k t = s := by unfold wrote; rw [if_neg (by rw [e]; decide)]
      rw [e, e2]
      refine (Write_long base d L wv s k t h0 (by omega) hl w h).mono ?_
      rintro e w1 ⟨rfl, rfl⟩
      exact ⟨wv, rfl, h, Turn.refl _ _, Held.refl _ _⟩
  · have e : ans s k t = chk s k := by unfold ans; rw [if_pos h0]
    have e2 : wrote s k t = s := by unfold wrote; rw [if_neg (by rw [e]; exact h0)]
    rw [e, e2]
    refine (Write_no base d L wv s k t h0 hl w h).mono ?_
    rintro e w1 ⟨rfl, rfl⟩
    exact ⟨wv, rfl, h, Turn.refl _ _, Held.refl _ _⟩
section
variable {base d L : Nat} {wv : Value} {s : DSt} {w : World}
theorem Dk.foot (h : Dk base d L wv s w) {k : Nat} (hk : Foot d L wv k) : base ≤ k ∧ k < w.heap.size := by
  rcases hk with rfl | rfl | hk
  · exact ⟨h.hb.1, h.h.lt⟩
  · exact ⟨h.hb.2, h.l.lt⟩
  · rcases h.v.2 with ⟨rfl, _⟩ | ⟨g, cap, cur, rfl, hb, hg, _⟩
    · simp [Value.ownBlock] at hk
    · simp [Value.ownBlock] at hk
      subst hk
      exact ⟨hb, Has.lt (cs := cur) hg⟩
/-- What turns other blocks leaves a disk as it was. -/
theorem Dk.turn (h : Dk base d L wv s w) {F : Nat → Prop} {w' : World} (ht : Turn F w w') (hne : ∀ k, F k → ¬ Foot d L wv k) : Dk base d L wv s w' := by
  refine ⟨h.h.turn ht (fun e => hne _ e (.inl rfl)), h.l.turn ht (fun e => hne _ e (.inr (.inl rfl))), ?_, h.ne, h.hb⟩
  obtain ⟨hlen, hv⟩ := h.v
  refine ⟨hlen, ?_⟩
  rcases hv with hv | ⟨g, cap, cur, rfl, hb', hg, hr⟩
  · exact .inl hv
  · exact .inr ⟨g, cap, cur, rfl, hb', (ht.block g (Has.lt (cs := cur) hg) (fun e => hne _ e (.inr (.inr rfl)))).trans hg, hr⟩
end
/-- Blocks of other types than a disk's are as they were. -/
def Kept (w w' : World) : Prop := ∀ m cs t, t ≠ 112 → t ≠ 5 → t ≠ 115 → Has m cs t w → Has m cs t w'
theorem has_type {b : Nat} {cs cs' : Array Value} {t t' : TypeId} {w : World} (h : Has b cs t w) (h' : Has b cs' t' w) : t = t' := by
  unfold Has at h h'
  rw [h] at h'
  injection h' with h'
  injection h'
theorem Dk.apart {base d L : Nat} {wv : Value} {s : DSt} {w : World} (h : Dk base d L wv s w) {m : Nat} {cs : Array Value} {t : TypeId} (hm : Has m cs t w) (h1 : t ≠ 112) (h2 : t ≠ 5) (h3 : t ≠ 115) : ¬ Foot d L wv m := by
  rintro (rfl | rfl | hk)
  · exact h1 (has_type hm h.h)
  · exact h2 (has_type hm h.l)
  · rcases h.v.2 with ⟨rfl, _⟩ | ⟨g, cap, cur, rfl, hb, hg, _⟩
    · simp [Value.ownBlock] at hk
    · simp [Value.ownBlock] at hk
      subst hk
      exact h3 (has_type hm hg)
theorem Dk.kept {base d L : Nat} {wv : Value} {s : DSt} {w w' : World} (h : Dk base d L wv s w) (ht : Turn (Foot d L wv) w w') : Kept w w' :=
  fun _ _ _ h1 h2 h3 hm => hm.turn ht (h.apart hm h1 h2 h3)
/-- A disk, its waiting row told by no name. -/
def One (base d L : Nat) (s : DSt) (w : World) : Prop := ∃ wv, Dk base d L wv s w
theorem One.post {base d L : Nat} {wv v : Value} {s s' : DSt} {w w' : World} {e : Ending} (h : Dk base d L wv s w) (hp : DPost base d L wv s' v w e w') : e = .returned v ∧ One base d L s' w' ∧ Below base w w' ∧ Kept w w' := by
  obtain ⟨wv', he, hd, ht, _⟩ := hp
  have hlt : base ≤ w.heap.size := Nat.le_trans (h.foot (.inl rfl)).1 (Nat.le_of_lt h.h.lt)
  exact ⟨he, ⟨wv', hd⟩, ht.to_below (Below.refl _ _) (fun i hi => (h.foot hi).1) hlt, h.kept ht⟩
theorem One.below {base d L : Nat} {s : DSt} {w w' : World} (h : One base d L s w) (hb : Below w.heap.size w w') : One base d L s w' := by
  obtain ⟨v, h⟩ := h
  exact ⟨v, h.below hb⟩
/-- Two disks beside each other. -/
def Two (base d1 L1 d2 L2 : Nat) (s1 s2 : DSt) (w : World) : Prop := ∃ v1 v2, Dk base d1 L1 v1 s1 w ∧ Dk base d2 L2 v2 s2 w ∧ ∀ k, Foot d1 L1 v1 k → ¬ Foot d2 L2 v2 k
theorem Two.swap {base d1 L1 d2 L2 : Nat} {s1 s2 : DSt} {w : World} (h : Two base d1 L1 d2 L2 s1 s2 w) : Two base d2 L2 d1 L1 s2 s1 w := by
  obtain ⟨v1, v2, h1, h2, hn⟩ := h
  exact ⟨v2, v1, h2, h1, fun k a b => hn k b a⟩
theorem Two.below {base d1 L1 d2 L2 : Nat} {s1 s2 : DSt} {w w' : World} (h : Two base d1 L1 d2 L2 s1 s2 w) (hb : Below w.heap.size w w') : Two base d1 L1 d2 L2 s1 s2 w' := by
  obtain ⟨v1, v2, h1, h2, hn⟩ := h
  exact ⟨v1, v2, h1.below hb, h2.below hb, hn⟩
theorem Two.post {base d1 L1 d2 L2 : Nat} {s1 s2 s1' : DSt} {v1 v2 v : Value} {w w' : World} {e : Ending} (h1 : Dk base d1 L1 v1 s1 w) (h2 : Dk base d2 L2 v2 s2 w) (hn : ∀ k, Foot d1 L1 v1 k → ¬ Foot d2 L2 v2 k)
    (hp : DPost base d1 L1 v1 s1' v w e w') : e = .returned v ∧ Two base d1 L1 d2 L2 s1' s2 w' ∧ Below base w w' ∧ Kept w w' := by
  have hb := (One.post h1 hp).2.2
  obtain ⟨v1', he, hd, ht, hh⟩ := hp
  refine ⟨he, ⟨v1', v2, hd, h2.turn ht hn, fun k hk h2k => ?_⟩, hb⟩
  rcases hk with rfl | rfl | hk
  · exact hn _ (.inl rfl) h2k
  · exact hn _ (.inr (.inl rfl)) h2k
  · rcases hh with hh | hh | ⟨g, hh, hg⟩
    · exact hn _ (.inr (.inr (by rw [← hh]; exact hk))) h2k
    · rw [hh] at hk; cases hk
    · rw [hh] at hk
      injection hk with hk
      have := (h2.foot h2k).2
      omega
/-- One call on the first of two. -/
theorem Two.calls {base d1 L1 d2 L2 : Nat} {s1 s2 : DSt} {f : FuncId} {args : Array Value} {v : Value} {s1' : DSt} {w : World} (h : Two base d1 L1 d2 L2 s1 s2 w)
    (hc : ∀ v1, Dk base d1 L1 v1 s1 w → Calls Try.prog f args w (DPost base d1 L1 v1 s1' v w)) : Calls Try.prog f args w fun e w' => e = .returned v ∧ Two base d1 L1 d2 L2 s1' s2 w' ∧ Below base w w' ∧ Kept w w' := by
  obtain ⟨v1, v2, h1, h2, hn⟩ := h
  exact (hc v1 h1).mono fun e w' hp => Two.post h1 h2 hn hp
theorem One.calls {base d L : Nat} {s s' : DSt} {f : FuncId} {args : Array Value} {v : Value} {w : World} (h : One base d L s w)
    (hc : ∀ v1, Dk base d L v1 s w → Calls Try.prog f args w (DPost base d L v1 s' v w)) : Calls Try.prog f args w fun e w' => e = .returned v ∧ One base d L s' w' ∧ Below base w w' ∧ Kept w w' := by
  obtain ⟨v1, h1⟩ := h
  exact (hc v1 h1).mono fun e w' hp => One.post h1 hp
theorem post_of_only {base d L : Nat} {wv v : Value} {s' : DSt} {w w' : World} {e : Ending} (he : e = .returned v) (hd : Dk base d L wv s' w') (ho : Only d w w') : DPost base d L wv s' v w e w' := ⟨wv, he, hd, Only.turn ho, Held.refl _ _⟩
theorem post_of_same {base d L : Nat} {wv v : Value} {s : DSt} {w w' : World} {e : Ending} (h : Dk base d L wv s w) (he : e = .returned v) (hw : w = w') : DPost base d L wv s v w e w' := by
  subst hw
  exact ⟨wv, he, h, Turn.refl _ _, Held.refl _ _⟩
theorem post_of_below {base d L : Nat} {wv v : Value} {s : DSt} {w w' : World} {e : Ending} (h : Dk base d L wv s w) (he : e = .returned v) (hb : Below w.heap.size w w') : DPost base d L wv s v w e w' :=
  ⟨wv, he, h.below hb, Turn.of_below hb, Held.refl _ _⟩
def fresh (n : Nat) : DSt := ⟨List.replicate (64 * n) 0, [], true, false, 0, 0⟩
theorem Good.fresh (n : Nat) (hn : n ≤ 4096) : Good n (fresh n) := ⟨(fun x hx => by cases hx), by simp [Disk.fresh], hn, Nat.zero_le _, by simp [Disk.fresh], by simp [Disk.fresh]⟩
theorem New_one (n : Nat) (hn : n ≤ 4096) (w : World) :
    Calls Try.prog 26 #[.int .i64 n] w fun e w' => e = .returned (.pointer (some ⟨w.heap.size + 1, 0, none⟩)) ∧ One w.heap.size (w.heap.size + 1) w.heap.size (fresh n) w' ∧ Below w.heap.size w w' :=
  (New_calls n hn w).mono fun _ _ ⟨he, hd, hb⟩ => ⟨he, ⟨_, hd⟩, hb⟩
/-- A second disk behind a first one. -/
theorem One.and {base d L d2 L2 : Nat} {s s2 : DSt} {w w' : World} (h : One base d L s w) (hb : Below w.heap.size w w') (h2 : One w.heap.size d2 L2 s2 w') : Two base d L d2 L2 s s2 w' := by
  obtain ⟨v, h⟩ := h
  obtain ⟨v2, h2⟩ := h2
  have hbase : base ≤ w.heap.size := Nat.le_trans h.hb.1 (Nat.le_of_lt h.h.lt)
  refine ⟨v, v2, h.below hb, ⟨h2.h, h2.l, ?_, h2.ne, by have := h2.hb; omega⟩, fun k hk hk2 => ?_⟩
  · obtain ⟨hlen, hv⟩ := h2.v
    refine ⟨hlen, ?_⟩
    rcases hv with hv | ⟨g, cap, cur, rfl, hb', hg, hr⟩
    · exact .inl hv
    · exact .inr ⟨g, cap, cur, rfl, by omega, hg, hr⟩
  · have := (h.foot hk).2
    have := (h2.foot hk2).1
    omega
theorem One.base {base b d L : Nat} {s : DSt} {w : World} (h : One base d L s w) (hb : b ≤ base) : One b d L s w := by
  obtain ⟨v, h⟩ := h
  refine ⟨v, h.h, h.l, ?_, h.ne, by have := h.hb; omega⟩
  obtain ⟨hlen, hv⟩ := h.v
  refine ⟨hlen, ?_⟩
  rcases hv with hv | ⟨g, cap, cur, rfl, hb', hg, hr⟩
  · exact .inl hv
  · exact .inr ⟨g, cap, cur, rfl, by omega, hg, hr⟩
end Go.Proofs.Ytopacbmdoognjaa.Disk
