/- The walk of stairwelllaw15.do. -/
import Derived.Test.YtopacbmdoognjaaDiskStep
namespace Go.Proofs.Ytopacbmdoognjaa.Disk
open Go Go.RowKit Frame
theorem Kept.refl (w : World) : Kept w w := fun _ _ _ _ _ _ h => h
theorem Kept.trans {x y z : World} (h : Kept x y) (k : Kept y z) : Kept x z := fun m cs t h1 h2 h3 hm => k m cs t h1 h2 h3 (h m cs t h1 h2 h3 hm)
theorem Kept.of_below {x y : World} (h : Below x.heap.size x y) : Kept x y := fun _ _ _ _ _ _ hm => Has.below hm h
theorem Kept.set {x y : World} (h : Kept x y) {b i : Nat} (hb : x.heap.size ≤ b) (v : Value) : Kept x (y.setCell ⟨b, i, none⟩ v) := fun m cs t h1 h2 h3 hm => (h m cs t h1 h2 h3 hm).set_other (p := ⟨b, i, none⟩) (by have := hm.lt; show b ≠ m; omega) v
def set6 (w : World) (b : Nat) (v0 v1 v2 v3 v4 v5 : Value) : World := (((((w.setCell ⟨b, 0, none⟩ v0).setCell ⟨b, 1, none⟩ v1).setCell ⟨b, 2, none⟩ v2).setCell ⟨b, 3, none⟩ v3).setCell ⟨b, 4, none⟩ v4).setCell ⟨b, 5, none⟩ v5
theorem Kept.set6 {x y : World} (h : Kept x y) {b : Nat} (hb : x.heap.size ≤ b) (v0 v1 v2 v3 v4 v5 : Value) : Kept x (set6 y b v0 v1 v2 v3 v4 v5) := (((((h.set hb v0).set hb v1).set hb v2).set hb v3).set hb v4).set hb v5
theorem One.set_other {base d L : Nat} {s : DSt} {w : World} (h : One base d L s w) {m i : Nat} {cs : Array Value} {t : TypeId} (hm : Has m cs t w) (h1 : t ≠ 112) (h2 : t ≠ 5) (h3 : t ≠ 115) (v : Value) :
    One base d L s (w.setCell ⟨m, i, none⟩ v) := by
  obtain ⟨v1, k1⟩ := h
  have ht : Turn (fun k => k = m) w (w.setCell ⟨m, i, none⟩ v) := Turn.setCell (F := fun k => k = m) (p := ⟨m, i, none⟩) (Turn.refl _ _) (.inl rfl) v
  exact ⟨v1, k1.turn ht (fun k e => by rw [e]; exact k1.apart hm h1 h2 h3)⟩
/-- What holds behind the two calls. -/
structure PlI (B d L : Nat) (s : DSt) (v : Value) (b4 b6 : Nat) (w w3 : World) : Prop where
  one : One B d L s w3
  rw_ : RW v s.wait w3
  bel : Below B w w3
  kept : Kept w w3
  h4 : ∃ cs, Has b4 cs 63 w3
  h6 : ∃ cs, Has b6 cs 63 w3
theorem PlI.set4 {B d L : Nat} {s : DSt} {v : Value} {b4 b6 : Nat} {w w3 : World} (h : PlI B d L s v b4 b6 w w3) (hB : B ≤ w.heap.size) (hb : w.heap.size ≤ b4) (hne : b4 ≠ b6) (i : Nat) (x : Value) : PlI B d L s v b4 b6 w (w3.setCell ⟨b4, i, none⟩ x) := by
  obtain ⟨cs, h4⟩ := h.h4
  obtain ⟨cs6, h6⟩ := h.h6
  exact ⟨h.one.set_other h4 (by decide) (by decide) (by decide) x, h.rw_.set1 (h.rw_.apart h4 (by decide)) x, h.bel.setCell (p := ⟨b4, i, none⟩) (by show B ≤ b4; omega) x, h.kept.set hb x, ⟨_, h4.set x⟩, ⟨_, h6.set_other (p := ⟨b4, i, none⟩) hne x⟩⟩
theorem PlI.swap {B d L : Nat} {s : DSt} {v : Value} {b4 b6 : Nat} {w w3 : World} (h : PlI B d L s v b4 b6 w w3) : PlI B d L s v b6 b4 w w3 := ⟨h.one, h.rw_, h.bel, h.kept, h.h6, h.h4⟩
theorem PlI.six {B d L : Nat} {s : DSt} {v : Value} {b4 b6 : Nat} {w w3 : World} (h : PlI B d L s v b4 b6 w w3) (hB : B ≤ w.heap.size) (hb : w.heap.size ≤ b4) (hne : b4 ≠ b6) (v0 v1 v2 v3 v4 v5 : Value) : PlI B d L s v b4 b6 w (set6 w3 b4 v0 v1 v2 v3 v4 v5) :=
  (((((h.set4 hB hb hne 0 v0).set4 hB hb hne 1 v1).set4 hB hb hne 2 v2).set4 hB hb hne 3 v3).set4 hB hb hne 4 v4).set4 hB hb hne 5 v5
def DoPost (B d L : Nat) (s' : DSt) (w : World) (e : Ending) (w' : World) : Prop :=
  ∃ v', e = .returned (.tuple #[RD (canon s') v', .bool true]) ∧ One B d L s' w' ∧ RW v' s'.wait w' ∧ Below B w w' ∧ Kept w w'
theorem PlI.post {B d L : Nat} {s : DSt} {v : Value} {b4 b6 : Nat} {w w3 : World} {e : Ending} (h : PlI B d L s v b4 b6 w w3) (he : e = .returned (.tuple #[RD (canon s) v, .bool true])) : DoPost B d L s w e w3 := ⟨v, he, h.one, h.rw_, h.bel, h.kept⟩
def actCells (x : DAct) : Array Value := #[.int .u8 x.kind.toNat, .int .i64 x.at_, .int .i64 x.cut, .string x.text]
def DoW (q : DSt) (v : Value) (x : DAct) (w : World) : World := ((w.alloc (.cells (RCells q v) 63)).alloc (.cells (actCells x) 42)).alloc (.cells zeroR 63)
structure DoS (q : DSt) (v : Value) (x : DAct) (b : Nat) (w : World) : Prop where
  h4 : Has b (RCells q v) 63 w
  h5 : Has (b + 1) (actCells x) 42 w
  h6 : Has (b + 2) zeroR 63 w
theorem DoS.start (q : DSt) (v : Value) (x : DAct) (w : World) : DoS q v x w.heap.size (DoW q v x w) := by
  refine ⟨((Has.new _ _ _).alloc _).alloc _, ?_, ?_⟩
  · have := (Has.new (w.alloc (.cells (RCells q v) 63)) (actCells x) 42).alloc (.cells zeroR 63)
    simpa [DoW] using this
  · have := Has.new ((w.alloc (.cells (RCells q v) 63)).alloc (.cells (actCells x) 42)) zeroR 63
    simpa [DoW] using this
theorem DoS.kept {q : DSt} {v : Value} {x : DAct} {b : Nat} {w w' : World} (h : DoS q v x b w) (k : Kept w w') : DoS q v x b w' :=
  ⟨k _ _ _ (by decide) (by decide) (by decide) h.h4, k _ _ _ (by decide) (by decide) (by decide) h.h5, k _ _ _ (by decide) (by decide) (by decide) h.h6⟩
theorem DoW.below (q : DSt) (v : Value) (x : DAct) (w : World) : Below w.heap.size w (DoW q v x w) := (((Below.refl _ _).alloc (Nat.le_refl _) _).alloc (by simp) _).alloc (by simp; omega) _
theorem DoS.k0 {q : DSt} {v : Value} {x : DAct} {b : Nat} {w : World} (h : DoS q v x b w) : w.cell? ⟨b, 0, none⟩ = some (.string (Oct.bs q.last)) := h.h4.cell 0
theorem DoS.k1 {q : DSt} {v : Value} {x : DAct} {b : Nat} {w : World} (h : DoS q v x b w) : w.cell? ⟨b, 1, none⟩ = some (v) := h.h4.cell 1
theorem DoS.k2 {q : DSt} {v : Value} {x : DAct} {b : Nat} {w : World} (h : DoS q v x b w) : w.cell? ⟨b, 2, none⟩ = some (.bool q.on) := h.h4.cell 2
theorem DoS.k3 {q : DSt} {v : Value} {x : DAct} {b : Nat} {w : World} (h : DoS q v x b w) : w.cell? ⟨b, 3, none⟩ = some (.bool q.armed) := h.h4.cell 3
theorem DoS.k4 {q : DSt} {v : Value} {x : DAct} {b : Nat} {w : World} (h : DoS q v x b w) : w.cell? ⟨b, 4, none⟩ = some (.int .i64 q.syncs) := h.h4.cell 4
theorem DoS.k5 {q : DSt} {v : Value} {x : DAct} {b : Nat} {w : World} (h : DoS q v x b w) : w.cell? ⟨b, 5, none⟩ = some (.int .i64 q.cut) := h.h4.cell 5
theorem DoS.a0 {q : DSt} {v : Value} {x : DAct} {b : Nat} {w : World} (h : DoS q v x b w) : w.cell? ⟨b + 1, 0, none⟩ = some (.int .u8 x.kind.toNat) := h.h5.cell 0
theorem DoS.a1 {q : DSt} {v : Value} {x : DAct} {b : Nat} {w : World} (h : DoS q v x b w) : w.cell? ⟨b + 1, 1, none⟩ = some (.int .i64 x.at_) := h.h5.cell 1
theorem DoS.a2 {q : DSt} {v : Value} {x : DAct} {b : Nat} {w : World} (h : DoS q v x b w) : w.cell? ⟨b + 1, 2, none⟩ = some (.int .i64 x.cut) := h.h5.cell 2
theorem DoS.a3 {q : DSt} {v : Value} {x : DAct} {b : Nat} {w : World} (h : DoS q v x b w) : w.cell? ⟨b + 1, 3, none⟩ = some (.string x.text) := h.h5.cell 3
theorem DoS.z0 {q : DSt} {v : Value} {x : DAct} {b : Nat} {w : World} (h : DoS q v x b w) : w.cell? ⟨b + 2, 0, none⟩ = some (.string { data := #[] }) := h.h6.cell 0
theorem DoS.z1 {q : DSt} {v : Value} {x : DAct} {b : Nat} {w : World} (h : DoS q v x b w) : w.cell? ⟨b + 2, 1, none⟩ = some (.slice none 0 0) := h.h6.cell 1
theorem DoS.z2 {q : DSt} {v : Value} {x : DAct} {b : Nat} {w : World} (h : DoS q v x b w) : w.cell? ⟨b + 2, 2, none⟩ = some (.bool false) := h.h6.cell 2
theorem DoS.z3 {q : DSt} {v : Value} {x : DAct} {b : Nat} {w : World} (h : DoS q v x b w) : w.cell? ⟨b + 2, 3, none⟩ = some (.bool false) := h.h6.cell 3
theorem DoS.z4 {q : DSt} {v : Value} {x : DAct} {b : Nat} {w : World} (h : DoS q v x b w) : w.cell? ⟨b + 2, 4, none⟩ = some (.int .i64 0) := h.h6.cell 4
theorem DoS.z5 {q : DSt} {v : Value} {x : DAct} {b : Nat} {w : World} (h : DoS q v x b w) : w.cell? ⟨b + 2, 5, none⟩ = some (.int .i64 0) := h.h6.cell 5
set_option maxRecDepth 100000 in
set_option maxHeartbeats 2000000 in
theorem do_sync (B d L n : Nat) (s : DSt) (v : Value) (x : DAct) (hk : x.kind.toNat % 8 = 3) (hx : x.Ok) (hs : Good n s) (hn : s.wait.length + 1 ≤ 100000) (hi : Inv s) (w : World) (hB : B ≤ w.heap.size) (h1 : One B d L s w) (hr : RW v s.wait w) :
    Calls Try.prog 52 #[.pointer (some ⟨d, 0, none⟩), RD (canon s) v, .agg (actCells x)] w (DoPost B d L ((synced s).1) w) := by
  obtain ⟨A, cap, rfl, -⟩ := hr.row
  have HS0 := Lib.hid (DoS.start (canon s) (.slice A s.wait.length cap) x w)
  have HB0 := Lib.hid (DoW.below (canon s) (.slice A s.wait.length cap) x w)
  have HR := Lib.hid (hr.below HB0.out)
  have HO := Lib.hid (h1.below HB0.out)
  have HG := Lib.hid hs
  have HX := Lib.hid hx
  have HN := Lib.hid hn
  have HC := Lib.hid (canon_sync n s hs hi)
  have gq := hs.canon
  have HGQ := Lib.hid gq
  have hcw : (canon s).wait = s.wait := canon_wait s
  have HCW := Lib.hid hcw
  clear gq hcw hs hx hi h1 hr hn
  unfold RD
  generalize hqq : canon s = q at *
  have HQ0 := Lib.hid hqq
  clear hqq
  obtain ⟨kd, at_, ct, t⟩ := x
  unfold DoW RCells actCells zeroR at HB0 HR HO HS0
  unfold actCells
  simp only at hk HX HB0 HR HO HS0 HC ⊢
  go_enter Try.func52, Try.ntmps52
  have hk' : (kd.toNat : Int) % 8 = 3 := by omega
  go_wp2_with fail
  refine (HO.out.calls fun v1 hd => Sync_any _ _ _ n v1 _ HG.out _ hd).mono ?_
  rintro e w2 ⟨rfl, o2, b2, kk2⟩
  have O2 := Lib.hid o2
  have KK2 := Lib.hid kk2
  have B2 := Lib.hid ((HB0.out.mono hB).trans b2)
  have S2 := Lib.hid (HS0.out.kept kk2)
  have HR2 := Lib.hid (show RW (.slice A s.wait.length cap) q.wait w2 from by rw [HCW.out]; exact HR.out.kept kk2)
  have hs2 : B ≤ w2.heap.size := Nat.le_trans hB (Nat.le_of_lt (Nat.lt_trans (by omega) S2.out.h6.lt))
  clear o2 b2 kk2
  rw [HC.out.2.1]
  have k0 := S2.out.k0; have k1 := S2.out.k1; have k2 := S2.out.k2; have k3 := S2.out.k3; have k4 := S2.out.k4; have k5 := S2.out.k5; have kf := S2.out.h4.frozen
  have a0 := S2.out.a0; have a1 := S2.out.a1; have a2 := S2.out.a2; have a3 := S2.out.a3
  have z0 := S2.out.z0; have z1 := S2.out.z1; have z2 := S2.out.z2; have z3 := S2.out.z3; have z4 := S2.out.z4; have z5 := S2.out.z5; have zf := S2.out.h6.frozen
  go_wp2_with fail
  refine (rSync_calls n q _ HGQ.out _ HR2.out).mono ?_
  rintro e w3 ⟨v3, rfl, r3, b3⟩
  obtain ⟨A3, cap3, rfl, -⟩ := r3.row
  have S3 := Lib.hid (S2.out.kept (Kept.of_below b3))
  have HP := Lib.hid (show PlI B d L ((synced s).1) (.slice A3 ((rsync q).1).wait.length cap3) w.heap.size (w.heap.size + 2) w w3 from
    ⟨O2.out.below b3, by
      have e : ((rsync q).1).wait = ((synced s).1).wait := by rw [← HC.out.1, canon_wait]
      rw [e] at r3 ⊢
      exact r3, B2.out.trans (b3.mono hs2), ((Kept.of_below HB0.out).trans KK2.out).trans (Kept.of_below b3), ⟨_, S3.out.h4⟩, ⟨_, S3.out.h6⟩⟩)
  have HQ := Lib.hid (show canon ((synced s).1) = (rsync q).1 from HC.out.1)
  clear r3 b3 k0 k1 k2 k3 k4 k5 kf a0 a1 a2 a3 z0 z1 z2 z3 z4 z5 zf
  unfold RD
  have k0 := S3.out.k0; have k1 := S3.out.k1; have k2 := S3.out.k2; have k3 := S3.out.k3; have k4 := S3.out.k4; have k5 := S3.out.k5; have kf := S3.out.h4.frozen
  have a0 := S3.out.a0; have a1 := S3.out.a1; have a2 := S3.out.a2; have a3 := S3.out.a3
  have z0 := S3.out.z0; have z1 := S3.out.z1; have z2 := S3.out.z2; have z3 := S3.out.z3; have z4 := S3.out.z4; have z5 := S3.out.z5; have zf := S3.out.h6.frozen
  generalize (rsync q).1 = q3 at *
  generalize (rsync q).2 = r3 at *
  go_wp2_with fail
  refine bodyPost_ret (v := .tuple #[RD q3 (.slice A3 q3.wait.length cap3), .bool true]) (by simp [results, Try.results52, go_sem, RD, z0, z1, z2, z3, z4, z5]) rfl ?_
  have h := ((HP.out.six hB (Nat.le_refl _) (by omega) (.string (Oct.bs q3.last)) (.slice A3 q3.wait.length cap3) (.bool q3.on) (.bool q3.armed) (.int .i64 q3.syncs) (.int .i64 q3.cut)).swap).six hB (by omega) (by omega) (.string (Oct.bs q3.last)) (.slice A3 q3.wait.length cap3) (.bool q3.on) (.bool q3.armed) (.int .i64 q3.syncs) (.int .i64 q3.cut)
  exact h.post (by rw [HQ.out])
set_option maxRecDepth 100000 in
set_option maxHeartbeats 2000000 in
theorem do_arm (B d L n : Nat) (s : DSt) (v : Value) (x : DAct) (hk : x.kind.toNat % 8 = 5) (hx : x.Ok) (hs : Good n s) (hn : s.wait.length + 1 ≤ 100000) (hi : Inv s) (w : World) (hB : B ≤ w.heap.size) (h1 : One B d L s w) (hr : RW v s.wait w) :
    Calls Try.prog 52 #[.pointer (some ⟨d, 0, none⟩), RD (canon s) v, .agg (actCells x)] w (DoPost B d L (armed s x.at_ x.cut) w) := by
  obtain ⟨A, cap, rfl, -⟩ := hr.row
  have HS0 := Lib.hid (DoS.start (canon s) (.slice A s.wait.length cap) x w)
  have HB0 := Lib.hid (DoW.below (canon s) (.slice A s.wait.length cap) x w)
  have HR := Lib.hid (hr.below HB0.out)
  have HO := Lib.hid (h1.below HB0.out)
  have HG := Lib.hid hs
  have HX := Lib.hid hx
  have HN := Lib.hid hn
  have HC := Lib.hid (canon_arm s x.at_ x.cut hi)
  have gq := hs.canon
  have HGQ := Lib.hid gq
  have hcw : (canon s).wait = s.wait := canon_wait s
  have HCW := Lib.hid hcw
  clear gq hcw hs hx hi h1 hr hn
  unfold RD
  generalize hqq : canon s = q at *
  have HQ0 := Lib.hid hqq
  clear hqq
  obtain ⟨kd, at_, ct, t⟩ := x
  unfold DoW RCells actCells zeroR at HB0 HR HO HS0
  unfold actCells
  simp only at hk HX HB0 HR HO HS0 HC ⊢
  go_enter Try.func52, Try.ntmps52
  have hk' : (kd.toNat : Int) % 8 = 5 := by omega
  go_wp2_with fail
  refine (HO.out.calls fun v1 hd => (Arm_calls _ _ _ v1 _ at_ ct _ hd).mono fun _ _ h => post_of_only h.1 h.2.1 h.2.2).mono ?_
  rintro e w2 ⟨rfl, o2, b2, kk2⟩
  have O2 := Lib.hid o2
  have KK2 := Lib.hid kk2
  have B2 := Lib.hid ((HB0.out.mono hB).trans b2)
  have S2 := Lib.hid (HS0.out.kept kk2)
  have HR2 := Lib.hid (show RW (.slice A s.wait.length cap) q.wait w2 from by rw [HCW.out]; exact HR.out.kept kk2)
  have hs2 : B ≤ w2.heap.size := Nat.le_trans hB (Nat.le_of_lt (Nat.lt_trans (by omega) S2.out.h6.lt))
  clear o2 b2 kk2
  have k0 := S2.out.k0; have k1 := S2.out.k1; have k2 := S2.out.k2; have k3 := S2.out.k3; have k4 := S2.out.k4; have k5 := S2.out.k5; have kf := S2.out.h4.frozen
  have a0 := S2.out.a0; have a1 := S2.out.a1; have a2 := S2.out.a2; have a3 := S2.out.a3
  have z0 := S2.out.z0; have z1 := S2.out.z1; have z2 := S2.out.z2; have z3 := S2.out.z3; have z4 := S2.out.z4; have z5 := S2.out.z5; have zf := S2.out.h6.frozen
  go_wp2_with fail
  refine (rArm_calls q _ at_ ct _ HR2.out).mono ?_
  rintro e w3 ⟨v3, rfl, r3, b3⟩
  obtain ⟨A3, cap3, rfl, -⟩ := r3.row
  have S3 := Lib.hid (S2.out.kept (Kept.of_below b3))
  have HP := Lib.hid (show PlI B d L (armed s at_ ct) (.slice A3 (armed q at_ ct).wait.length cap3) w.heap.size (w.heap.size + 2) w w3 from
    ⟨O2.out.below b3, by
      have e : (armed q at_ ct).wait = (armed s at_ ct).wait := by rw [← HC.out.1, canon_wait]
      rw [e] at r3 ⊢
      exact r3, B2.out.trans (b3.mono hs2), ((Kept.of_below HB0.out).trans KK2.out).trans (Kept.of_below b3), ⟨_, S3.out.h4⟩, ⟨_, S3.out.h6⟩⟩)
  have HQ := Lib.hid (show canon (armed s at_ ct) = armed q at_ ct from HC.out.1)
  clear r3 b3 k0 k1 k2 k3 k4 k5 kf a0 a1 a2 a3 z0 z1 z2 z3 z4 z5 zf
  unfold RD
  have k0 := S3.out.k0; have k1 := S3.out.k1; have k2 := S3.out.k2; have k3 := S3.out.k3; have k4 := S3.out.k4; have k5 := S3.out.k5; have kf := S3.out.h4.frozen
  have a0 := S3.out.a0; have a1 := S3.out.a1; have a2 := S3.out.a2; have a3 := S3.out.a3
  have z0 := S3.out.z0; have z1 := S3.out.z1; have z2 := S3.out.z2; have z3 := S3.out.z3; have z4 := S3.out.z4; have z5 := S3.out.z5; have zf := S3.out.h6.frozen
  generalize armed q at_ ct = q3 at *
  go_wp2_with fail
  refine bodyPost_ret (v := .tuple #[RD q3 (.slice A3 q3.wait.length cap3), .bool true]) (by simp [results, Try.results52, go_sem, RD, z0, z1, z2, z3, z4, z5]) rfl ?_
  have h := ((HP.out.six hB (Nat.le_refl _) (by omega) (.string (Oct.bs q3.last)) (.slice A3 q3.wait.length cap3) (.bool q3.on) (.bool q3.armed) (.int .i64 q3.syncs) (.int .i64 q3.cut)).swap).six hB (by omega) (by omega) (.string (Oct.bs q3.last)) (.slice A3 q3.wait.length cap3) (.bool q3.on) (.bool q3.armed) (.int .i64 q3.syncs) (.int .i64 q3.cut)
  exact h.post (by rw [HQ.out])
set_option maxRecDepth 100000 in
set_option maxHeartbeats 2000000 in
theorem do_down (B d L n : Nat) (s : DSt) (v : Value) (x : DAct) (hk : x.kind.toNat % 8 = 6) (hx : x.Ok) (hs : Good n s) (hn : s.wait.length + 1 ≤ 100000) (hi : Inv s) (w : World) (hB : B ≤ w.heap.size) (h1 : One B d L s w) (hr : RW v s.wait w) :
    Calls Try.prog 52 #[.pointer (some ⟨d, 0, none⟩), RD (canon s) v, .agg (actCells x)] w (DoPost B d L (down s x.cut) w) := by
  obtain ⟨A, cap, rfl, -⟩ := hr.row
  have HS0 := Lib.hid (DoS.start (canon s) (.slice A s.wait.length cap) x w)
  have HB0 := Lib.hid (DoW.below (canon s) (.slice A s.wait.length cap) x w)
  have HR := Lib.hid (hr.below HB0.out)
  have HO := Lib.hid (h1.below HB0.out)
  have HG := Lib.hid hs
  have HX := Lib.hid hx
  have HN := Lib.hid hn
  have HC := Lib.hid (canon_down s x.cut hi)
  have gq := hs.canon
  have HGQ := Lib.hid gq
  have hcw : (canon s).wait = s.wait := canon_wait s
  have HCW := Lib.hid hcw
  clear gq hcw hs hx hi h1 hr hn
  unfold RD
  generalize hqq : canon s = q at *
  have HQ0 := Lib.hid hqq
  clear hqq
  obtain ⟨kd, at_, ct, t⟩ := x
  unfold DoW RCells actCells zeroR at HB0 HR HO HS0
  unfold actCells
  simp only at hk HX HB0 HR HO HS0 HC ⊢
  go_enter Try.func52, Try.ntmps52
  have hk' : (kd.toNat : Int) % 8 = 6 := by omega
  go_wp2_with fail
  refine (HO.out.calls fun v1 hd => Down_calls _ _ _ n v1 _ ct HX.out.2.1 HG.out _ hd).mono ?_
  rintro e w2 ⟨rfl, o2, b2, kk2⟩
  have O2 := Lib.hid o2
  have KK2 := Lib.hid kk2
  have B2 := Lib.hid ((HB0.out.mono hB).trans b2)
  have S2 := Lib.hid (HS0.out.kept kk2)
  have HR2 := Lib.hid (show RW (.slice A s.wait.length cap) q.wait w2 from by rw [HCW.out]; exact HR.out.kept kk2)
  have hs2 : B ≤ w2.heap.size := Nat.le_trans hB (Nat.le_of_lt (Nat.lt_trans (by omega) S2.out.h6.lt))
  clear o2 b2 kk2
  have k0 := S2.out.k0; have k1 := S2.out.k1; have k2 := S2.out.k2; have k3 := S2.out.k3; have k4 := S2.out.k4; have k5 := S2.out.k5; have kf := S2.out.h4.frozen
  have a0 := S2.out.a0; have a1 := S2.out.a1; have a2 := S2.out.a2; have a3 := S2.out.a3
  have z0 := S2.out.z0; have z1 := S2.out.z1; have z2 := S2.out.z2; have z3 := S2.out.z3; have z4 := S2.out.z4; have z5 := S2.out.z5; have zf := S2.out.h6.frozen
  go_wp2_with fail
  refine (rDown_calls n q _ ct HX.out.2.1 HGQ.out _ HR2.out).mono ?_
  rintro e w3 ⟨v3, rfl, r3, b3⟩
  obtain ⟨A3, cap3, rfl, -⟩ := r3.row
  have S3 := Lib.hid (S2.out.kept (Kept.of_below b3))
  have HP := Lib.hid (show PlI B d L (down s ct) (.slice A3 (rdown q ct).wait.length cap3) w.heap.size (w.heap.size + 2) w w3 from
    ⟨O2.out.below b3, by
      have e : (rdown q ct).wait = (down s ct).wait := by rw [← HC.out.1, canon_wait]
      rw [e] at r3 ⊢
      exact r3, B2.out.trans (b3.mono hs2), ((Kept.of_below HB0.out).trans KK2.out).trans (Kept.of_below b3), ⟨_, S3.out.h4⟩, ⟨_, S3.out.h6⟩⟩)
  have HQ := Lib.hid (show canon (down s ct) = rdown q ct from HC.out.1)
  clear r3 b3 k0 k1 k2 k3 k4 k5 kf a0 a1 a2 a3 z0 z1 z2 z3 z4 z5 zf
  unfold RD
  have k0 := S3.out.k0; have k1 := S3.out.k1; have k2 := S3.out.k2; have k3 := S3.out.k3; have k4 := S3.out.k4; have k5 := S3.out.k5; have kf := S3.out.h4.frozen
  have a0 := S3.out.a0; have a1 := S3.out.a1; have a2 := S3.out.a2; have a3 := S3.out.a3
  have z0 := S3.out.z0; have z1 := S3.out.z1; have z2 := S3.out.z2; have z3 := S3.out.z3; have z4 := S3.out.z4; have z5 := S3.out.z5; have zf := S3.out.h6.frozen
  generalize rdown q ct = q3 at *
  go_wp2_with fail
  refine bodyPost_ret (v := .tuple #[RD q3 (.slice A3 q3.wait.length cap3), .bool true]) (by simp [results, Try.results52, go_sem, RD, z0, z1, z2, z3, z4, z5]) rfl ?_
  have h := ((HP.out.six hB (Nat.le_refl _) (by omega) (.string (Oct.bs q3.last)) (.slice A3 q3.wait.length cap3) (.bool q3.on) (.bool q3.armed) (.int .i64 q3.syncs) (.int .i64 q3.cut)).swap).six hB (by omega) (by omega) (.string (Oct.bs q3.last)) (.slice A3 q3.wait.length cap3) (.bool q3.on) (.bool q3.armed) (.int .i64 q3.syncs) (.int .i64 q3.cut)
  exact h.post (by rw [HQ.out])
set_option maxRecDepth 100000 in
set_option maxHeartbeats 2000000 in
theorem do_up (B d L n : Nat) (s : DSt) (v : Value) (x : DAct) (hk : x.kind.toNat % 8 = 7) (hx : x.Ok) (hs : Good n s) (hn : s.wait.length + 1 ≤ 100000) (hi : Inv s) (w : World) (hB : B ≤ w.heap.size) (h1 : One B d L s w) (hr : RW v s.wait w) :
    Calls Try.prog 52 #[.pointer (some ⟨d, 0, none⟩), RD (canon s) v, .agg (actCells x)] w (DoPost B d L (upped s) w) := by
  obtain ⟨A, cap, rfl, -⟩ := hr.row
  have HS0 := Lib.hid (DoS.start (canon s) (.slice A s.wait.length cap) x w)
  have HB0 := Lib.hid (DoW.below (canon s) (.slice A s.wait.length cap) x w)
  have HR := Lib.hid (hr.below HB0.out)
  have HO := Lib.hid (h1.below HB0.out)
  have HG := Lib.hid hs
  have HX := Lib.hid hx
  have HN := Lib.hid hn
  have HC := Lib.hid (canon_up s hi)
  have gq := hs.canon
  have HGQ := Lib.hid gq
  have hcw : (canon s).wait = s.wait := canon_wait s
  have HCW := Lib.hid hcw
  clear gq hcw hs hx hi h1 hr hn
  unfold RD
  generalize hqq : canon s = q at *
  have HQ0 := Lib.hid hqq
  clear hqq
  obtain ⟨kd, at_, ct, t⟩ := x
  unfold DoW RCells actCells zeroR at HB0 HR HO HS0
  unfold actCells
  simp only at hk HX HB0 HR HO HS0 HC ⊢
  go_enter Try.func52, Try.ntmps52
  have hk' : (kd.toNat : Int) % 8 = 7 := by omega
  go_wp2_with fail
  refine (HO.out.calls fun v1 hd => (Up_calls _ _ _ v1 _ _ hd).mono fun _ _ h => post_of_only h.1 h.2.1 h.2.2).mono ?_
  rintro e w2 ⟨rfl, o2, b2, kk2⟩
  have O2 := Lib.hid o2
  have KK2 := Lib.hid kk2
  have B2 := Lib.hid ((HB0.out.mono hB).trans b2)
  have S2 := Lib.hid (HS0.out.kept kk2)
  have HR2 := Lib.hid (show RW (.slice A s.wait.length cap) q.wait w2 from by rw [HCW.out]; exact HR.out.kept kk2)
  have hs2 : B ≤ w2.heap.size := Nat.le_trans hB (Nat.le_of_lt (Nat.lt_trans (by omega) S2.out.h6.lt))
  clear o2 b2 kk2
  have k0 := S2.out.k0; have k1 := S2.out.k1; have k2 := S2.out.k2; have k3 := S2.out.k3; have k4 := S2.out.k4; have k5 := S2.out.k5; have kf := S2.out.h4.frozen
  have a0 := S2.out.a0; have a1 := S2.out.a1; have a2 := S2.out.a2; have a3 := S2.out.a3
  have z0 := S2.out.z0; have z1 := S2.out.z1; have z2 := S2.out.z2; have z3 := S2.out.z3; have z4 := S2.out.z4; have z5 := S2.out.z5; have zf := S2.out.h6.frozen
  go_wp2_with fail
  refine (rUp_calls q _ _ HR2.out).mono ?_
  rintro e w3 ⟨v3, rfl, r3, b3⟩
  obtain ⟨A3, cap3, rfl, -⟩ := r3.row
  have S3 := Lib.hid (S2.out.kept (Kept.of_below b3))
  have HP := Lib.hid (show PlI B d L (upped s) (.slice A3 (rup q).wait.length cap3) w.heap.size (w.heap.size + 2) w w3 from
    ⟨O2.out.below b3, by
      have e : (rup q).wait = (upped s).wait := by rw [← HC.out.1, canon_wait]
      rw [e] at r3 ⊢
      exact r3, B2.out.trans (b3.mono hs2), ((Kept.of_below HB0.out).trans KK2.out).trans (Kept.of_below b3), ⟨_, S3.out.h4⟩, ⟨_, S3.out.h6⟩⟩)
  have HQ := Lib.hid (show canon (upped s) = rup q from HC.out.1)
  clear r3 b3 k0 k1 k2 k3 k4 k5 kf a0 a1 a2 a3 z0 z1 z2 z3 z4 z5 zf
  unfold RD
  have k0 := S3.out.k0; have k1 := S3.out.k1; have k2 := S3.out.k2; have k3 := S3.out.k3; have k4 := S3.out.k4; have k5 := S3.out.k5; have kf := S3.out.h4.frozen
  have a0 := S3.out.a0; have a1 := S3.out.a1; have a2 := S3.out.a2; have a3 := S3.out.a3
  have z0 := S3.out.z0; have z1 := S3.out.z1; have z2 := S3.out.z2; have z3 := S3.out.z3; have z4 := S3.out.z4; have z5 := S3.out.z5; have zf := S3.out.h6.frozen
  generalize rup q = q3 at *
  go_wp2_with fail
  refine bodyPost_ret (v := .tuple #[RD q3 (.slice A3 q3.wait.length cap3), .bool true]) (by simp [results, Try.results52, go_sem, RD, z0, z1, z2, z3, z4, z5]) rfl ?_
  have h := ((HP.out.six hB (Nat.le_refl _) (by omega) (.string (Oct.bs q3.last)) (.slice A3 q3.wait.length cap3) (.bool q3.on) (.bool q3.armed) (.int .i64 q3.syncs) (.int .i64 q3.cut)).swap).six hB (by omega) (by omega) (.string (Oct.bs q3.last)) (.slice A3 q3.wait.length cap3) (.bool q3.on) (.bool q3.armed) (.int .i64 q3.syncs) (.int .i64 q3.cut)
  exact h.post (by rw [HQ.out])
set_option maxRecDepth 100000 in
set_option maxHeartbeats 2000000 in
theorem do_write (B d L n : Nat) (s : DSt) (v : Value) (x : DAct) (hk : x.kind.toNat % 8 < 3) (hx : x.Ok) (hs : Good n s) (hn : s.wait.length + 1 ≤ 100000) (hi : Inv s) (w : World) (hB : B ≤ w.heap.size) (h1 : One B d L s w) (hr : RW v s.wait w) :
    Calls Try.prog 52 #[.pointer (some ⟨d, 0, none⟩), RD (canon s) v, .agg (actCells x)] w (DoPost B d L (wrote s x.at_ x.text) w) := by
  obtain ⟨A, cap, rfl, -⟩ := hr.row
  have HS0 := Lib.hid (DoS.start (canon s) (.slice A s.wait.length cap) x w)
  have HB0 := Lib.hid (DoW.below (canon s) (.slice A s.wait.length cap) x w)
  have HR := Lib.hid (hr.below HB0.out)
  have HO := Lib.hid (h1.below HB0.out)
  have HG := Lib.hid hs
  have HX := Lib.hid hx
  have HN := Lib.hid hn
  have HC := Lib.hid (canon_wrote s x.at_ x.text hi)
  have HA := Lib.hid (canon_ans s x.at_ x.text).symm
  have gq := hs.canon
  have HGQ := Lib.hid gq
  have hcw : (canon s).wait = s.wait := canon_wait s
  have HCW := Lib.hid hcw
  clear gq hcw hs hx hi h1 hr hn
  unfold RD
  generalize hqq : canon s = q at *
  have HQ0 := Lib.hid hqq
  clear hqq
  obtain ⟨kd, at_, ct, t⟩ := x
  unfold DoW RCells actCells zeroR at HB0 HR HO HS0
  unfold actCells
  simp only at hk HX HB0 HR HO HS0 HC HA ⊢
  go_enter Try.func52, Try.ntmps52
  have hk3 : ((kd.toNat : Int) % 8 == 3) = false := by simp; omega
  have hk4 : ((kd.toNat : Int) % 8 == 4) = false := by simp; omega
  have hk5 : ((kd.toNat : Int) % 8 == 5) = false := by simp; omega
  have hk6 : ((kd.toNat : Int) % 8 == 6) = false := by simp; omega
  have hk7 : ((kd.toNat : Int) % 8 == 7) = false := by simp; omega
  go_wp2_with fail
  refine (HO.out.calls fun v1 hd => Write_any _ _ _ n v1 _ at_ t HG.out HN.out _ hd).mono ?_
  rintro e w2 ⟨rfl, o2, b2, kk2⟩
  have O2 := Lib.hid o2
  have KK2 := Lib.hid kk2
  have B2 := Lib.hid ((HB0.out.mono hB).trans b2)
  have S2 := Lib.hid (HS0.out.kept kk2)
  have HR2 := Lib.hid (show RW (.slice A s.wait.length cap) q.wait w2 from by rw [HCW.out]; exact HR.out.kept kk2)
  have hs2 : B ≤ w2.heap.size := Nat.le_trans hB (Nat.le_of_lt (Nat.lt_trans (by omega) S2.out.h6.lt))
  clear o2 b2 kk2
  rw [HA.out]
  have k0 := S2.out.k0; have k1 := S2.out.k1; have k2 := S2.out.k2; have k3 := S2.out.k3; have k4 := S2.out.k4; have k5 := S2.out.k5; have kf := S2.out.h4.frozen
  have a0 := S2.out.a0; have a1 := S2.out.a1; have a2 := S2.out.a2; have a3 := S2.out.a3
  have z0 := S2.out.z0; have z1 := S2.out.z1; have z2 := S2.out.z2; have z3 := S2.out.z3; have z4 := S2.out.z4; have z5 := S2.out.z5; have zf := S2.out.h6.frozen
  go_wp2_with fail
  refine (rPut_calls n q _ at_ t HGQ.out _ HR2.out).mono ?_
  rintro e w3 ⟨v3, rfl, r3, b3⟩
  obtain ⟨A3, cap3, rfl, -⟩ := r3.row
  have S3 := Lib.hid (S2.out.kept (Kept.of_below b3))
  have HP := Lib.hid (show PlI B d L (wrote s at_ t) (.slice A3 (wrote q at_ t).wait.length cap3) w.heap.size (w.heap.size + 2) w w3 from
    ⟨O2.out.below b3, by
      have e : (wrote q at_ t).wait = (wrote s at_ t).wait := by rw [← HC.out.1, canon_wait]
      rw [e] at r3 ⊢
      exact r3, B2.out.trans (b3.mono hs2), ((Kept.of_below HB0.out).trans KK2.out).trans (Kept.of_below b3), ⟨_, S3.out.h4⟩, ⟨_, S3.out.h6⟩⟩)
  have HQ := Lib.hid (show canon (wrote s at_ t) = wrote q at_ t from HC.out.1)
  clear r3 b3 k0 k1 k2 k3 k4 k5 kf a0 a1 a2 a3 z0 z1 z2 z3 z4 z5 zf
  unfold RD
  have k0 := S3.out.k0; have k1 := S3.out.k1; have k2 := S3.out.k2; have k3 := S3.out.k3; have k4 := S3.out.k4; have k5 := S3.out.k5; have kf := S3.out.h4.frozen
  have a0 := S3.out.a0; have a1 := S3.out.a1; have a2 := S3.out.a2; have a3 := S3.out.a3
  have z0 := S3.out.z0; have z1 := S3.out.z1; have z2 := S3.out.z2; have z3 := S3.out.z3; have z4 := S3.out.z4; have z5 := S3.out.z5; have zf := S3.out.h6.frozen
  generalize wrote q at_ t = q3 at *
  generalize ans q at_ t = r3 at *
  go_wp2_with fail
  refine bodyPost_ret (v := .tuple #[RD q3 (.slice A3 q3.wait.length cap3), .bool true]) (by simp [results, Try.results52, go_sem, RD, z0, z1, z2, z3, z4, z5]) rfl ?_
  have h := ((HP.out.six hB (Nat.le_refl _) (by omega) (.string (Oct.bs q3.last)) (.slice A3 q3.wait.length cap3) (.bool q3.on) (.bool q3.armed) (.int .i64 q3.syncs) (.int .i64 q3.cut)).swap).six hB (by omega) (by omega) (.string (Oct.bs q3.last)) (.slice A3 q3.wait.length cap3) (.bool q3.on) (.bool q3.armed) (.int .i64 q3.syncs) (.int .i64 q3.cut)
  exact h.post (by rw [HQ.out])
theorem canon_read (s : DSt) (k : Int) : readOf s k = readOf (canon s) k := by unfold readOf; rw [canon_chk, canon_last, canon_wait]
theorem rRead_any (n : Nat) (s : DSt) (v : Value) (k : Int) (hs : Good n s) (w : World) (hr : RW v s.wait w) :
    Calls Try.prog 79 #[RD s v, .int .i64 k] w fun e w' => e = .returned (.tuple #[.string (readOf s k), .int .i64 (chk s k)]) ∧ Below w.heap.size w w' := rRead_calls n s v k hs w hr
set_option maxRecDepth 100000 in
set_option maxHeartbeats 2000000 in
theorem do_read (B d L n : Nat) (s : DSt) (v : Value) (x : DAct) (hk : x.kind.toNat % 8 = 4) (hx : x.Ok) (hs : Good n s) (hn : s.wait.length + 1 ≤ 100000) (_ : Inv s) (w : World) (hB : B ≤ w.heap.size) (h1 : One B d L s w) (hr : RW v s.wait w) :
    Calls Try.prog 52 #[.pointer (some ⟨d, 0, none⟩), RD (canon s) v, .agg (actCells x)] w (DoPost B d L (s) w) := by
  obtain ⟨A, cap, rfl, -⟩ := hr.row
  have HS0 := Lib.hid (DoS.start (canon s) (.slice A s.wait.length cap) x w)
  have HB0 := Lib.hid (DoW.below (canon s) (.slice A s.wait.length cap) x w)
  have HR := Lib.hid (hr.below HB0.out)
  have HO := Lib.hid (h1.below HB0.out)
  have HG := Lib.hid hs
  have HX := Lib.hid hx
  have HN := Lib.hid hn
  have HC := Lib.hid (And.intro (canon_read s x.at_) (canon_chk s x.at_).symm)
  have gq := hs.canon
  have HGQ := Lib.hid gq
  have hcw : (canon s).wait = s.wait := canon_wait s
  have HCW := Lib.hid hcw
  clear gq hcw hs hx h1 hr hn
  unfold RD
  generalize hqq : canon s = q at *
  have HQ0 := Lib.hid hqq
  clear hqq
  obtain ⟨kd, at_, ct, t⟩ := x
  unfold DoW RCells actCells zeroR at HB0 HR HO HS0
  unfold actCells
  simp only at hk HX HB0 HR HO HS0 HC ⊢
  go_enter Try.func52, Try.ntmps52
  have hk' : (kd.toNat : Int) % 8 = 4 := by omega
  go_wp2_with fail
  refine (HO.out.calls fun v1 hd => (Read_any _ _ _ n v1 _ at_ HG.out _ hd).mono fun _ _ h => post_of_below hd h.1 h.2).mono ?_
  rintro e w2 ⟨rfl, o2, b2, kk2⟩
  have O2 := Lib.hid o2
  have KK2 := Lib.hid kk2
  have B2 := Lib.hid ((HB0.out.mono hB).trans b2)
  have S2 := Lib.hid (HS0.out.kept kk2)
  have HR2 := Lib.hid (show RW (.slice A s.wait.length cap) q.wait w2 from by rw [HCW.out]; exact HR.out.kept kk2)
  have hs2 : B ≤ w2.heap.size := Nat.le_trans hB (Nat.le_of_lt (Nat.lt_trans (by omega) S2.out.h6.lt))
  clear o2 b2 kk2
  rw [HC.out.1, HC.out.2]
  have k0 := S2.out.k0; have k1 := S2.out.k1; have k2 := S2.out.k2; have k3 := S2.out.k3; have k4 := S2.out.k4; have k5 := S2.out.k5; have kf := S2.out.h4.frozen
  have a0 := S2.out.a0; have a1 := S2.out.a1; have a2 := S2.out.a2; have a3 := S2.out.a3
  have z0 := S2.out.z0; have z1 := S2.out.z1; have z2 := S2.out.z2; have z3 := S2.out.z3; have z4 := S2.out.z4; have z5 := S2.out.z5; have zf := S2.out.h6.frozen
  go_wp2_with fail
  refine (rRead_any n q _ at_ HGQ.out _ HR2.out).mono ?_
  rintro e w3 ⟨rfl, b3⟩
  have S3 := Lib.hid (S2.out.kept (Kept.of_below b3))
  have HP := Lib.hid (show PlI B d L s (.slice A s.wait.length cap) w.heap.size (w.heap.size + 2) w w3 from
    ⟨O2.out.below b3, by have h := HR2.out; rw [HCW.out] at h; exact h.below b3, B2.out.trans (b3.mono hs2), ((Kept.of_below HB0.out).trans KK2.out).trans (Kept.of_below b3), ⟨_, S3.out.h4⟩, ⟨_, S3.out.h6⟩⟩)
  clear b3 k0 k1 k2 k3 k4 k5 kf a0 a1 a2 a3 z0 z1 z2 z3 z4 z5 zf
  have k0 := S3.out.k0; have k1 := S3.out.k1; have k2 := S3.out.k2; have k3 := S3.out.k3; have k4 := S3.out.k4; have k5 := S3.out.k5; have kf := S3.out.h4.frozen
  have a0 := S3.out.a0; have a1 := S3.out.a1; have a2 := S3.out.a2; have a3 := S3.out.a3
  have z0 := S3.out.z0; have z1 := S3.out.z1; have z2 := S3.out.z2; have z3 := S3.out.z3; have z4 := S3.out.z4; have z5 := S3.out.z5; have zf := S3.out.h6.frozen
  generalize readOf q at_ = x1 at *
  generalize chk q at_ = x2 at *
  go_wp2_with fail
  refine bodyPost_ret (v := .tuple #[RD q (.slice A s.wait.length cap), .bool true]) (by simp [results, Try.results52, go_sem, RD, z0, z1, z2, z3, z4, z5]) rfl ?_
  have h := (HP.out.swap).six hB (by omega) (by omega) (.string (Oct.bs q.last)) (.slice A s.wait.length cap) (.bool q.on) (.bool q.armed) (.int .i64 q.syncs) (.int .i64 q.cut)
  exact h.post (by rw [HQ0.out])
theorem do_any (B d L n : Nat) (s : DSt) (v : Value) (x : DAct) (hx : x.Ok) (hs : Good n s) (hn : s.wait.length + 1 ≤ 100000) (hi : Inv s) (w : World) (hB : B ≤ w.heap.size) (h1 : One B d L s w) (hr : RW v s.wait w) :
    Calls Try.prog 52 #[.pointer (some ⟨d, 0, none⟩), RD (canon s) v, .agg (actCells x)] w (DoPost B d L (step s x) w) := by
  unfold step
  split
  · exact do_sync B d L n s v x ‹_› hx hs hn hi w hB h1 hr
  · split
    · exact do_read B d L n s v x ‹_› hx hs hn hi w hB h1 hr
    · split
      · exact do_arm B d L n s v x ‹_› hx hs hn hi w hB h1 hr
      · split
        · exact do_down B d L n s v x ‹_› hx hs hn hi w hB h1 hr
        · split
          · exact do_up B d L n s v x ‹_› hx hs hn hi w hB h1 hr
          · exact do_write B d L n s v x (by omega) hx hs hn hi w hB h1 hr
theorem step_inv (n : Nat) (s : DSt) (x : DAct) (hx : x.Ok) (hs : Good n s) (hi : Inv s) (hn : s.wait.length + 1 ≤ 100000) : Good n (step s x) ∧ Inv (step s x) ∧ (step s x).wait.length ≤ s.wait.length + 1 := by
  unfold step
  split
  · refine ⟨?_, (canon_sync n s hs hi).2.2, ?_⟩
    · unfold synced
      split
      · split
        · exact hs.down _
        · exact ⟨(fun x hx => by cases hx), all_length n _ _ hs.len hs.fits, hs.hn, Nat.zero_le _, by have h := hs.syncs; show 0 ≤ max 0 (s.syncs - 1) ∧ max 0 (s.syncs - 1) ≤ _; omega, hs.cut⟩
      · exact hs
    · unfold synced down
      split
      · split
        · first | simp | (split <;> simp)
        · simp
      · simp
  · split
    · exact ⟨hs, hi, by omega⟩
    · split
      · refine ⟨?_, (canon_arm s _ _ hi).2, ?_⟩
        · unfold armed
          split
          · have h1 := hx.1; have h2 := hx.2.1
            exact ⟨hs.fits, hs.len, hs.hn, hs.many, by show 0 ≤ max 0 x.at_ ∧ max 0 x.at_ ≤ _; omega, by show 0 ≤ max 0 x.cut ∧ max 0 x.cut ≤ _; omega⟩
          · exact hs
        · unfold armed
          split <;> simp
      · split
        · exact ⟨hs.down _, (canon_down s _ hi).2, by unfold down; split <;> simp⟩
        · split
          · refine ⟨?_, (canon_up s hi).2, ?_⟩
            · unfold upped
              split
              · exact hs
              · exact ⟨hs.fits, hs.len, hs.hn, hs.many, by simp, by simp⟩
            · unfold upped
              split <;> simp
          · exact ⟨hs.wrote _ _ hn, (canon_wrote s _ _ hi).2, by unfold wrote; split <;> simp⟩
end Go.Proofs.Ytopacbmdoognjaa.Disk
