/- The walk of the document's Begin, where it writes. -/
import Derived.Test.YtjnjcjildiadgaaGreatDoorWalRefBegin
import Derived.Test.YtjnjcjildiadgaaGreatDoorDiskAwake
import Derived.RegionTactic
import Derived.Deep.RegionWith
import Derived.Deep.RegionHeld3
import Derived.BigRegion
namespace Go.Proofs.YtjnjcjildiadgaaGreatDoor.Wl
open Go Go.RowKit Frame Oct Disk
section
variable (s : DSt) (l : LSt) (h : Nat) (img : List UInt8)
def bA (k : Nat) : Nat := if k = 1 then h * tgt l.area + 1 else h * tgt l.area
def bN (k : Nat) : Nat := if k = 1 then h - 1 else 1
def bX (k : Nat) : List UInt8 := if k = 0 then noughts 64 else if k = 1 then pad (Sg.one img) (h - 1) else pad (headOf (l.gen + 1)) 1
def bst : Nat → DSt
  | 0 => s
  | k + 1 => (putS (bst k) (bA l h k) (bN h k) (bX l h img k)).1
def ber (k : Nat) : Int := (putS (bst s l h img k) (bA l h k) (bN h k) (bX l h img k)).2
end
theorem bX_length {l : LSt} {h : Nat} {img : List UInt8} (hl : (Sg.one img).length ≤ 64 * (h - 1)) (k : Nat) : (bX l h img k).length = 64 * bN h k := by
  unfold bX bN
  by_cases h0 : k = 0
  · subst h0; simp
  rw [if_neg h0]
  by_cases h1 : k = 1
  · rw [if_pos h1, if_pos h1]; exact pad_length _ _ hl
  · rw [if_neg h1, if_neg h1]; exact pad_length _ _ (by rw [headOf_length]; decide)
theorem beg_err {s : DSt} {l : LSt} {h : Nat} {img : List UInt8} (he : beginE l h img = 0) {k : Nat} (hk : k < 3) (h0 : ∀ j, j < k → ber s l h img j = 0) (h1 : ber s l h img k ≠ 0) :
    beginS s l h img = (bst s l h img (k + 1), brk l, ber s l h img k) := by
  have e0 : ber s l h img 0 = (putS s (h * tgt l.area) 1 (noughts 64)).2 := rfl
  have b1 : bst s l h img 1 = (putS s (h * tgt l.area) 1 (noughts 64)).1 := rfl
  have e1 : ber s l h img 1 = (putS (bst s l h img 1) (h * tgt l.area + 1) (h - 1) (pad (Sg.one img) (h - 1))).2 := rfl
  have b2 : bst s l h img 2 = (putS (bst s l h img 1) (h * tgt l.area + 1) (h - 1) (pad (Sg.one img) (h - 1))).1 := rfl
  have e2 : ber s l h img 2 = (putS (bst s l h img 2) (h * tgt l.area) 1 (pad (headOf (l.gen + 1)) 1)).2 := rfl
  have b3 : bst s l h img 3 = (putS (bst s l h img 2) (h * tgt l.area) 1 (pad (headOf (l.gen + 1)) 1)).1 := rfl
  match k, hk with
  | 0, _ => exact begin_1 he (by rw [b1, e0]) h1
  | 1, _ => exact begin_2 he (d1 := bst s l h img 1) (by rw [b1]; exact Prod.ext rfl (e0.symm.trans (h0 0 (by decide)))) (by rw [b2, e1]) h1
  | 2, _ => exact begin_3 he (d1 := bst s l h img 1) (d2 := bst s l h img 2) (by rw [b1]; exact Prod.ext rfl (e0.symm.trans (h0 0 (by decide)))) (by rw [b2]; exact Prod.ext rfl (e1.symm.trans (h0 1 (by decide)))) (by rw [b3, e2]) h1
theorem beg_ok {s : DSt} {l : LSt} {h : Nat} {img : List UInt8} (he : beginE l h img = 0) (h0 : ∀ j, j < 3 → ber s l h img j = 0) :
    beginS s l h img = (bst s l h img 3, ⟨(tgt l.area : Nat), l.gen + 1, true, false, Sg.one img, []⟩, 0) := by
  have e0 : ber s l h img 0 = (putS s (h * tgt l.area) 1 (noughts 64)).2 := rfl
  have b1 : bst s l h img 1 = (putS s (h * tgt l.area) 1 (noughts 64)).1 := rfl
  have e1 : ber s l h img 1 = (putS (bst s l h img 1) (h * tgt l.area + 1) (h - 1) (pad (Sg.one img) (h - 1))).2 := rfl
  have b2 : bst s l h img 2 = (putS (bst s l h img 1) (h * tgt l.area + 1) (h - 1) (pad (Sg.one img) (h - 1))).1 := rfl
  have e2 : ber s l h img 2 = (putS (bst s l h img 2) (h * tgt l.area) 1 (pad (headOf (l.gen + 1)) 1)).2 := rfl
  have b3 : bst s l h img 3 = (putS (bst s l h img 2) (h * tgt l.area) 1 (pad (headOf (l.gen + 1)) 1)).1 := rfl
  exact begin_4 he (d1 := bst s l h img 1) (d2 := bst s l h img 2) (by rw [b1]; exact Prod.ext rfl (e0.symm.trans (h0 0 (by decide)))) (by rw [b2]; exact Prod.ext rfl (e1.symm.trans (h0 1 (by decide)))) (by rw [b3]; exact Prod.ext rfl (e2.symm.trans (h0 2 (by decide))))
theorem bA_le {n : Nat} {l : LSt} (h4 : 4 ≤ n) (k : Nat) : bA l (n / 2) k + bN (n / 2) k ≤ n := by
  have := tgt_mul (n / 2) l.area
  unfold bA bN
  by_cases h1 : k = 1
  · rw [if_pos h1, if_pos h1]; omega
  · rw [if_neg h1, if_neg h1]; omega
theorem bst_inv {n : Nat} {s : DSt} {l : LSt} {img : List UInt8} (hi : LInv n s l) (hv : Inv s) (hl : (Sg.one img).length ≤ 64 * (n / 2 - 1)) (k : Nat) : LInv n (bst s l (n / 2) img k) l ∧ Inv (bst s l (n / 2) img k) := by
  induction k with
  | zero => exact ⟨hi, hv⟩
  | succ k ih =>
    have ha := bA_le (l := l) hi.four k
    obtain ⟨g1, w1, -⟩ := putS_out ih.1.good ih.1.wait (bA l (n / 2) k) (bN (n / 2) k) (bX l (n / 2) img k) ha (bX_length hl k)
    obtain ⟨-, -, k1⟩ := canon_put ih.1.good ih.2 (bA l (n / 2) k) (bN (n / 2) k) (bX l (n / 2) img k) ha
    exact ⟨hi.to g1 w1, k1⟩
theorem pad_full (x : List UInt8) (N : Nat) (h : x.length = 64 * N) : pad x N = x := by unfold pad; rw [h, Nat.sub_self]; simp
/-- The document's put, in round k of a Begin. -/
theorem bput_calls {n : Nat} {s : DSt} {l : LSt} {img : List UInt8} (hi : LInv n s l) (hv : Inv s) (hl : (Sg.one img).length ≤ 64 * (n / 2 - 1)) (k : Nat) (hk : k < 3) (W : World) :
    Calls Tryz.prog 48 #[RD0 (canon (bst s l (n / 2) img k)), RL (n / 2) l, .int .i64 ((tgt l.area : Nat) : Int), .int .i64 ((k : Int) % 2), .string (bs (bX l (n / 2) img k))] W
      (fun e w' => e = .returned (.tuple #[RD0 (canon (bst s l (n / 2) img (k + 1))), .int .i64 (ber s l (n / 2) img k)]) ∧ Below W.heap.size W w') := by
  obtain ⟨i1, i2⟩ := bst_inv hi hv hl k
  have hx := bX_length (l := l) (h := n / 2) hl k
  have h4 := hi.four
  have h := rput0_calls n (bst s l (n / 2) img k) l i1.good i1.wait i2 (tgt l.area) (k % 2) (bN (n / 2) k) (bA l (n / 2) k) (bX l (n / 2) img k)
    (by omega) (by unfold bN; split <;> omega) (by unfold bA; match k, hk with | 0, _ => rfl | 1, _ => rfl | 2, _ => rfl) (bA_le h4 k) (tgt_le _) W
  rw [pad_full _ _ hx] at h
  exact h
/-- What holds in a round: the boxes, the steps' block. -/
structure RbI (z zs h : Nat) (q : DSt) (l : LSt) (X : Nat → List UInt8) (w wr : World) : Prop where
  i : RcI z (z + 1 + 1) (z + 1 + 1 + 1) h q l w wr
  st : Has zs #[.string (bs (X 0)), .string (bs (X 1)), .string (bs (X 2))] 9 wr
  lt : z + 3 < zs
theorem RbI.below {z zs h : Nat} {q : DSt} {l : LSt} {X : Nat → List UInt8} {w wr w' : World} (H : RbI z zs h q l X w wr) (hb : Below wr.heap.size wr w') : RbI z zs h q l X w w' := ⟨H.i.below hb, H.st.below hb, H.lt⟩
theorem RbI.cell {z zs h : Nat} {q : DSt} {l : LSt} {X : Nat → List UInt8} {w wr : World} (H : RbI z zs h q l X w wr) {k : Nat} (hk : k < 3) : wr.cell? ⟨zs, k, none⟩ = some (.string (bs (X k))) := by
  match k, hk with
  | 0, _ => exact H.st.cell 0
  | 1, _ => exact H.st.cell 1
  | 2, _ => exact H.st.cell 2
/-- The box has another disk. -/
theorem RbI.next {z zs h : Nat} {q q' : DSt} {l : LSt} {X : Nat → List UInt8} {w wr : World} (H : RbI z zs h q l X w wr) (hz : w.heap.size ≤ z) :
    RbI z zs h q' l X w (set6 wr z (.string (bs q'.last)) (.slice none 0 0) (.bool q'.on) (.bool q'.armed) (.int .i64 q'.syncs) (.int .i64 q'.cut)) := by
  have hlt := H.lt
  exact ⟨H.i.next hz (by omega) (by omega), set6_other H.st (by omega) _ _ _ _ _ _, hlt⟩
theorem cellG {b : Nat} {a0 a1 a2 a3 a4 a5 a6 : Value} {t : TypeId} {w : World} (h : Has b #[a0, a1, a2, a3, a4, a5, a6] t w) : w.cell? ⟨b, 2, none⟩ = some a2 := h.cell 2
set_option maxRecDepth 100000 in
set_option maxHeartbeats 6000000 in
theorem rBegin_main (n : Nat) (s : DSt) (l : LSt) (img : List UInt8) (hi : LInv n s l) (hv : Inv s) (he : beginE l (n / 2) img = 0) (w : World) :
    Calls Tryz.prog 29 #[RD0 (canon s), RL (n / 2) l, .string (bs img)] w (RBeg n s l img w) := by
  obtain ⟨hb, hbad, he2, he1, hlen, hgen⟩ := beginE_ok he
  have HS0 := Lib.hid (RcI.start (n / 2) (canon s) l w)
  have HRV := Lib.hid (show RL (n / 2) l = .agg #[.int .i64 ((n / 2 : Nat) : Int), .int .i64 l.area, .int .u64 (l.gen : Int), .bool l.ready, .bool l.broken, .string (bs l.done), .string (bs l.wait)] from rfl)
  have HRD := Lib.hid (show ∀ q, RD0 q = .agg #[.string (Oct.bs q.last), .slice none 0 0, .bool q.on, .bool q.armed, .int .i64 q.syncs, .int .i64 q.cut] from fun q => rfl)
  have HMK := Lib.hid (fun s' l' x q' w' => RBeg.mk (n := n) (s := s) (l := l) (img := img) (s' := s') (l' := l') (x := x) (q' := q') (w := w) (w' := w'))
  have HBE := Lib.hid (fun k (hk : k < 3) h0 h1 => beg_err (s := s) he hk h0 h1)
  have HBO := Lib.hid (fun h0 => beg_ok (s := s) he h0)
  have HPT := Lib.hid (fun k (hk : k < 3) W => bput_calls hi hv hlen k hk W)
  have HBK := Lib.hid hb
  have h4 := hi.four
  have hn := hi.good.hn
  have hq2 : 2 ≤ n / 2 ∧ n / 2 ≤ 2048 := by omega
  have hg := hi.gen
  have HGN := Lib.hid (show l.gen + 1 < 18446744073709551616 by omega)
  have hg' : ((l.gen : Int) == 18446744073709551615) = false := by simp; omega
  have HAT := Lib.hid (show ((l.area == 0) = true ∧ ((tgt l.area : Nat) : Int) = 1) ∨ ((l.area == 0) = false ∧ ((tgt l.area : Nat) : Int) = 0) by
    unfold tgt
    by_cases h : l.area = 0
    · left; simp [h]
    · right; simp [h])
  have HB2 := Lib.hid he2
  have HB1 := Lib.hid he1
  have HC0 := Lib.hid (show canon s = canon (bst s l (n / 2) img 0) from rfl)
  have HX0 := Lib.hid (show noughts 64 = bX l (n / 2) img 0 from rfl)
  have HX1 := Lib.hid (show bs (Sg.one img) ++ bs (noughts (64 * (n / 2 - 1) - (Sg.one img).length)) = bs (bX l (n / 2) img 1) from by rw [bs_append]; rfl)
  have HX2 := Lib.hid (show bs (headOf (l.gen + 1)) ++ bs (noughts 47) = bs (bX l (n / 2) img 2) from by
    rw [bs_append]
    show _ = bs (pad (headOf (l.gen + 1)) 1)
    unfold pad
    rw [headOf_length])
  generalize bst s l (n / 2) img = Q at *
  generalize ber s l (n / 2) img = E at *
  generalize bX l (n / 2) img = X at *
  clear hi hv he hb hbad he1 he2 hg hgen h4 hn
  rw [HC0.out]
  rw [HC0.out] at HS0
  generalize hqh : n / 2 = qh at *
  have HQH := Lib.hid hqh
  clear hqh
  generalize hqq : canon (Q 0) = q at *
  have HQ := Lib.hid hqq
  clear hqq
  unfold RC zeroL RCells zeroR at HS0
  rw [HRV.out, HRD.out]
  go_enter Tryz.func29, Tryz.ntmps29
  go_upto_region 1 with fail
  generalize ((((w.alloc (.cells #[.string (Oct.bs q.last), .slice none 0 0, .bool q.on, .bool q.armed, .int .i64 q.syncs, .int .i64 q.cut] 30)).alloc (.cells #[.int .i64 (qh : Int), .int .i64 l.area, .int .u64 (l.gen : Int), .bool l.ready, .bool l.broken, .string (bs l.done), .string (bs l.wait)] 35)).alloc (.cells #[.string ⟨#[]⟩, .slice none 0 0, .bool false, .bool false, .int .i64 0, .int .i64 0] 30)).alloc (.cells #[.int .i64 0, .int .i64 0, .int .u64 0, .bool false, .bool false, .string ⟨#[]⟩, .string ⟨#[]⟩] 35)) = w1 at *
  generalize hzz : w.heap.size = z at *
  have HZZ := Lib.hid hzz
  clear hzz
  have n1 : ¬ z = z + 2 := by omega
  have n2 : ¬ z = z + 3 := by omega
  have n3 : ¬ z + 1 = z + 2 := by omega
  have n4 : ¬ z + 1 = z + 3 := by omega
  have n5 : ¬ z + 2 = z := by omega
  have n6 : ¬ z + 3 = z := by omega
  have n7 : ¬ z + 2 = z + 1 := by omega
  have n8 : ¬ z + 3 = z + 1 := by omega
  have n9 : ¬ z + 2 = z + 3 := by omega
  have n0 : ¬ z + 3 = z + 2 := by omega
  have hc4 := (six_facts HS0.out).2.1.2.2.2.2.1
  rw [HBK.out] at hc4
  have HN1 := Lib.hid (Has.new w1 #[.string (bs img)] 9)
  have HB1 := Lib.hid (show Below w1.heap.size w1 (w1.alloc (.cells #[.string (bs img)] 9)) from (Below.refl _ _).alloc (Nat.le_refl _) _)
  have HBY := Lib.hid (show Calls Tryz.prog 50 #[.slice (some ⟨w1.heap.size, 0, none⟩) 1 1] (w1.alloc (.cells #[.string (bs img)] 9)) _ from Sg.refBytes_calls (some ⟨w1.heap.size, 0, none⟩) 1 [img] (by simp) _ (Sg.SS.one HN1.out))
  go_wp2_with fail
  refine HBY.out.mono ?_
  rintro e w2 ⟨rfl, b2⟩
  have HS2 := Lib.hid (HS0.out.below (bthen HB1.out b2))
  clear b2 HBY HN1 HB1 hc4
  rw [HB2.out, HB1.out]
  clear HB2 HB1
  have hm1 := hlen
  have hzo : (bs (Sg.one img)).size = (Sg.one img).length := bs_size _
  generalize Sg.one img = b at *
  obtain ⟨m, hm⟩ : ∃ m, m = 64 * (qh - 1) - b.length := ⟨_, rfl⟩
  rw [← hm] at HX1
  have g1 : IntKind.i64.wrap ((qh : Int) - 1) = (qh : Int) - 1 := IntWalk.i64_in _ (by omega)
  have g2 : IntKind.i64.wrap (64 * ((qh : Int) - 1)) = 64 * ((qh : Int) - 1) := IntWalk.i64_in _ (by omega)
  have g3 : IntKind.i64.wrap (64 * ((qh : Int) - 1) - (b.length : Int)) = (m : Int) := by rw [IntWalk.i64_in _ (by omega)]; omega
  have g4 : IntKind.u64.wrap ((l.gen : Int) + 1) = (l.gen : Int) + 1 := IntWalk.u64_in _ (by have := HGN.out; omega)
  have hsp' : ¬ 64 * ((qh : Int) - 1) < (b.length : Int) := by omega
  have hmm : m ≤ 131072 := by omega
  have hbl : b.length ≤ 131072 := by omega
  have HN64 := Lib.hid (fun W => Disk.Noughts_calls 64 (by decide) W)
  have HN47 := Lib.hid (fun W => Disk.Noughts_calls 47 (by decide) W)
  have HNM := Lib.hid (fun W => Disk.Noughts_calls m (by omega) W)
  have HHD := Lib.hid (fun W => rHead_calls (l.gen + 1) HGN.out W)
  rw [show ((l.gen + 1 : Nat) : Int) = (l.gen : Int) + 1 by omega] at HHD
  have hx1 := HX1.out
  have hx2 := HX2.out
  have hz1 : (bs (noughts m)).size = m := by rw [bs_size]; simp
  have hz2 : (bs (noughts 47)).size = 47 := by rw [bs_size]; simp
  unfold noughts at HX0 HX2 hx2 hz2
  rw [HX0.out] at HN64
  generalize List.replicate 47 (0 : UInt8) = N47 at *
  have hz3 : (bs (headOf (l.gen + 1))).size = 17 := by rw [bs_size]; exact headOf_length _
  have hcc : ¬ (9223372036854775807 < b.length + m) := by omega
  clear hm hm1 hlen
  obtain ⟨⟨y0, y1, y2, y3, y4, y5⟩, ⟨c0, c1, c2, c3, c4, c5, c6⟩, ⟨u0, u1, u2, u3, u4, u5⟩, ⟨v0, v1, v2, v3, v4, v5, v6⟩, yf, cf, uf, vf⟩ := six_facts HS2.out
  rw [HBK.out] at c4
  rcases HAT.out with ⟨hA, hAV⟩ | ⟨hA, hAV⟩
  all_goals
    obtain ⟨AV, hAVe⟩ : ∃ AV : Int, AV = ((tgt l.area : Nat) : Int) := ⟨_, rfl⟩
    rw [hAV] at HPT hAVe
    subst hAVe
    have HAV := Lib.hid hAV
    clear hAV
    go_wp2_with fail
    have HL0 := Lib.hid (show Has (z + 1) #[.int .i64 (qh : Int), .int .i64 l.area, .int .u64 (l.gen : Int), .bool l.ready, .bool l.broken, .string (bs l.done), .string (bs l.wait)] 35 w2 from HS2.out.g)
    go_region_held3 (fun w' => w'.cell? ⟨z + 1, 2, none⟩ = some (.int .u64 (l.gen : Int)) ∧ Below w2.heap.size w2 w')
      ((refine ⟨cellG (a0 := .int .i64 (qh : Int)) (a1 := .int .i64 l.area) (a3 := .bool l.ready) (a4 := .bool l.broken) (a5 := .string (bs l.done)) (a6 := .string (bs l.wait)) (t := 35) ?_, ?_⟩ <;> repeat (first | (with_reducible exact HL0.out) | (with_reducible exact Below.refl _ _) | (with_reducible refine Has.drew ?_) | (with_reducible refine Has.below ?_ (by with_reducible assumption)) | (with_reducible refine Below.drew ?_) | (with_reducible refine bthen ?_ (by with_reducible assumption)) | (with_reducible refine Has.alloc ?_ _) | (with_reducible refine Below.alloc ?_ ?_ _) | (with_reducible refine Below.size (B := w2.heap.size) ?_))))
      (first
        | (go_at_call 23; with_reducible refine Calls.mono (HN64.out _) ?_; rintro e w1 ⟨rfl, b1⟩)
        | (go_at_call 23; with_reducible refine Calls.mono (HN47.out _) ?_; rintro e w1 ⟨rfl, b1⟩)
        | (go_at_call 23; with_reducible refine Calls.mono (HNM.out _) ?_; rintro e w1 ⟨rfl, b1⟩)
        | (go_at_call 51; with_reducible refine Calls.mono (HHD.out _) ?_; rintro e w1 ⟨rfl, b1⟩))
    rename_i wa ba wb bb wc bc hH
    have hsz : w2.heap.size ≤ w1.heap.size := Nat.le_trans (show w2.heap.size ≤ wa.heap.size from ba.size) (Nat.le_trans bb.size (Nat.le_trans bc.size b1.size))
    have hzl : z + 3 < w2.heap.size := Has.lt HS2.out.zg
    have HR0 := Lib.hid (show RbI z w1.heap.size qh q l X w (w1.alloc (.cells #[.string (bs (X 0)), .string (bs (X 1)), .string (bs (X 2))] 9)) from ⟨HS2.out.below hH.2, Has.new _ _ _, by omega⟩)
    clear HS2 hH ba bb bc b1 HL0 HN64 HN47 HNM HHD hx1 hx2 hz1 hz2 hz3 hcc HX0 HX1 HX2 y0 y1 y2 y3 y4 y5 c0 c1 c2 c3 c4 c5 c6 u0 u1 u2 u3 u4 u5 v0 v1 v2 v3 v4 v5 v6 yf cf uf vf g1 g2 g3 hzo hsp' hmm
    clear wa wb wc
    have hzl2 : z + 3 < w1.heap.size := by omega
    have hzs : w1.heap.size < (w1.alloc (.cells #[.string (bs (X 0)), .string (bs (X 1)), .string (bs (X 2))] 9)).heap.size := by simp
    generalize w1.alloc (.cells #[.string (bs (X 0)), .string (bs (X 1)), .string (bs (X 2))] 9) = w3 at *
    generalize hgs : w1.heap.size = zs at *
    clear hsz hgs
    go_wp2_with fail
    go_loopw [72] (fun i wr => ∃ k : Nat, k ≤ 3 ∧ i = .int .i64 k ∧ Hid (∀ j, j < k → E j = 0) ∧ Hid (RbI z zs qh (canon (Q k)) l X w wr)) (fun i _ => 3 - (intOf i).toNat)
    case atStart => exact ⟨0, by omega, rfl, Lib.hid (fun j hj => absurd hj (Nat.not_lt_zero j)), by rw [HQ.out]; exact HR0⟩
    case round =>
      obtain ⟨k, hk, rfl, hE0, hP⟩ := hrel
      clear HR0
      by_cases hlt : k < 3
      · have HPK := Lib.hid (fun W => HPT.out k hlt W)
        have HEK := Lib.hid (HBE.out k hlt hE0.out)
        have hck := hP.out.cell hlt
        have HE1 := Lib.hid (fun (h : E k = 0) j (hj : j < k + 1) => (if hjk : j < k then hE0.out j hjk else (show j = k by omega) ▸ h : E j = 0))
        generalize hqk : canon (Q k) = qk at *
        generalize hqk1 : canon (Q (k + 1)) = q2 at *
        have HQ2 := Lib.hid hqk1
        clear hqk hqk1
        generalize E k = e1 at *
        simp only [HRD.out, HRV.out] at HPK
        have hk3 : (k : Int) < 3 := by omega
        obtain ⟨⟨y0, y1, y2, y3, y4, y5⟩, ⟨c0, c1, c2, c3, c4, c5, c6⟩, -, -, -, -, -, -⟩ := six_facts hP.out.i
        go_wp2_with fail
        refine (HPK.out _).mono ?_
        rintro e w4 ⟨rfl, b4⟩
        have HP4 := Lib.hid (hP.out.below b4)
        have HPA := Lib.hid (HP4.out.below ((Below.refl _ _).alloc (Nat.le_refl _) (.cells #[.string (bs q2.last), .slice none 0 0, .bool q2.on, .bool q2.armed, .int .i64 q2.syncs, .int .i64 q2.cut] 30)))
        have HP5 := Lib.hid (HPA.out.next (q' := q2) (by have := HZZ.out; omega))
        unfold set6 at HP5
        clear b4 y0 y1 y2 y3 y4 y5 c0 c1 c2 c3 c4 c5 c6 hck HPK
        obtain ⟨⟨y0, y1, y2, y3, y4, y5⟩, -, -, -, yf, -, -, -⟩ := six_facts HPA.out.i
        go_upto_region 20 with fail
        generalize ((((((w4.alloc (.cells #[.string (bs q2.last), .slice none 0 0, .bool q2.on, .bool q2.armed, .int .i64 q2.syncs, .int .i64 q2.cut] 30)).setCell ⟨z, 0, none⟩ (.string (bs q2.last))).setCell ⟨z, 1, none⟩ (.slice none 0 0)).setCell ⟨z, 2, none⟩ (.bool q2.on)).setCell ⟨z, 3, none⟩ (.bool q2.armed)).setCell ⟨z, 4, none⟩ (.int .i64 q2.syncs)).setCell ⟨z, 5, none⟩ (.int .i64 q2.cut) = w5 at *
        clear HP4 HPA y0 y1 y2 y3 y4 y5 yf
        by_cases he : e1 ≠ 0
        · have he' : (e1 != 0) = true := by simpa using he
          have HE := Lib.hid (HEK.out he)
          clear he
          obtain ⟨⟨y0, y1, y2, y3, y4, y5⟩, ⟨c0, c1, c2, c3, c4, c5, c6⟩, -, -, -, -, -, -⟩ := six_facts HP5.out.i
          have HBRK := Lib.hid (show ∀ W, Calls Tryz.prog 49 #[.agg #[.int .i64 (qh : Int), .int .i64 l.area, .int .u64 (l.gen : Int), .bool l.ready, .bool l.broken, .string (bs l.done), .string (bs l.wait)]] W (fun e w' => e = .returned (.agg #[.int .i64 (qh : Int), .int .i64 l.area, .int .u64 (l.gen : Int), .bool false, .bool true, .string (bs l.done), .string (bs l.wait)]) ∧ Below W.heap.size W w') from fun W => rbroken_calls qh l W)
          go_wp2_with fail
          go_region_with (go_at_call 49; refine (HBRK.out _).mono ?_; rintro e w6 ⟨rfl, b6⟩; have HP6 := Lib.hid (HP5.out.i.drew.below b6); obtain ⟨⟨x0, x1, x2, x3, x4, x5⟩, -, ⟨t0, t1, t2, t3, t4, t5⟩, ⟨r0, r1, r2, r3, r4, r5, r6⟩, -, -, tf, rf⟩ := six_facts HP6.out)
          all_goals
            go_wp2_with fail
            refine bodyPost_ret (v := .tuple #[RD0 q2, RL qh (brk l), .int .i64 e1]) (by rw [HRD.out, show RL qh (brk l) = .agg #[.int .i64 (qh : Int), .int .i64 l.area, .int .u64 (l.gen : Int), .bool false, .bool true, .string (bs l.done), .string (bs l.wait)] from rfl]; simp [results, Tryz.results29, go_sem, t0, t1, t2, t3, t4, t5, r0, r1, r2, r3, r4, r5, r6]) rfl ?_
            refine HMK.out _ _ _ _ _ HE.out HQ2.out ?_
            have HB13 := below13 (b := z + 1 + 1) (c := z + 1 + 1 + 1) HP6.out.b (by have := HZZ.out; omega) (by have := HZZ.out; omega)
            unfold set6 set7 at HB13
            rw [HZZ.out] at HB13
            first
              | (with_reducible exact (HB13 _ _ _ _ _ _ _ _ _ _ _ _ _).1)
              | (with_reducible exact (HB13 _ _ _ _ _ _ _ _ _ _ _ _ _).2)
              | (with_reducible exact (HB13 _ _ _ _ _ _ _ _ _ _ _ _ _).1.drew)
              | (with_reducible exact (HB13 _ _ _ _ _ _ _ _ _ _ _ _ _).2.drew)
        · obtain rfl : e1 = 0 := by omega
          have HE2 := Lib.hid (HE1.out rfl)
          clear he
          go_wp2_with fail
          exact ⟨⟨k + 1, by omega, by go_num, HE2, by rw [HQ2.out]; exact HP5⟩, by simp [intOf]; omega⟩
      · obtain rfl : k = 3 := by omega
        have HE := Lib.hid (HBO.out hE0.out)
        generalize hq3 : canon (Q 3) = q3 at hP
        have HQ3 := Lib.hid hq3
        clear hq3
        obtain ⟨⟨y0, y1, y2, y3, y4, y5⟩, ⟨c0, c1, c2, c3, c4, c5, c6⟩, ⟨u0, u1, u2, u3, u4, u5⟩, ⟨v0, v1, v2, v3, v4, v5, v6⟩, -, -, uf, vf⟩ := six_facts hP.out.i
        have HRX := Lib.hid (show RL qh ⟨((tgt l.area : Nat) : Int), l.gen + 1, true, false, b, []⟩ = .agg #[.int .i64 (qh : Int), .int .i64 ((tgt l.area : Nat) : Int), .int .u64 ((l.gen : Int) + 1), .bool true, .bool false, .string (bs b), .string ⟨#[]⟩] from rfl)
        rw [HAV.out] at HRX HE
        go_wp2_with fail
        go_region
        all_goals
          go_wp2_with fail
          refine bodyPost_ret (v := .tuple #[RD0 q3, RL qh ⟨_, l.gen + 1, true, false, b, []⟩, .int .i64 0]) (by rw [HRD.out, HRX.out]; simp [results, Tryz.results29, go_sem, u0, u1, u2, u3, u4, u5, v0, v1, v2, v3, v4, v5, v6]) rfl ?_
          refine HMK.out _ _ _ _ _ HE.out HQ3.out ?_
          have HB13 := below13 (b := z + 1 + 1) (c := z + 1 + 1 + 1) hP.out.i.b (by have := HZZ.out; omega) (by have := HZZ.out; omega)
          unfold set6 set7 at HB13
          rw [HZZ.out] at HB13
          first
            | (with_reducible exact (HB13 _ _ _ _ _ _ _ _ _ _ _ _ _).1)
            | (with_reducible exact (HB13 _ _ _ _ _ _ _ _ _ _ _ _ _).2)
            | (with_reducible exact (HB13 _ _ _ _ _ _ _ _ _ _ _ _ _).1.drew)
            | (with_reducible exact (HB13 _ _ _ _ _ _ _ _ _ _ _ _ _).2.drew)
theorem rBegin_calls (n : Nat) (s : DSt) (l : LSt) (img : List UInt8) (hi : LInv n s l) (hv : Inv s) (w : World) :
    Calls Tryz.prog 29 #[RD0 (canon s), RL (n / 2) l, .string (bs img)] w (RBeg n s l img w) := by
  rcases Bool.eq_false_or_eq_true l.broken with hb | hb
  · exact rBegin_broken n s l img hb w
  by_cases he : beginE l (n / 2) img = 0
  · exact rBegin_main n s l img hi hv he w
  · exact rBegin_err n s l img hi.four hi.good.hn hb he w
end Go.Proofs.YtjnjcjildiadgaaGreatDoor.Wl
