/- Merged: WalAwake, WalRoom, WalActs, WalFallI. -/
import Derived.Test.YtjnjcjildiadgaaDoorWalP
import Derived.Test.YtjnjcjildiadgaaDoorWalLaw
import Derived.Test.YtjnjcjildiadgaaDoorDiskAwake
/- The chapter's example of wal. -/
namespace Go.Proofs.YtjnjcjildiadgaaDoor.Wl
open Go Go.RowKit Frame Oct Disk
/-- A disk whose power will not go. -/
def Calm (s : DSt) : Prop := s.on = true ∧ s.armed = false
theorem Calm.put {s : DSt} (h : Calm s) (a n : Nat) (x : List UInt8) : (putS s a n x).2 = 0 ∧ Calm (putS s a n x).1 := by
  have e : putS s a n x = ({ s with last := all s.last (wrs a x n), wait := [], syncs := max 0 (s.syncs - 1) }, 0) := by
    unfold putS
    rw [if_pos h.1]
    exact synced_on { s with wait := wrs a x n } h.1 (.inl h.2)
  rw [e]
  exact ⟨rfl, h.1, h.2⟩
theorem Calm.begin_ {s : DSt} {l : LSt} {h : Nat} {img : List UInt8} (hc : Calm s) (he : beginE l h img = 0) : ∃ s', beginS s l h img = (s', ⟨(tgt l.area : Nat), l.gen + 1, true, false, Sg.one img, []⟩, 0) ∧ Calm s' := by
  obtain ⟨a1, a2⟩ := hc.put (h * tgt l.area) 1 (noughts 64)
  obtain ⟨b1, b2⟩ := a2.put (h * tgt l.area + 1) (h - 1) (pad (Sg.one img) (h - 1))
  obtain ⟨c1, c2⟩ := b2.put (h * tgt l.area) 1 (pad (headOf (l.gen + 1)) 1)
  exact ⟨_, begin_4 he (Prod.ext rfl a1) (Prod.ext rfl b1) (Prod.ext rfl c1), c2⟩
theorem Calm.commit {s : DSt} {l : LSt} {h : Nat} (hc : Calm s) (he : checkE l = 0) : (commitS s l h).2.2 = 0 ∧ Calm (commitS s l h).1 := by
  unfold commitS
  rw [if_neg (by omega)]
  by_cases hw : l.wait = []
  · rw [if_pos hw]; exact ⟨rfl, hc⟩
  rw [if_neg hw]
  obtain ⟨a1, a2⟩ := hc.put (h * l.area.toNat + (1 + from_ l)) (many l) (pad (text l) (many l))
  simp only [a1]
  rw [if_neg (by decide)]
  exact ⟨rfl, a2⟩
theorem Calm.fresh (n : Nat) : Calm (fresh n) := ⟨rfl, rfl⟩
/-- A log on a new disk. -/
theorem open_fresh (h n : Nat) : opened h (fresh n).last = ⟨-1, 0, (opened h (fresh n).last).top, []⟩ := by
  have hS : Shape h (noughts (64 * n)) (-1) 0 [] := .inl ⟨rfl, rfl, rfl, fresh_rd _ _ _, fresh_rd _ _ _⟩
  obtain ⟨e1, e2, e3⟩ := hS.opened
  have e : (fresh n).last = noughts (64 * n) := rfl
  rw [e]
  generalize opened h (noughts (64 * n)) = o at *
  obtain ⟨a, g, t, b⟩ := o
  simp only at e1 e2 e3
  subst e1; subst e2; subst e3
  rfl
def l0 : LSt := ⟨-1, 0, false, false, [], []⟩
theorem openL_fresh (h n : Nat) : openL h (fresh n).last = l0 := by unfold openL; rw [open_fresh]; rfl
theorem OpenPost.fresh {d h n : Nat} {w w' : World} {e : Ending} (H : OpenPost d h (fresh n).last w e w') :
    ∃ A c, e = .returned (.tuple #[.pointer (some ⟨w.heap.size, 0, none⟩), .string ⟨#[]⟩, .slice A 0 c, .int .i64 0]) ∧ Lg w.heap.size d l0 w' ∧ Below w.heap.size w w' := by
  unfold OpenPost at H
  rw [openL_fresh, open_fresh] at H
  obtain ⟨v, he, ⟨A, c, rfl, -⟩, hl, hb⟩ := H
  exact ⟨A, c, he, hl, hb⟩
theorem LInv.fresh (n : Nat) (h4 : 4 ≤ n) (hn : n ≤ 4096) : LInv n (fresh n) l0 := ⟨Good.fresh n hn, rfl, h4, by decide, by decide, Nat.zero_le _, fun h => by cases h⟩
theorem Awake15_calls (w : World) : Calls Tryd.prog 26 #[] w fun e w' => e = .returned (.bool true) ∧ Below w.heap.size w w' := by
  go_enter Tryd.func26, Tryd.ntmps26
  go_wp2_with fail
  refine (Disk.awake_calls _).mono ?_
  rintro e w1 ⟨rfl, b1⟩
  have B1 := Lib.hid b1
  clear b1
  go_wp2_with fail
  go_ret
  exact ⟨rfl, B1.out⟩
theorem Awake16_calls (w : World) (hT : Crc.Tab w) : Calls Tryd.prog 27 #[] w fun e w' => e = .returned (.bool true) ∧ Below w.heap.size w w' := by
  go_enter Tryd.func27, Tryd.ntmps27
  go_wp2_with fail
  refine (Sg.awake_calls _ hT).mono ?_
  rintro e w1 ⟨rfl, b1⟩
  have B1 := Lib.hid b1
  clear b1
  go_wp2_with fail
  go_ret
  exact ⟨rfl, B1.out⟩
theorem ab_begin : beginE l0 6 [97, 98] = 0 := by decide +kernel
theorem ab_room : room ⟨((tgt l0.area : Nat) : Int), l0.gen + 1, true, false, Sg.one [97, 98], []⟩ 6 = 309 := by
  unfold room
  rw [if_pos rfl, Sg.one_length]
  rfl
set_option maxRecDepth 100000 in
set_option maxHeartbeats 1000000 in
theorem awake_calls (w : World) (hT : Crc.Tab w) : Calls Tryd.prog 6 #[] w fun e w' => e = .returned (.bool true) ∧ Below w.heap.size w w' := by
  have HTS := Lib.hid (Crc.Tab.size hT)
  have HT := Lib.hid hT
  clear hT
  go_enter Tryd.func6, Tryd.ntmps6
  go_wp2_with fail
  refine (New_one 12 (by decide) w).mono ?_
  rintro e w1 ⟨rfl, h1, b1⟩
  have H1 := Lib.hid h1
  have B1 := Lib.hid b1
  clear h1 b1
  go_wp2_with fail
  refine (Open_calls w.heap.size _ _ 12 (fresh 12) (Good.fresh 12 (by decide)) rfl rfl (by decide) w w1 HT.out HTS.out B1.out (Kept2.of_below B1.out) H1.out).mono ?_
  intro e w2 hop
  obtain ⟨A, c, rfl, hl2, b2⟩ := hop.fresh
  clear hop
  have H2 := Lib.hid (show WD w.heap.size w1.heap.size (w.heap.size + 1) w.heap.size (fresh 12) l0 w w2 from ⟨H1.out.below b2, hl2, B1.out.trans (b2.mono B1.out.size), (Kept2.of_below B1.out).trans (Kept2.of_below b2), B1.out.size⟩)
  clear hl2 b2
  generalize w1.heap.size = p at *
  go_wp2_with fail
  refine (Awake15_calls _).mono ?_
  rintro e w3 ⟨rfl, b3⟩
  have H3 := Lib.hid (H2.out.below b3)
  clear b3 H2
  go_wp2_with fail
  refine (Awake16_calls _ (tab_bel HT.out HTS.out H3.out.bel)).mono ?_
  rintro e w4 ⟨rfl, b4⟩
  have H4 := Lib.hid (H3.out.below b4)
  clear b4 H3
  go_wp2_with fail
  refine (Ready_calls p _ l0 _ H4.out.lg).mono ?_
  rintro e w5 ⟨rfl, rfl⟩
  go_wp2_with fail
  obtain ⟨s', hb', hcm⟩ := (Calm.fresh 12).begin_ (l := l0) (h := 6) ab_begin
  have HBG := Lib.hid hb'
  clear hb' hcm
  refine (Begin_calls w.heap.size p _ _ 12 (fresh 12) l0 (LInv.fresh 12 (by decide) (by decide)) [97, 98] w w4 HT.out HTS.out H4.out).mono ?_
  intro e w5 hbp
  unfold BegPost at hbp
  rw [HBG.out] at hbp
  obtain ⟨rfl, h5⟩ := hbp
  have H5 := Lib.hid h5
  have HLI := Lib.hid ((LInv.fresh 12 (by decide) (by decide)).begin_ [97, 98])
  rw [HBG.out] at HLI
  have HRM := Lib.hid ab_room
  clear h5 H4
  generalize ((tgt l0.area : Nat) : Int) = ar at *
  have HGE := Lib.hid (show l0.gen + 1 = 1 from rfl)
  rw [HGE.out] at H5 HLI HRM
  generalize hl1 : (⟨ar, 1, true, false, Sg.one [97, 98], []⟩ : LSt) = l1 at *
  have hr1 : l1.ready = true := by rw [← hl1]
  have hg1 : l1.gen = 1 := by rw [← hl1]
  clear hl1
  have HRD := Lib.hid (Ready_calls p _ l1 w5 H5.out.lg)
  rw [hr1] at HRD
  have HGN := Lib.hid (fun W (k : Below w5.heap.size w5 W) => Gen_calls p _ l1 W (H5.out.below k).lg)
  rw [hg1] at HGN
  have HRO := Lib.hid (Room_calls w.heap.size p _ _ 12 s' l1 HLI.out w5 H5.out.one H5.out.lg)
  rw [HRM.out] at HRO
  clear hr1 hg1
  go_wp2_with fail
  refine HRD.out.mono ?_
  rintro e w6 ⟨rfl, rfl⟩
  go_wp2_with fail
  refine HRO.out.mono ?_
  rintro e w6 ⟨rfl, b6⟩
  go_wp2_with fail
  refine (HGN.out _ b6).mono ?_
  rintro e w7 ⟨rfl, rfl⟩
  have B6 := Lib.hid (H5.out.below b6).bel
  clear b6
  go_wp2_with fail
  go_ret
  exact ⟨rfl, B6.out⟩
end Go.Proofs.YtjnjcjildiadgaaDoor.Wl
/- The walk of WalRoom. -/
namespace Go.Proofs.YtjnjcjildiadgaaDoor.Wl
open Go Go.RowKit Frame Oct Disk
theorem one_grown {B d L : Nat} {s : DSt} {w w' : World} {row : Option Nat} (h : One B d L s w) (hg : w.grownBy w' row) (hr : ∀ g, row = some g → ∃ cs, Has g cs 9 w) : One B d L s w' := by
  obtain ⟨v, k⟩ := h
  have ht : Turn (fun k => row = some k) w w' := (Turn.refl (fun k => row = some k) w).grown hg (fun k hk => .inl hk)
  refine ⟨v, k.turn ht fun j hj => ?_⟩
  obtain ⟨cs, hcs⟩ := hr j hj
  exact k.apart hcs (by decide) (by decide) (by decide)
/-- A log and its disk at a law's own place. -/
structure Lw (B p d L : Nat) (s : DSt) (l : LSt) (W w : World) : Prop where
  one : One B d L s w
  lg : Lg p d l w
  bel : Below B W w
  hp : B ≤ p
section
variable {B p d L : Nat} {s s' : DSt} {l l' : LSt} {W w w' : World}
theorem Lw.wd (h : Lw B p d L s l W w) : WD B p d L s l w w := WD.refl h.hp h.one h.lg
theorem Lw.le (h : Lw B p d L s l W w) : B ≤ w.heap.size := One.base_le h.one
theorem Lw.below (h : Lw B p d L s l W w) (hb : Below w.heap.size w w') : Lw B p d L s l W w' := ⟨h.one.below hb, h.lg.below hb, h.bel.trans (hb.mono h.le), h.hp⟩
theorem Lw.next (h : Lw B p d L s l W w) (k : WD B p d L s' l' w w') : Lw B p d L s' l' W w' := ⟨k.one, k.lg, h.bel.trans k.bel, h.hp⟩
theorem Lw.tab (h : Lw B p d L s l W w) (hT : Crc.Tab W) (hB : 0 < B) : Crc.Tab w := tab_bel hT hB h.bel
/-- An append to a slice of strings leaves a log and its disk. -/
theorem Lw.grown {row : Option Nat} (h : Lw B p d L s l W w) (hg : w.grownBy w' row) (hr : ∀ g, row = some g → B ≤ g ∧ ∃ cs, Has g cs 9 w) : Lw B p d L s l W w' := by
  have hb : Below B w w' := Sg.below_grown (Below.refl _ _) hg h.le fun g e => (hr g e).1
  have hp : some p ≠ row := fun e => by
    obtain ⟨-, cs, hcs⟩ := hr p e.symm
    exact absurd (has_type h.lg hcs) (by decide)
  exact ⟨one_grown h.one hg fun g e => (hr g e).2, (hg.block p (Has.lt h.lg) hp).trans h.lg, h.bel.trans hb, h.hp⟩
end
/-- A slice of strings of one's own, while a log turns. -/
theorem own_kept {w w' : World} {B n : Nat} {v : Value} {xs : List Value} (h : w.ownsRow B 9 1 v n xs) (hk : Kept2 w w') : w'.ownsRow B 9 1 v n xs := by
  obtain ⟨hlen, hv⟩ := h
  refine ⟨hlen, ?_⟩
  rcases hv with hv | ⟨g, cap, cur, rfl, hb', hg, hr⟩
  · exact .inl hv
  · exact .inr ⟨g, cap, cur, rfl, hb', hk g cur _ (by decide) (by decide) (by decide) (by decide) hg, hr⟩
theorem own_row {w : World} {B n g : Nat} {v : Value} {xs : List Value} (h : w.ownsRow B 9 1 v n xs) (hg : v.ownBlock = some g) : B ≤ g ∧ ∃ cs, Has g cs 9 w := by
  obtain ⟨hlen, hv⟩ := h
  rcases hv with ⟨rfl, _⟩ | ⟨g', cap, cur, rfl, hb', hg', hr⟩
  · cases hg
  · obtain rfl : g' = g := by simpa [Value.ownBlock] using hg
    exact ⟨hb', cur, hg'⟩
section
variable {l : LSt} {h : Nat} {r : List UInt8}
theorem app_empty (hc : checkE l = 0) (hr : r.length = 0) : appendS l h [r] = (l, 15) := by
  have hb : (Sg.bytes [r]) = ([], 15) := by
    rw [Sg.bytes_bad r (by unfold Sg.bad; rw [if_pos hr]; decide)]
    unfold Sg.bad; rw [if_pos hr]
  unfold appendS
  rw [if_neg (by omega), hb, if_pos (by decide)]
theorem bad_fine (h0 : r.length ≠ 0) (h4 : r.length ≤ 400) : Sg.bad r = 0 := by unfold Sg.bad; rw [if_neg h0, if_neg (by omega)]
theorem app_big (hc : checkE l = 0) (h0 : r.length ≠ 0) (h4 : r.length ≤ 400) (hb : room l h < (r.length : Int) + 9) : appendS l h [r] = (l, 17) := by
  unfold appendS
  rw [if_neg (by omega), Sg.bytes_one r (bad_fine h0 h4), if_neg (by show ¬ (0 : Int) ≠ 0; decide), if_pos (by show room l h < ((Sg.one r).length : Int); rw [Sg.one_length]; omega)]
theorem app_fine (hc : checkE l = 0) (h0 : r.length ≠ 0) (h4 : r.length ≤ 400) (hb : ¬ room l h < (r.length : Int) + 9) :
    appendS l h [r] = ({ l with wait := l.wait ++ Sg.one r }, 0) ∧ room { l with wait := l.wait ++ Sg.one r } h = room l h - ((r.length : Int) + 9) := by
  refine ⟨?_, ?_⟩
  · unfold appendS
    rw [if_neg (by omega), Sg.bytes_one r (bad_fine h0 h4), if_neg (by show ¬ (0 : Int) ≠ 0; decide), if_neg (by show ¬ room l h < ((Sg.one r).length : Int); rw [Sg.one_length]; omega)]
  · have hr := (checkE_ok hc).2
    unfold room
    rw [if_pos hr, if_pos (show ({ l with wait := l.wait ++ Sg.one r } : LSt).ready = true from hr)]
    show 64 * ((h : Int) - 1) - (l.done.length : Int) - ((l.wait ++ Sg.one r).length : Int) = _
    rw [List.length_append, Sg.one_length]
    omega
theorem check_rdy (hb : l.broken = false) (hr : l.ready = true) : checkE l = 0 := by unfold checkE; rw [hb, hr]; rfl
end
/-- Append of one record. -/
theorem Append_one (B p d L n : Nat) (s : DSt) (l : LSt) (hi : LInv n s l) (q : Nat) (r : List UInt8) (W w : World) (hT : Crc.Tab W) (hTB : 0 < B) (h : Lw B p d L s l W w) (hq : Has q #[.string (bs r)] 9 w) :
    Calls Tryd.prog 18 #[.pointer (some ⟨p, 0, none⟩), .slice (some ⟨q, 0, none⟩) 1 1] w (AppPost B p d L (n / 2) s l [r] w) :=
  Append_calls B p d L n s l hi (some ⟨q, 0, none⟩) 1 [r] (by simp) w w (h.tab hT hTB) hTB h.wd (Sg.SS.one hq)
theorem AppPost.out {B p d L h : Nat} {s : DSt} {l l' : LSt} {rs : List (List UInt8)} {x : Int} {W w w' : World} {e : Ending} (H : AppPost B p d L h s l rs w e w') (he : appendS l h rs = (l', x)) (hl : Lw B p d L s l W w) :
    e = .returned (.int .i64 x) ∧ Lw B p d L s l' W w' ∧ Kept2 w w' := by
  unfold AppPost at H
  rw [he] at H
  exact ⟨H.1, hl.next H.2, H.2.kept⟩
theorem ComPost.out {B p d L h : Nat} {s s' : DSt} {l l' : LSt} {x : Int} {W w w' : World} {e : Ending} (H : ComPost B p d L h s l w e w') (he : commitS s l h = (s', l', x)) (hl : Lw B p d L s l W w) :
    e = .returned (.int .i64 x) ∧ Lw B p d L s' l' W w' ∧ Kept2 w w' := by
  unfold ComPost at H
  rw [he] at H
  exact ⟨H.1, hl.next H.2, H.2.kept⟩
theorem BegPost.out {B p d L h : Nat} {s s' : DSt} {l l' : LSt} {img : List UInt8} {x : Int} {W w w' : World} {e : Ending} (H : BegPost B p d L h s l img w e w') (he : beginS s l h img = (s', l', x)) (hl : Lw B p d L s l W w) :
    e = .returned (.int .i64 x) ∧ Lw B p d L s' l' W w' ∧ Kept2 w w' := by
  unfold BegPost at H
  rw [he] at H
  exact ⟨H.1, hl.next H.2, H.2.kept⟩
theorem app_l0 (h : Nat) (rs : List (List UInt8)) : appendS l0 h rs = (l0, 13) := rfl
theorem com_l0 (h : Nat) (s : DSt) : commitS s l0 h = (s, l0, 13) := rfl
def img5 : List UInt8 := [105, 109, 97, 103, 101]
theorem img_begin : beginE l0 10 img5 = 0 := by decide +kernel
/-- What holds at each record. -/
structure RmI (B p d L : Nat) (s : DSt) (l : LSt) (kept : List (List UInt8)) (v : Value) (W w : World) : Prop where
  i : Lw B p d L s l W w
  inv : LInv 20 s l
  calm : Calm s
  live : Live 10 s.last l img5 kept 0
  rdy : l.ready = true ∧ l.broken = false
  own : w.ownsRow B 9 1 v kept.length (Sg.cells kept)
  many : kept.length ≤ 12
set_option maxRecDepth 100000 in
set_option maxHeartbeats 1000000 in
theorem WalRoom_walk (A : Option Addr) (c : Nat) (l : List (List UInt8)) (hlc : l.length ≤ c) (hc : c ≤ maxLen) (W : World) (hT : Crc.Tab W) (hA : Sg.SS A l W) :
    Calls Tryd.prog 4 #[.slice A l.length c] W fun e w' => e = .returned (.bool true) ∧ Below W.heap.size W w' := by
  have HTS := Lib.hid (Crc.Tab.size hT)
  have HT := Lib.hid hT
  have HA := Lib.hid hA
  unfold maxLen at hc
  have HLM := Lib.hid (show l.length ≤ maxLen by unfold maxLen; omega)
  clear hT hA
  go_enter Tryd.func4, Tryd.ntmps4
  go_wp2_with fail
  refine (awake_calls W HT.out).mono ?_
  rintro e w1 ⟨rfl, b1⟩
  have B1 := Lib.hid b1
  clear b1
  go_wp2_with fail
  refine (Sg.Light_calls A c l _ (HA.out.below B1.out) HLM.out).mono ?_
  rintro e w2 ⟨rfl, b2⟩
  have B2 := Lib.hid (bthen B1.out b2)
  clear b2 B1
  have hli : Sg.lightB l = true → l.length ≤ 12 ∧ ∀ x ∈ l, x.length ≤ 400 := Sg.light_iff
  have HLI := Lib.hid hli
  clear hli
  generalize Sg.lightB l = lb at *
  cases lb with
  | false =>
    go_wp2_with fail
    go_ret
    exact ⟨rfl, B2.out⟩
  | true =>
    obtain ⟨hl12, hl400⟩ := HLI.out rfl
    have HL4 := Lib.hid hl400
    clear hl400
    go_wp2_with fail
    refine (New_one 20 (by decide) w2).mono ?_
    rintro e w3 ⟨rfl, h3, b3⟩
    have H3 := Lib.hid (One.base h3 B2.out.size)
    have B3 := Lib.hid (bthen B2.out b3)
    clear h3 b3
    generalize w2.heap.size + 1 = d at *
    generalize w2.heap.size = L at *
    go_wp2_with fail
    refine (Open_calls W.heap.size _ _ 20 (fresh 20) (Good.fresh 20 (by decide)) rfl rfl (by decide) W w3 HT.out HTS.out B3.out (Kept2.of_below B3.out) H3.out).mono ?_
    intro e w4 hop
    obtain ⟨A2, c2, rfl, hl4, b4⟩ := hop.fresh
    clear hop
    have H4 := Lib.hid (show Lw W.heap.size w3.heap.size d L (fresh 20) l0 W w4 from ⟨H3.out.below b4, hl4, bthen B3.out b4, B3.out.size⟩)
    clear hl4 b4
    generalize w3.heap.size = p at *
    go_wp2_with fail
    have hz5 := Has.new w4 #[.string ⟨#[97]⟩] 9
    have H5 := Lib.hid (H4.out.below ((Below.refl _ _).alloc (Nat.le_refl _) (.cells #[.string ⟨#[97]⟩] 9)))
    refine (Append_one W.heap.size p d L 20 (fresh 20) l0 (LInv.fresh 20 (by decide) (by decide)) w4.heap.size [97] W _ HT.out HTS.out H5.out hz5).mono ?_
    intro e w6 hap
    obtain ⟨rfl, h6, -⟩ := hap.out (app_l0 _ _) H5.out
    have H6 := Lib.hid h6
    clear hap h6 hz5 H5 H4
    go_wp2_with fail
    refine (Commit_calls W.heap.size p d L 20 (fresh 20) l0 (LInv.fresh 20 (by decide) (by decide)) w6 w6 H6.out.wd).mono ?_
    intro e w7 hap
    obtain ⟨rfl, h7, -⟩ := hap.out (com_l0 _ _) H6.out
    have H7 := Lib.hid h7
    clear hap h7 H6
    obtain ⟨s1, hb1, hcm⟩ := (Calm.fresh 20).begin_ (l := l0) (h := 10) img_begin
    have HBG := Lib.hid hb1
    have HLV := Lib.hid (show LInv 20 s1 ⟨((tgt l0.area : Nat) : Int), l0.gen + 1, true, false, Sg.one img5, []⟩ from by
      have := (LInv.fresh 20 (by decide) (by decide)).begin_ img5
      rw [show (20 : Nat) / 2 = 10 from rfl, hb1] at this
      exact this)
    have HLL := Lib.hid (show Live 10 s1.last ⟨((tgt l0.area : Nat) : Int), l0.gen + 1, true, false, Sg.one img5, []⟩ img5 [] 0 from by
      have h0 : Live (20 / 2) (fresh 20).last l0 [] [] 0 := by
        have := Live.fresh 10 (64 * 20)
        rw [show noughts (64 * 20) = (fresh 20).last from rfl, openL_fresh] at this
        exact this
      rcases Live.begins (LInv.fresh 20 (by decide) (by decide)) rfl h0 img5 with ⟨k1, -⟩ | ⟨s', k1, -⟩ | ⟨s', k1, k2, k3⟩
      · exact absurd img_begin k1
      · rw [show (20 : Nat) / 2 = 10 from rfl, hb1] at k1
        injection k1 with a1 a2
        injection a2 with a2 a3
        exact absurd a3 (by decide)
      · rw [show (20 : Nat) / 2 = 10 from rfl, hb1] at k1
        injection k1 with a1 a2
        rw [a1]; exact k3)
    have HCM := Lib.hid hcm
    clear hb1 hcm
    go_wp2_with fail
    refine (Begin_calls W.heap.size p d L 20 (fresh 20) l0 (LInv.fresh 20 (by decide) (by decide)) img5 w7 w7 (H7.out.tab HT.out HTS.out) HTS.out H7.out.wd).mono ?_
    intro e w8 hap
    obtain ⟨rfl, h8, -⟩ := hap.out HBG.out H7.out
    have H8 := Lib.hid h8
    clear hap h8 H7
    generalize hl1 : (⟨((tgt l0.area : Nat) : Int), l0.gen + 1, true, false, Sg.one img5, []⟩ : LSt) = l1 at *
    have HR1 := Lib.hid (show l1.ready = true ∧ l1.broken = false by rw [← hl1]; exact ⟨rfl, rfl⟩)
    clear hl1
    have HST := Lib.hid (show RmI W.heap.size p d L s1 l1 [] (.slice none 0 0) W w8 from ⟨H8.out, HLV.out, HCM.out, HLL.out, HR1.out, World.ownsRow_nil _ _ _ _, by decide⟩)
    clear H8 HLV HCM HLL HR1 HBG
    go_wp2_with fail
    generalize w4.heap.size = w4z at *
    obtain ⟨i0, hi0, hz0, hz1, hz2⟩ := info_parts Sg.infoS
    go_loopw [8, 50] (fun v i wr => ∃ (k : Nat) (kept : List (List UInt8)) (lk : LSt), k ≤ l.length ∧ i = .int .i64 k ∧ kept.length ≤ k ∧ Hid (RmI W.heap.size p d L s1 lk kept v W wr)) (fun _ i _ => l.length - (intOf i).toNat)
    case atStart => exact ⟨0, [], l1, by omega, rfl, by simp, HST⟩
    case round =>
      obtain ⟨k, kept, lk, hk, rfl, hkl, hP⟩ := hrel
      clear HST
      have HCE := Lib.hid (check_rdy hP.out.rdy.2 hP.out.rdy.1)
      by_cases hlt : k < l.length
      · obtain ⟨b, off, rfl, hbl, hi⟩ := (HA.out.below hP.out.i.bel) (by omega)
        have ck := hi k hlt
        have hr400 := HL4.out _ (Sg.getD_mem l k hlt)
        clear hi
        generalize l.getD k [] = r at *
        have hzr : (bs r).size = r.length := bs_size _
        have HRC := Lib.hid (fun W' (h : Lw W.heap.size p d L s1 lk W W') => Room_calls W.heap.size p d L 20 s1 lk hP.out.inv W' h.one h.lg)
        have HE1 := Lib.hid (fun h0 => app_empty (l := lk) (h := 10) (r := r) HCE.out h0)
        have HE2 := Lib.hid (fun h0 hb => app_big (l := lk) (h := 10) (r := r) HCE.out h0 hr400 hb)
        have HE3 := Lib.hid (fun h0 hb => app_fine (l := lk) (h := 10) (r := r) HCE.out h0 hr400 hb)
        have hrm : room lk (20 / 2) = room lk 10 := rfl
        rw [hrm] at HRC
        have hrb : room lk 10 ≤ 1000 ∧ 0 ≤ room lk 10 := by
          have h1 := hP.out.inv.rm
          unfold room
          rw [if_pos hP.out.rdy.1]
          omega
        have HAP := Lib.hid (fun W' (h : Lw W.heap.size p d L s1 lk W W') q hq => Append_one W.heap.size p d L 20 s1 lk hP.out.inv q r W W' HT.out HTS.out h hq)
        clear hrm
        have HIV := Lib.hid (show ∀ v w', Lw W.heap.size p d L s1 lk W w' → w'.ownsRow W.heap.size 9 1 v kept.length (Sg.cells kept) → RmI W.heap.size p d L s1 lk kept v W w' from fun v w' a1 a2 => ⟨a1, hP.out.inv, hP.out.calm, hP.out.live, hP.out.rdy, a2, hP.out.many⟩)
        by_cases h0 : r.length = 0
        · have h0' := Sg.bs_eq_empty r h0
          have HX := Lib.hid (HE1.out h0)
          generalize room lk 10 = ro at *
          go_wp2_with fail
          refine (HRC.out _ hP.out.i).mono ?_
          rintro e w9 ⟨rfl, b9⟩
          have H9 := Lib.hid (hP.out.i.below b9)
          have HO9 := Lib.hid (Sg.own_below hP.out.own b9)
          clear b9
          go_wp2_with fail
          have hzA := Has.new w9 #[.string (bs r)] 9
          have bA : Below w9.heap.size w9 (w9.alloc (.cells #[.string (bs r)] 9)) := (Below.refl _ _).alloc (Nat.le_refl _) _
          have HA9 := Lib.hid (H9.out.below bA)
          have HOA := Lib.hid (Sg.own_below HO9.out bA)
          refine (HAP.out _ HA9.out w9.heap.size hzA).mono ?_
          intro e w10 hap
          obtain ⟨rfl, h10, k10⟩ := hap.out HX.out HA9.out
          have H10 := Lib.hid h10
          have HO10 := Lib.hid (own_kept HOA.out k10)
          clear hap h10 k10 hzA bA HA9 HOA H9 HO9
          go_wp2_with fail
          refine (HRC.out _ H10.out).mono ?_
          rintro e w11 ⟨rfl, b11⟩
          have HF := Lib.hid (HIV.out _ _ (H10.out.below b11) (Sg.own_below HO10.out b11))
          clear b11 H10 HO10
          go_wp2_with fail
          exact ⟨⟨k + 1, kept, lk, by omega, by go_num, by omega, HF⟩, by simp [intOf]; omega⟩
        have h0' := Sg.bs_ne_empty r h0
        by_cases hbg : room lk 10 < (r.length : Int) + 9
        · have HX := Lib.hid (HE2.out h0 hbg)
          generalize room lk 10 = ro at *
          go_wp2_with fail
          refine (HRC.out _ hP.out.i).mono ?_
          rintro e w9 ⟨rfl, b9⟩
          have H9 := Lib.hid (hP.out.i.below b9)
          have HO9 := Lib.hid (Sg.own_below hP.out.own b9)
          clear b9
          go_wp2_with fail
          have hzA := Has.new w9 #[.string (bs r)] 9
          have bA : Below w9.heap.size w9 (w9.alloc (.cells #[.string (bs r)] 9)) := (Below.refl _ _).alloc (Nat.le_refl _) _
          have HA9 := Lib.hid (H9.out.below bA)
          have HOA := Lib.hid (Sg.own_below HO9.out bA)
          refine (HAP.out _ HA9.out w9.heap.size hzA).mono ?_
          intro e w10 hap
          obtain ⟨rfl, h10, k10⟩ := hap.out HX.out HA9.out
          have H10 := Lib.hid h10
          have HO10 := Lib.hid (own_kept HOA.out k10)
          clear hap h10 k10 hzA bA HA9 HOA H9 HO9
          go_wp2_with fail
          refine (HRC.out _ H10.out).mono ?_
          rintro e w11 ⟨rfl, b11⟩
          have HF := Lib.hid (HIV.out _ _ (H10.out.below b11) (Sg.own_below HO10.out b11))
          clear b11 H10 HO10
          go_wp2_with fail
          exact ⟨⟨k + 1, kept, lk, by omega, by go_num, by omega, HF⟩, by simp [intOf]; omega⟩
        · obtain ⟨hx1, hx2⟩ := HE3.out h0 hbg
          have HX := Lib.hid hx1
          have HNI : Hid (LInv 20 s1 { lk with wait := lk.wait ++ Sg.one r }) := Lib.hid (by
            have := hP.out.inv.append [r]
            rw [show (20 : Nat) / 2 = 10 from rfl, hx1] at this
            exact this)
          have HNL : Hid (Live 10 s1.last { lk with wait := lk.wait ++ Sg.one r } img5 (kept ++ [r]) 0) := Lib.hid (by
            rcases Live.appends (n := 20) hP.out.live [r] with ⟨q1, -⟩ | ⟨-, q2, -, q3⟩
            · rw [show (20 : Nat) / 2 = 10 from rfl, hx1] at q1; exact absurd rfl q1
            · rw [show Sg.cat [r] = Sg.one r by simp [Sg.cat]] at q3
              exact q3)
          generalize hlk : ({ lk with wait := lk.wait ++ Sg.one r } : LSt) = lk' at *
          have HRY := Lib.hid (show lk'.ready = true ∧ lk'.broken = false by rw [← hlk]; exact hP.out.rdy)
          have HRC2 := Lib.hid (fun W' (h : Lw W.heap.size p d L s1 lk' W W') => Room_calls W.heap.size p d L 20 s1 lk' HNI.out W' h.one h.lg)
          rw [show room lk' (20 / 2) = room lk' 10 from rfl, hx2] at HRC2
          clear hx1 hx2 hlk
          generalize room lk 10 = ro at *
          have hbg1 : (r.length : Int) + 9 ≤ ro := by omega
          have hmk := hP.out.many
          go_wp2_with fail
          refine (HRC.out _ hP.out.i).mono ?_
          rintro e w9 ⟨rfl, b9⟩
          have H9 := Lib.hid (hP.out.i.below b9)
          have HO9 := Lib.hid (Sg.own_below hP.out.own b9)
          clear b9
          have hzA := Has.new w9 #[.string (bs r)] 9
          have bA : Below w9.heap.size w9 (w9.alloc (.cells #[.string (bs r)] 9)) := (Below.refl _ _).alloc (Nat.le_refl _) _
          have HA9 := Lib.hid (H9.out.below bA)
          have HOA := Lib.hid (Sg.own_below HO9.out bA)
          have hle := H9.out.le
          clear bA hzA
          go_wp2_with (at_builtin; refine wpList_append_own _ rfl _ _ 22 rfl W.heap.size 9 i0 _ 1 16 Tryd.underlying22 hi0 hz0 hz1 hz2 rfl (by decide) _ _ _ rfl HOA.out ⟨w9.heap.size, 0, none⟩ 1 1 [.string (bs r)] rfl rfl ?c1 ?c2 ?c3 ?c4 ?c5 ?_)
          case c1 => exact cell_one_new _ _ _
          case c2 => intro u hu; simp at hu; subst hu; rfl
          case c3 => unfold maxLen; omega
          case c4 => omega
          case c5 => simp; omega
          intro v' w10 hown' hgrow _
          have H10 := Lib.hid (HA9.out.grown hgrow (fun g hg => own_row HOA.out hg))
          have HO10 := Lib.hid hown'
          clear hown' hgrow HA9 HOA H9 HO9
          go_wp2_with fail
          have hzA := Has.new w10 #[.string (bs r)] 9
          have bA : Below w10.heap.size w10 (w10.alloc (.cells #[.string (bs r)] 9)) := (Below.refl _ _).alloc (Nat.le_refl _) _
          have HA9 := Lib.hid (H10.out.below bA)
          have HOA := Lib.hid (Sg.own_below HO10.out bA)
          refine (HAP.out _ HA9.out w10.heap.size hzA).mono ?_
          intro e w11 hap
          obtain ⟨rfl, h11, k11⟩ := hap.out HX.out HA9.out
          have H11 := Lib.hid h11
          have HO11 := Lib.hid (own_kept HOA.out k11)
          clear hap h11 k11 hzA bA HA9 HOA H10 HO10
          go_wp2_with fail
          refine (HRC2.out _ H11.out).mono ?_
          rintro e w12 ⟨rfl, b12⟩
          have HF := Lib.hid (show RmI W.heap.size p d L s1 lk' (kept ++ [r]) v' W w12 from ⟨H11.out.below b12, HNI.out, hP.out.calm, HNL.out, HRY.out, by
            have := Sg.own_below HO11.out b12
            rw [List.length_append, Sg.cells_append, Sg.cells_one]
            exact this, by simp; omega⟩)
          clear b12 H11 HO11
          go_wp2_with fail
          exact ⟨⟨k + 1, kept ++ [r], lk', by omega, by go_num, by simp; omega, HF⟩, by simp [intOf]; omega⟩
      · obtain rfl : k = l.length := by omega
        obtain ⟨z1, z2⟩ := hP.out.calm.commit (l := lk) (h := 10) HCE.out
        have hcc : ∃ s' l', commitS s1 lk 10 = (s', l', 0) ∧ s'.on = true ∧ l'.broken = lk.broken ∧ l'.ready = true ∧ Live 10 s'.last l' img5 kept kept.length := by
          rcases Live.commits (n := 20) (may := []) hP.out.inv hP.out.calm.1 hP.out.live with ⟨q1, -⟩ | ⟨s', q1, -⟩ | ⟨s', l', q1, q2, q3, q4, -, q5⟩
          · exact absurd z1 q1
          · rw [show (20 : Nat) / 2 = 10 from rfl] at q1; rw [q1] at z1; exact absurd z1 (by show ¬ (16 : Int) = 0; decide)
          · exact ⟨s', l', q1, q2, q3, q4, q5⟩
        obtain ⟨s2, l2, hc1, hon2, hbr2, hrd2, hlv2⟩ := hcc
        have hinv2 := hP.out.inv.commit
        rw [show (20 : Nat) / 2 = 10 from rfl, hc1] at hinv2
        simp only at hinv2
        have hsh := hlv2.shape
        have har := (hlv2.rdy hrd2).2.2.2.1
        rw [if_neg (by omega), List.take_length] at hsh
        obtain ⟨o1, o2, o3⟩ := hsh.opened
        have HOB := Lib.hid o3
        have HOG := Lib.hid (show (openL 10 s2.last).gen = l2.gen from o2)
        have HOR := Lib.hid (show (openL 10 s2.last).ready = false from rfl)
        have HC1 := Lib.hid hc1
        have HI2 := Lib.hid hinv2
        have HON2 := Lib.hid hon2
        have HR2 := Lib.hid hrd2
        have hrm2 : 0 ≤ room l2 10 ∧ room l2 10 ≤ 1000 := by
          have h1 := hinv2.rm
          unfold room
          rw [if_pos hrd2]
          omega
        have HRC := Lib.hid (fun W' (h : Lw W.heap.size p d L s2 l2 W W') => Room_calls W.heap.size p d L 20 s2 l2 hinv2 W' h.one h.lg)
        rw [show room l2 (20 / 2) = room l2 10 from rfl] at HRC
        clear z1 z2 hc1 hon2 hbr2 hrd2 hlv2 hinv2 hsh har o1 o2 o3
        generalize room l2 10 = ro at *
        go_wp2_with fail
        refine (Commit_calls W.heap.size p d L 20 s1 lk hP.out.inv wr wr hP.out.i.wd).mono ?_
        intro e w9 hap
        obtain ⟨rfl, h9, k9⟩ := hap.out HC1.out hP.out.i
        have H9 := Lib.hid h9
        have HO9 := Lib.hid (own_kept hP.out.own k9)
        clear hap h9 k9
        go_wp2_with fail
        refine (HRC.out _ H9.out).mono ?_
        rintro e w10 ⟨rfl, b10⟩
        have H10 := Lib.hid (H9.out.below b10)
        have HO10 := Lib.hid (Sg.own_below HO9.out b10)
        clear b10 H9 HO9
        go_wp2_with fail
        refine (Open_calls W.heap.size d L 20 s2 HI2.out.good HI2.out.wait HON2.out (by decide) w10 w10 (H10.out.tab HT.out HTS.out) HTS.out (Below.refl _ _) (Kept2.refl _) H10.out.one).mono ?_
        intro e w11 hop
        unfold OpenPost at hop
        rw [show (20 : Nat) / 2 = 10 from rfl, HOB.out] at hop
        obtain ⟨v11, rfl, hv11, hl11, b11⟩ := hop
        have HV := Lib.hid (show Sg.SV v11 kept w11 from ST.sv hv11)
        have HL := Lib.hid hl11
        have H11 := Lib.hid (H10.out.below b11)
        have HO11 := Lib.hid (Sg.own_below HO10.out b11)
        clear hv11 hl11 b11 H10 HO10
        rw [show bs ((img5 :: kept).getD 0 []) = ⟨#[105, 109, 97, 103, 101]⟩ from rfl]
        generalize w10.heap.size = x at *
        generalize openL 10 s2.last = lx at *
        obtain ⟨Av, cv, rfl, hlv, hcv, -, -, hsv⟩ := HV.out
        obtain ⟨Ak, ck, rfl, hlk, hck, -, -, hsk⟩ := Sg.SV.of_own HO11.out
        have HSM := Lib.hid (Sg.Same_calls Av Ak cv ck kept kept (by omega) (by omega) w11 hsv hsk)
        rw [show decide (kept = kept) = true by simp] at HSM
        have HG1 := Lib.hid (fun W' (k : Below w11.heap.size w11 W') => Gen_calls x d lx W' (HL.out.below k))
        have HG2 := Lib.hid (fun W' (k : Below w11.heap.size w11 W') => Gen_calls p d l2 W' (H11.out.below k).lg)
        have HG3 := Lib.hid (fun W' (k : Below w11.heap.size w11 W') => Ready_calls x d lx W' (HL.out.below k))
        rw [HOG.out] at HG1
        rw [HOR.out] at HG3
        clear hlv hcv hlk hck hsv hsk
        go_wp2_with fail
        refine HSM.out.mono ?_
        rintro e w12 ⟨rfl, b12⟩
        have B12 := Lib.hid b12
        clear b12
        go_wp2_with fail
        refine (HG1.out _ B12.out).mono ?_
        rintro e w13 ⟨rfl, rfl⟩
        go_wp2_with fail
        refine (HG2.out _ B12.out).mono ?_
        rintro e w13 ⟨rfl, rfl⟩
        go_wp2_with fail
        refine (HG3.out _ B12.out).mono ?_
        rintro e w13 ⟨rfl, rfl⟩
        go_wp2_with fail
        go_ret
        exact ⟨rfl, (H11.out.below B12.out).bel⟩
end Go.Proofs.YtjnjcjildiadgaaDoor.Wl
/- Acts of stairwelllaw17: how they lie, opened; Light, first. -/
namespace Go.Proofs.YtjnjcjildiadgaaDoor.Wl
open Go Go.RowKit Go.ChangeShapes Go.WideShapes Frame Oct Disk
structure WAct where
  kind : UInt8
  ad : Option Addr
  recs : List (List UInt8)
  cap : Nat
  at_ : Int
  cut : Int
instance : Inhabited WAct := ⟨⟨0, none, [], 0, 0, 0⟩⟩
def WAct.Ok (x : WAct) : Prop := (-9223372036854775808 ≤ x.at_ ∧ x.at_ ≤ 9223372036854775807) ∧ (-9223372036854775808 ≤ x.cut ∧ x.cut ≤ 9223372036854775807) ∧ x.recs.length ≤ x.cap ∧ x.cap ≤ maxLen ∧ (x.ad = none → x.cap = 0)
def aCells (x : WAct) : Array Value := #[.int .u8 x.kind.toNat, .slice x.ad x.recs.length x.cap, .int .i64 x.at_, .int .i64 x.cut]
def ActAt (b o : Nat) (x : WAct) (w : World) : Prop :=
  w.cell? ⟨b, o, none⟩ = some (.int .u8 x.kind.toNat) ∧ w.cell? ⟨b, o + 1, none⟩ = some (.slice x.ad x.recs.length x.cap) ∧ w.cell? ⟨b, o + 2, none⟩ = some (.int .i64 x.at_) ∧ w.cell? ⟨b, o + 3, none⟩ = some (.int .i64 x.cut)
/-- A slice of acts, in a block below B, their records too. -/
def Acts (B : Nat) (A : Option Addr) (l : List WAct) (w : World) : Prop :=
  0 < l.length → ∃ b off, A = some ⟨b, off, none⟩ ∧ b < B ∧ ∀ i, i < l.length → ActAt b (off + i * 4) (l.getD i default) w ∧ Sg.SS (l.getD i default).ad (l.getD i default).recs w ∧ (∀ b' off', (l.getD i default).ad = some ⟨b', off', none⟩ → 0 < (l.getD i default).recs.length → b' < B)
theorem ss_belowB {B : Nat} {A : Option Addr} {l : List (List UInt8)} {w w' : World} (h : Sg.SS A l w) (hB : ∀ b' off', A = some ⟨b', off', none⟩ → 0 < l.length → b' < B) (hb : Below B w w') (hz : w.heap.size ≤ w'.heap.size) : Sg.SS A l w' := fun h0 => by
  obtain ⟨b, off, hA, hlt, hi⟩ := h h0
  exact ⟨b, off, hA, by omega, fun i hil => (hb.cell (p := ⟨b, off + i, none⟩) (hB b off hA h0)).trans (hi i hil)⟩
theorem Acts.below {B : Nat} {A : Option Addr} {l : List WAct} {w w' : World} (h : Acts B A l w) (hb : Below B w w') : Acts B A l w' := fun h0 => by
  obtain ⟨b, off, hA, hlt, hi⟩ := h h0
  refine ⟨b, off, hA, hlt, fun i hil => ?_⟩
  obtain ⟨⟨c0, c1, c2, c3⟩, hs, hbb⟩ := hi i hil
  have hc := fun o => hb.cell (p := ⟨b, o, none⟩) hlt
  exact ⟨⟨by rw [hc]; exact c0, by rw [hc]; exact c1, by rw [hc]; exact c2, by rw [hc]; exact c3⟩, ss_belowB hs hbb hb hb.size, hbb⟩
theorem take_succ_getD {α : Type} [Inhabited α] (l : List α) (k : Nat) (h : k < l.length) : l.take (k + 1) = l.take k ++ [l.getD k default] := by
  rw [List.take_succ_eq_append_getElem h]; simp [List.getD_eq_getElem?_getD, h]
theorem getD_mem {α : Type} [Inhabited α] (l : List α) (k : Nat) (h : k < l.length) : l.getD k default ∈ l := by
  simp [List.getD_eq_getElem?_getD, h]
theorem mem_getD {α : Type} [Inhabited α] {l : List α} {x : α} (h : x ∈ l) : ∃ i, i < l.length ∧ l.getD i default = x := by
  obtain ⟨i, hi, rfl⟩ := List.getElem_of_mem h
  exact ⟨i, hi, by simp [List.getD_eq_getElem?_getD, hi]⟩
def lightB (l : List WAct) : Bool := (l.all fun x => Sg.lightB x.recs) && decide (l.length ≤ 40)
theorem light_iff {l : List WAct} (h : lightB l = true) : l.length ≤ 40 ∧ ∀ x ∈ l, Sg.lightB x.recs = true := by
  unfold lightB at h
  simp at h
  exact ⟨h.2, h.1⟩
set_option maxRecDepth 100000 in
set_option maxHeartbeats 1000000 in
theorem Light_calls (A : Option Addr) (c : Nat) (l : List WAct) (w : World) (hA : Acts w.heap.size A l w) (hO : ∀ x ∈ l, x.Ok) (hl : l.length ≤ maxLen) :
    Calls Tryd.prog 22 #[.slice A l.length c] w fun e w' => e = .returned (.bool (lightB l)) ∧ Below w.heap.size w w' := by
  unfold maxLen at hl
  have HA := Lib.hid hA
  have HO := Lib.hid hO
  clear hA hO
  go_enter Tryd.func22, Tryd.ntmps22
  go_wp2
  go_loopw [7] (fun i wr => ∃ k : Nat, k ≤ l.length ∧ i = .int .i64 k ∧ Hid (Below w.heap.size w wr) ∧ Hid ((l.take k).all (fun x => Sg.lightB x.recs) = true)) (fun i _ => l.length - (intOf i).toNat)
  case atStart => exact ⟨0, by omega, rfl, Lib.hid (Below.refl _ _), rfl⟩
  case round =>
    obtain ⟨k, hk, rfl, hB, hP⟩ := hrel
    by_cases hlt : k < l.length
    · obtain ⟨b, off, rfl, hbl, hi⟩ := (HA.out.below hB.out) (by omega)
      obtain ⟨⟨c0, c1, c2, c3⟩, hs, -⟩ := hi k hlt
      clear hi
      have HT := Lib.hid (take_succ_getD l k hlt)
      have HM := Lib.hid (getD_mem l k hlt)
      have hok := HO.out _ HM.out
      generalize l.getD k default = x at *
      have HS := Lib.hid (hs.below ((Below.refl _ _).alloc (Nat.le_refl _) (.cells #[.int .u8 x.kind.toNat, .slice x.ad x.recs.length x.cap, .int .i64 x.at_, .int .i64 x.cut] 49)))
      have HBa := Lib.hid (hB.out.alloc hB.out.size (.cells #[.int .u8 x.kind.toNat, .slice x.ad x.recs.length x.cap, .int .i64 x.at_, .int .i64 x.cut] 49))
      obtain ⟨-, -, hc1, hc2, -⟩ := hok
      have HL := Lib.hid (show x.recs.length ≤ maxLen by omega)
      clear hs hc1 hc2
      go_wp2_with fail
      refine (Sg.Light_calls x.ad x.cap x.recs _ HS.out HL.out).mono ?_
      rintro e w2 ⟨rfl, b2⟩
      have HB2 := Lib.hid (bthen HBa.out b2)
      clear b2
      rcases Bool.eq_false_or_eq_true (Sg.lightB x.recs) with hx | hx
      · rw [hx]
        have HX := Lib.hid hx
        clear hx
        go_wp2_with fail
        refine ⟨⟨k + 1, by omega, by go_num, HB2, Lib.hid ?_⟩, by simp [intOf]; omega⟩
        rw [HT.out, List.all_append, hP.out]
        simp [HX.out]
      · rw [hx]
        have HE := Lib.hid (show lightB l = false by
          unfold lightB
          rw [Bool.and_eq_false_iff]
          left
          rw [List.all_eq_false]
          exact ⟨x, HM.out, by rw [hx]; decide⟩)
        clear hx
        go_wp2_with fail
        go_ret
        rw [HE.out]
        exact ⟨rfl, HB2.out⟩
    · obtain rfl : k = l.length := by omega
      have HE := Lib.hid (show lightB l = decide (l.length ≤ 40) by
        have := hP.out
        rw [List.take_length] at this
        unfold lightB
        rw [this, Bool.true_and])
      go_wp2
      go_ret
      rw [HE.out]
      refine ⟨?_, hB.out⟩
      congr 2
      simp; omega
/-- A slice of strings in one cell. -/
theorem strs_cell {H : Type} {enc : TypeId × Value → H} {w : World} {base : Nat} {spare : Nat → Bool} {held : Bool} {m : Nat} {x : Value} {y : DataW H × List MemPlace}
    (hf : DataW.trod enc Tryd.prog w base spare held m 22 [x] = some y) :
    ∃ (A : Option Addr) (c : Nat) (l : List (List UInt8)), x = .slice A l.length c ∧ l.length ≤ c ∧ c ≤ maxLen ∧ (A = none → c = 0) ∧ Sg.SS A l w := by
  rcases open_strings Tryd.underlying22 Tryd.underlying9 (by kernel_rfl) hf with ⟨hcs, _⟩ | ⟨a, len', cap', ss, hcs, _, hl, hm, hz, _, hcell, hsz⟩
  · simp at hcs
    subst hcs
    exact ⟨none, 0, [], rfl, Nat.le_refl _, Nat.zero_le _, (fun _ => rfl), Sg.SS.nil _ _⟩
  · simp at hcs
    subst hcs
    have hle : len' ≤ ss.length := by split at hz <;> omega
    have hln : ((ss.take len').map fun s => s.data.toList).length = len' := by simp; omega
    refine ⟨some a, cap', (ss.take len').map fun s => s.data.toList, by rw [hln], by omega, hm, (fun h => by cases h), ?_⟩
    intro h0
    rw [hln] at h0 ⊢
    obtain ⟨b, off, spot⟩ := a
    have hspot : spot = none := by
      have h1 := hcell 0 (by omega)
      have := World.cell?_spot h1
      simpa [Addr.add] using this
    subst hspot
    refine ⟨b, off, rfl, (Sg.cell_lt (hcell 0 (by omega)) : _), fun i hi => ?_⟩
    have h1 := hcell i (by omega)
    rw [Addr.add_lit] at h1
    rw [h1]
    congr 2
    simp only [List.getD_eq_getElem?_getD, List.getElem?_map, List.getElem?_take, if_pos hi, List.getElem?_eq_getElem (show i < ss.length by omega), Option.map_some, Option.getD_some]
    exact (bs_self _).symm
set_option maxRecDepth 100000 in
theorem open_acts {H : Type} {enc : TypeId × Value → H} {w : World} {base : Nat} {spare : Nat → Bool} {held : Bool} {r : Reach} {b0 : Nat} {v : Value} {d : DataW H} {p : List MemPlace}
    (hv : Value.okWide Tryd.prog w r b0 46 v) (h : DataW.Trod enc Tryd.prog w base spare held 46 v d p) :
    ∃ (A : Option Addr) (c : Nat) (l : List WAct), v = .slice A l.length c ∧ l.length ≤ maxLen ∧ Acts w.heap.size A l w ∧ ∀ x ∈ l, x.Ok := by
  obtain ⟨A, len, cap, rfl, hlen, hrow⟩ := Open.open_rows Tryd.underlying46 Tryd.underlying49 (by kernel_rfl) (by kernel_rfl) (by decide) hv h
  by_cases h0 : 0 < len
  · obtain ⟨b, off, rfl, hr⟩ := hrow h0
    have hex : ∀ i, i < len → ∃ x : WAct, (ActAt b (off + i * 4) x w ∧ Sg.SS x.ad x.recs w) ∧ x.Ok := fun i hi => by
      obtain ⟨x0, y0, m0, c0, t0⟩ := hr i hi 0 _ rfl
      obtain ⟨x1, y1, m1, c1, t1⟩ := hr i hi 1 _ rfl
      obtain ⟨x2, y2, m2, c2, t2⟩ := hr i hi 2 _ rfl
      obtain ⟨x3, y3, m3, c3, t3⟩ := hr i hi 3 _ rfl
      obtain ⟨k, rfl⟩ := Open.byte_cell Tryd.underlying5 t0
      obtain ⟨ad, cp, rs, rfl, q1, q2, q3, q4⟩ := strs_cell t1
      obtain ⟨n, rfl, hn⟩ := Open.i64_cell Tryd.underlying3 t2
      obtain ⟨z, rfl, hz⟩ := Open.i64_cell Tryd.underlying3 t3
      exact ⟨⟨k, ad, rs, cp, n, z⟩, ⟨⟨c0, c1, c2, c3⟩, q4⟩, hn, hz, q1, q2, q3⟩
    obtain ⟨l, rfl, hl⟩ := Open.list_of len _ hex
    refine ⟨_, cap, l, rfl, hlen, fun _ => ⟨b, off, rfl, Sg.cell_lt (hl 0 h0).1.1.1, fun i hi => ⟨(hl i hi).1.1, (hl i hi).1.2, fun b' off' e hp => ?_⟩⟩, fun x hx => ?_⟩
    · obtain ⟨b2, off2, e2, hlt, -⟩ := (hl i hi).1.2 hp
      rw [e] at e2
      injection e2 with e2
      injection e2 with e2
      omega
    · obtain ⟨i, hi, rfl⟩ := mem_getD hx
      exact (hl i hi).2
  · obtain rfl : len = 0 := by omega
    exact ⟨A, cap, [], rfl, Nat.zero_le _, fun h => absurd h (Nat.lt_irrefl 0), fun x hx => by cases hx⟩
theorem getD_one (r : List UInt8) (l : List (List UInt8)) : (r :: l).getD 0 [] = r := rfl
set_option maxHeartbeats 1000000 in
/-- The first record of an act. -/
theorem first_calls (x : WAct) (w : World) (hS : Sg.SS x.ad x.recs w) (hl : x.recs.length ≤ maxLen) :
    Calls Tryd.prog 23 #[.agg (aCells x)] w fun e w' => e = .returned (.string (bs (x.recs.getD 0 []))) ∧ Below w.heap.size w w' := by
  unfold maxLen at hl
  have HB := Lib.hid ((Below.refl w.heap.size w).alloc (Nat.le_refl _) (.cells (aCells x) 49))
  unfold aCells at HB ⊢
  by_cases h0 : x.recs.length = 0
  · have he : x.recs.getD 0 [] = [] := by rw [List.length_eq_zero_iff.1 h0]; rfl
    rw [he]
    rw [h0] at HB ⊢
    clear h0 he hS hl
    go_enter Tryd.func23, Tryd.ntmps23
    go_wp2_with fail
    go_ret
    exact ⟨rfl, HB.out⟩
  · obtain ⟨b, off, ha, hbl, hi⟩ := hS (by omega)
    have i0 := hi 0 (by omega)
    rw [Nat.add_zero] at i0
    rw [ha] at HB ⊢
    have hp : 0 < x.recs.length := by omega
    have hne : ((x.recs.length : Int) == 0) = false := beq_eq_false_iff_ne.2 (by omega)
    clear h0 hS hi ha
    generalize hxx : x.recs.getD 0 [] = r at *
    clear hxx
    go_enter Tryd.func23, Tryd.ntmps23
    go_wp2_with fail
    go_ret
    exact ⟨rfl, HB.out⟩
end Go.Proofs.YtjnjcjildiadgaaDoor.Wl
/- What holds between the acts of WalFalls, and how each act goes. -/
namespace Go.Proofs.YtjnjcjildiadgaaDoor.Wl
open Go Go.RowKit Frame Oct Disk
structure FI (B p d L : Nat) (s : DSt) (l : LSt) (image may : List UInt8) (all : List (List UInt8)) (safe : Nat) (W w : World) : Prop where
  i : Lw B p d L s l W w
  inv : LInv 20 s l
  on : l.broken = false → s.on = true
  live : l.broken = false → Live 10 s.last l image all safe
  dead : l.broken = true → Dead 10 s.last image may all safe
  small : Sg.used all ≤ 640
  sf : safe ≤ all.length
section
variable {B p d L : Nat} {s : DSt} {l : LSt} {image may : List UInt8} {all : List (List UInt8)} {safe : Nat} {W w w' : World} {e : Ending}
theorem FI.below (h : FI B p d L s l image may all safe W w) (hb : Below w.heap.size w w') : FI B p d L s l image may all safe W w' := ⟨h.i.below hb, h.inv, h.on, h.live, h.dead, h.small, h.sf⟩
theorem FI.to {s' : DSt} {l' : LSt} (h : FI B p d L s l image may all safe W w) (hs : s' = s) (hl : l' = l) (hi : Lw B p d L s' l' W w') : FI B p d L s' l' image may all safe W w' := by
  subst hs; subst hl; exact ⟨hi, h.inv, h.on, h.live, h.dead, h.small, h.sf⟩
theorem brk_brk (l : LSt) : (brk l).broken = true := rfl
theorem FI.commits (h : FI B p d L s l image may all safe W w) (H : ComPost B p d L (20 / 2) s l w e w') :
    ∃ x s' l', e = .returned (.int .i64 x) ∧ Kept2 w w' ∧ ((x = 0 ∧ FI B p d L s' l' image may all all.length W w') ∨ (x ≠ 0 ∧ FI B p d L s' l' image may all safe W w')) := by
  have hinv := h.inv.commit
  rw [show (20 : Nat) / 2 = 10 from rfl] at *
  rcases Bool.eq_false_or_eq_true l.broken with hb | hb
  · have hc : commitS s l 10 = (s, l, 21) := by
      have : checkE l = 21 := by unfold checkE; rw [if_pos hb]
      unfold commitS
      rw [this, if_pos (by decide)]
    obtain ⟨he, hl, hk⟩ := H.out hc h.i
    exact ⟨21, s, l, he, hk, .inr ⟨by decide, h.to rfl rfl hl⟩⟩
  · rcases Live.commits (n := 20) (may := may) h.inv (h.on hb) (h.live hb) with ⟨q1, q2, q3⟩ | ⟨s', q1, q2, q3⟩ | ⟨s', l', q1, q2, q3, q4, -, q5⟩
    · rw [show (20 : Nat) / 2 = 10 from rfl] at q1 q2 q3
      obtain ⟨he, hl, hk⟩ := H.out (Prod.ext rfl (Prod.ext rfl rfl)) h.i
      exact ⟨_, _, _, he, hk, .inr ⟨q1, h.to q2 q3 hl⟩⟩
    · rw [show (20 : Nat) / 2 = 10 from rfl] at q1 q3
      rw [q1] at hinv
      obtain ⟨he, hl, hk⟩ := H.out q1 h.i
      exact ⟨16, s', brk l, he, hk, .inr ⟨by decide, hl, hinv, (fun h => by cases h), (fun h => by cases h), (fun _ => q3), h.small, h.sf⟩⟩
    · rw [show (20 : Nat) / 2 = 10 from rfl] at q1 q5
      rw [q1] at hinv
      obtain ⟨he, hl, hk⟩ := H.out q1 h.i
      exact ⟨0, s', l', he, hk, .inl ⟨rfl, hl, hinv, (fun _ => q2), (fun _ => q5), (fun h' => by rw [q3, hb] at h'; cases h'), h.small, Nat.le_refl _⟩⟩
theorem FI.begins (img : List UInt8) (h : FI B p d L s l image may all safe W w) (H : BegPost B p d L (20 / 2) s l img w e w') :
    ∃ x s' l', e = .returned (.int .i64 x) ∧ Kept2 w w' ∧ ((x = 0 ∧ FI B p d L s' l' img may [] 0 W w') ∨ (x = 16 ∧ FI B p d L s' l' image img all safe W w') ∨ (x ≠ 0 ∧ x ≠ 16 ∧ FI B p d L s' l' image may all safe W w')) := by
  have hinv := h.inv.begin_ img
  rw [show (20 : Nat) / 2 = 10 from rfl] at *
  rcases Bool.eq_false_or_eq_true l.broken with hb | hb
  · have hc : beginS s l 10 img = (s, l, 21) := by
      have : beginE l 10 img = 21 := by unfold beginE; rw [if_pos hb]
      rw [begin_0 (by rw [this]; decide), this]
    obtain ⟨he, hl, hk⟩ := H.out hc h.i
    exact ⟨21, s, l, he, hk, .inr (.inr ⟨by decide, by decide, h.to rfl rfl hl⟩)⟩
  · rcases Live.begins (n := 20) h.inv (h.on hb) (h.live hb) img with ⟨q1, q2⟩ | ⟨s', q1, q2, q3⟩ | ⟨s', q1, q2, q3⟩
    · rw [show (20 : Nat) / 2 = 10 from rfl] at q1 q2
      obtain ⟨he, hl, hk⟩ := H.out q2 h.i
      exact ⟨_, _, _, he, hk, .inr (.inr ⟨q1, beginE_no16 l 10 img, h.to rfl rfl hl⟩)⟩
    · rw [show (20 : Nat) / 2 = 10 from rfl] at q1 q3
      rw [q1] at hinv
      obtain ⟨he, hl, hk⟩ := H.out q1 h.i
      exact ⟨16, s', brk l, he, hk, .inr (.inl ⟨rfl, hl, hinv, (fun h => by cases h), (fun h => by cases h), (fun _ => q3), h.small, h.sf⟩)⟩
    · rw [show (20 : Nat) / 2 = 10 from rfl] at q1 q3
      rw [q1] at hinv
      obtain ⟨he, hl, hk⟩ := H.out q1 h.i
      exact ⟨0, s', _, he, hk, .inl ⟨rfl, hl, hinv, (fun _ => q2), (fun _ => q3), (fun h => by cases h), Nat.zero_le _, Nat.le_refl _⟩⟩
theorem FI.appends (rs : List (List UInt8)) (h : FI B p d L s l image may all safe W w) (H : AppPost B p d L (20 / 2) s l rs w e w') :
    ∃ x l', e = .returned (.int .i64 x) ∧ Kept2 w w' ∧ ((x = 0 ∧ FI B p d L s l' image may (all ++ rs) safe W w') ∨ (x ≠ 0 ∧ FI B p d L s l' image may all safe W w')) := by
  have hinv := h.inv.append rs
  rw [show (20 : Nat) / 2 = 10 from rfl] at *
  rcases Bool.eq_false_or_eq_true l.broken with hb | hb
  · have hc : appendS l 10 rs = (l, 21) := by
      have : checkE l = 21 := by unfold checkE; rw [if_pos hb]
      unfold appendS
      rw [this, if_pos (by decide)]
    obtain ⟨he, hl, hk⟩ := H.out hc h.i
    exact ⟨21, l, he, hk, .inr ⟨by decide, h.to rfl rfl hl⟩⟩
  · rcases Live.appends (n := 20) (h.live hb) rs with ⟨q1, q2⟩ | ⟨q1, q2, q3, q4⟩
    · rw [show (20 : Nat) / 2 = 10 from rfl] at q1 q2
      obtain ⟨he, hl, hk⟩ := H.out (Prod.ext rfl rfl) h.i
      exact ⟨_, _, he, hk, .inr ⟨q1, h.to rfl q2 hl⟩⟩
    · rw [show (20 : Nat) / 2 = 10 from rfl] at q1 q2 q4
      obtain ⟨he, hl, hk⟩ := H.out (Prod.ext q2 q1) h.i
      rw [q2] at hinv
      refine ⟨0, _, he, hk, .inl ⟨rfl, hl, hinv, (fun _ => h.on hb), (fun _ => q4), (fun h' => by rw [show ({ l with wait := l.wait ++ Sg.cat rs } : LSt).broken = l.broken from rfl, hb] at h'; cases h'), ?_, by rw [List.length_append]; have := h.sf; omega⟩⟩
      obtain ⟨-, r2, r3, -, -⟩ := q4.rdy q3
      have hrm := hinv.rm
      have e1 := congrArg List.length r2
      have e2 := congrArg List.length r3
      rw [Sg.cat_length] at e1 e2
      have hu := Sg.used_append ((all ++ rs).take safe) ((all ++ rs).drop safe)
      rw [List.take_append_drop] at hu
      have hc : Sg.used (image :: (all ++ rs).take safe) = image.length + 9 + Sg.used ((all ++ rs).take safe) := rfl
      omega
theorem armed_good {n : Nat} (hg : Disk.Good n s) (a c : Int) (ha : a ≤ 9223372036854775807) (hc : c ≤ 9223372036854775807) : Disk.Good n (armed s a c) := by
  unfold armed
  split
  · exact ⟨hg.fits, hg.len, hg.hn, hg.many, by show 0 ≤ max 0 a ∧ max 0 a ≤ _; omega, by show 0 ≤ max 0 c ∧ max 0 c ≤ _; omega⟩
  · exact hg
theorem armed_same (s : DSt) (a c : Int) : (armed s a c).last = s.last ∧ (armed s a c).wait = s.wait ∧ (armed s a c).on = s.on := by
  unfold armed
  split <;> exact ⟨rfl, rfl, rfl⟩
theorem FI.arms (a c : Int) (ha : a ≤ 9223372036854775807) (hc : c ≤ 9223372036854775807) (h : FI B p d L s l image may all safe W w) (ho : One B d L (armed s a c) w') (hb : Below B w w') (hk : Kept w w') : FI B p d L (armed s a c) l image may all safe W w' := by
  obtain ⟨e1, e2, e3⟩ := armed_same s a c
  exact ⟨h.i.next (h.i.wd.disk ho hb hk), ⟨armed_good h.inv.good a c ha hc, by rw [e2]; exact h.inv.wait, h.inv.four, h.inv.area, h.inv.gen, h.inv.rm, h.inv.ready⟩, fun k => by rw [e3]; exact h.on k, fun k => by rw [e1]; exact h.live k, fun k => by rw [e1]; exact h.dead k, h.small, h.sf⟩
/-- The power goes and comes again. -/
def anew (s : DSt) (c : Int) : DSt := upped (down s c)
theorem anew_out {n : Nat} (hg : Disk.Good n s) (hw : s.wait = []) (c : Int) : Disk.Good n (down s c) ∧ Disk.Good n (anew s c) ∧ (anew s c).wait = [] ∧ (anew s c).on = true ∧ (anew s c).last = s.last := by
  have hdn : (down s c).last = s.last ∧ (down s c).wait = [] ∧ (down s c).on = false ∧ Disk.Good n (down s c) := by
    unfold down
    rcases Bool.eq_false_or_eq_true s.on with ho | ho
    · rw [if_pos ho, hw]
      exact ⟨rfl, rfl, rfl, ⟨(fun y hy => by cases hy), hg.len, hg.hn, Nat.zero_le _, hg.syncs, hg.cut⟩⟩
    · rw [if_neg (by rw [ho]; decide)]
      exact ⟨rfl, hw, ho, hg⟩
  obtain ⟨e1, e2, e3, e4⟩ := hdn
  have e5 : anew s c = { down s c with on := true, armed := false, syncs := 0, cut := 0 } := by
    unfold anew upped
    rw [if_neg (by rw [e3]; decide)]
  refine ⟨e4, ?_, by rw [e5]; exact e2, by rw [e5], by rw [e5]; exact e1⟩
  rw [e5]
  exact ⟨e4.fits, e4.len, e4.hn, e4.many, by show (0 : Int) ≤ 0 ∧ (0 : Int) ≤ _; decide, by show (0 : Int) ≤ 0 ∧ (0 : Int) ≤ _; decide⟩
theorem openL_inv {n : Nat} {s : DSt} (hg : Disk.Good n s) (hw : s.wait = []) (h4 : 4 ≤ n) : LInv n s (openL (n / 2) s.last) := by
  have ho := ofold_ok (n / 2) s.last 2
  rw [opened_fold] at ho
  have ha := ho.area
  exact ⟨hg, hw, h4, by show -1 ≤ (opened _ _).area ∧ (opened _ _).area ≤ 1; omega, ho.gen.1, Nat.zero_le _, fun h => by cases h⟩
theorem FI.deadly (h : FI B p d L s l image may all safe W w) : Dead 10 s.last image may all safe := by
  rcases Bool.eq_false_or_eq_true l.broken with hb | hb
  · exact h.dead hb
  · exact (h.live hb).dead
/-- What is opened behind that. -/
theorem FI.opens (c : Int) (h : FI B p d L s l image may all safe W w) (ho : One B d L (anew s c) w') (hb : Below B w w') {p' : Nat} (hp : B ≤ p') (hl : Lg p' d (openL 10 (anew s c).last) w') :
    Told ((opened 10 (anew s c).last).best.getD 0 []) ((opened 10 (anew s c).last).best.drop 1) image may all safe ∧
    FI B p' d L (anew s c) (openL 10 (anew s c).last) ((opened 10 (anew s c).last).best.getD 0 []) [] ((opened 10 (anew s c).last).best.drop 1) ((opened 10 (anew s c).last).best.drop 1).length W w' := by
  obtain ⟨g1, g2, g3, g4, g5⟩ := anew_out h.inv.good h.inv.wait c
  obtain ⟨t1, t2, t3⟩ := h.deadly.opens
  have hinv := openL_inv g2 g3 h.inv.four
  rw [g5] at hinv hl ⊢
  exact ⟨t1, ⟨⟨ho, hl, h.i.bel.trans hb, hp⟩, hinv, fun _ => g4, fun _ => by rw [g5]; exact t2, (fun h => by cases h), Nat.le_trans t3 h.small, Nat.le_refl _⟩⟩
end
end Go.Proofs.YtjnjcjildiadgaaDoor.Wl
