/- Merged: WalAwake, WalRoom, WalActs, WalFallI. -/
import Derived.Test.YtjnjcjildiadgaaGreatDoorWalP
import Derived.Test.YtjnjcjildiadgaaGreatDoorWalLaw
import Derived.Test.YtjnjcjildiadgaaGreatDoorDiskAwake
/- The chapter's example of wal. -/
namespace Go.Proofs.YtjnjcjildiadgaaGreatDoor.Wl
open Go Go.RowKit Frame Oct Disk
/-- A disk whose power will not go. -/
def Calm (s : DSt) : Prop := s.on = true ∧ s.armed = false
theorem Calm.put {s : DSt} (h : Calm s) (a n : Nat) (x : List UInt8) : (putS s a n x).2 = 0 ∧ Calm (putS s a n x).1 := by
  have e : putS s a n x = ({ s with last := all s.last (wrs a x n), wait := [], syncs := max 0 (s.syncs - 1) }, 0) := by
    unfold putS
    rw [if_pos h.1]
    exact synced_on { s with wait := wrs a x n } h.1 (.inl h.2)
  rw [e]
  exact ⟨rfl, h.1, h.2⟩
theorem Calm.begin_ {s : DSt} {l : LSt} {h : Nat} {img : List UInt8} (hc : Calm s) (he : beginE l h img = 0) : ∃ s', beginS s l h img = (s', ⟨(tgt l.area : Nat), l.gen + 1, true, false, Sg.one img, []⟩, 0) ∧ Calm s' := by
  obtain ⟨a1, a2⟩ := hc.put (h * tgt l.area) 1 (noughts 64)
  obtain ⟨b1, b2⟩ := a2.put (h * tgt l.area + 1) (h - 1) (pad (Sg.one img) (h - 1))
  obtain ⟨c1, c2⟩ := b2.put (h * tgt l.area) 1 (pad (headOf (l.gen + 1)) 1)
  exact ⟨_, begin_4 he (Prod.ext rfl a1) (Prod.ext rfl b1) (Prod.ext rfl c1), c2⟩
theorem Calm.commit {s : DSt} {l : LSt} {h : Nat} (hc : Calm s) (he : checkE l = 0) : (commitS s l h).2.2 = 0 ∧ Calm (commitS s l h).1 := by
  unfold commitS
  rw [if_neg (by omega)]
  by_cases hw : l.wait = []
  · rw [if_pos hw]; exact ⟨rfl, hc⟩
  rw [if_neg hw]
  obtain ⟨a1, a2⟩ := hc.put (h * l.area.toNat + (1 + from_ l)) (many l) (pad (text l) (many l))
  simp only [a1]
  rw [if_neg (by decide)]
  exact ⟨rfl, a2⟩
theorem Calm.fresh (n : Nat) : Calm (fresh n) := ⟨rfl, rfl⟩
/-- A log on a new disk. -/
theorem open_fresh (h n : Nat) : opened h (fresh n).last = ⟨-1, 0, (opened h (fresh n).last).top, []⟩ := by
  have hS : Shape h (noughts (64 * n)) (-1) 0 [] := .inl ⟨rfl, rfl, rfl, fresh_rd _ _ _, fresh_rd _ _ _⟩
  obtain ⟨e1, e2, e3⟩ := hS.opened
  have e : (fresh n).last = noughts (64 * n) := rfl
  rw [e]
  generalize opened h (noughts (64 * n)) = o at *
  obtain ⟨a, g, t, b⟩ := o
  simp only at e1 e2 e3
  subst e1; subst e2; subst e3
  rfl
def l0 : LSt := ⟨-1, 0, false, false, [], []⟩
theorem openL_fresh (h n : Nat) : openL h (fresh n).last = l0 := by unfold openL; rw [open_fresh]; rfl
theorem OpenPost.fresh {d h n : Nat} {w w' : World} {e : Ending} (H : OpenPost d h (fresh n).last w e w') :
    ∃ A c, e = .returned (.tuple #[.pointer (some ⟨w.heap.size, 0, none⟩), .string ⟨#[]⟩, .slice A 0 c, .int .i64 0]) ∧ Lg w.heap.size d l0 w' ∧ Below w.heap.size w w' := by
  unfold OpenPost at H
  rw [openL_fresh, open_fresh] at H
  obtain ⟨v, he, ⟨A, c, rfl, -⟩, hl, hb⟩ := H
  exact ⟨A, c, he, hl, hb⟩
theorem LInv.fresh (n : Nat) (h4 : 4 ≤ n) (hn : n ≤ 4096) : LInv n (fresh n) l0 := ⟨Good.fresh n hn, rfl, h4, by decide, by decide, Nat.zero_le _, fun h => by cases h⟩
theorem Awake15_calls (w : World) : Calls Tryz.prog 20 #[] w fun e w' => e = .returned (.bool true) ∧ Below w.heap.size w w' := by
  go_enter Tryz.func20, Tryz.ntmps20
  go_wp2_with fail
  refine (Disk.awake_calls _).mono ?_
  rintro e w1 ⟨rfl, b1⟩
  have B1 := Lib.hid b1
  clear b1
  go_wp2_with fail
  go_ret
  exact ⟨rfl, B1.out⟩
theorem Awake16_calls (w : World) (hT : Crc.Tab w) : Calls Tryz.prog 21 #[] w fun e w' => e = .returned (.bool true) ∧ Below w.heap.size w w' := by
  go_enter Tryz.func21, Tryz.ntmps21
  go_wp2_with fail
  refine (Sg.awake_calls _ hT).mono ?_
  rintro e w1 ⟨rfl, b1⟩
  have B1 := Lib.hid b1
  clear b1
  go_wp2_with fail
  go_ret
  exact ⟨rfl, B1.out⟩
theorem ab_begin : beginE l0 6 [97, 98] = 0 := by decide +kernel
theorem ab_room : room ⟨((tgt l0.area : Nat) : Int), l0.gen + 1, true, false, Sg.one [97, 98], []⟩ 6 = 309 := by
  unfold room
  rw [if_pos rfl, Sg.one_length]
  rfl
set_option maxRecDepth 100000 in
set_option maxHeartbeats 1000000 in
theorem awake_calls (w : World) (hT : Crc.Tab w) : Calls Tryz.prog 4 #[] w fun e w' => e = .returned (.bool true) ∧ Below w.heap.size w w' := by
  have HTS := Lib.hid (Crc.Tab.size hT)
  have HT := Lib.hid hT
  clear hT
  go_enter Tryz.func4, Tryz.ntmps4
  go_wp2_with fail
  refine (New_one 12 (by decide) w).mono ?_
  rintro e w1 ⟨rfl, h1, b1⟩
  have H1 := Lib.hid h1
  have B1 := Lib.hid b1
  clear h1 b1
  go_wp2_with fail
  refine (Open_calls w.heap.size _ _ 12 (fresh 12) (Good.fresh 12 (by decide)) rfl rfl (by decide) w w1 HT.out HTS.out B1.out (Kept2.of_below B1.out) H1.out).mono ?_
  intro e w2 hop
  obtain ⟨A, c, rfl, hl2, b2⟩ := hop.fresh
  clear hop
  have H2 := Lib.hid (show WD w.heap.size w1.heap.size (w.heap.size + 1) w.heap.size (fresh 12) l0 w w2 from ⟨H1.out.below b2, hl2, B1.out.trans (b2.mono B1.out.size), (Kept2.of_below B1.out).trans (Kept2.of_below b2), B1.out.size⟩)
  clear hl2 b2
  generalize w1.heap.size = p at *
  go_wp2_with fail
  refine (Awake15_calls _).mono ?_
  rintro e w3 ⟨rfl, b3⟩
  have H3 := Lib.hid (H2.out.below b3)
  clear b3 H2
  go_wp2_with fail
  refine (Awake16_calls _ (tab_bel HT.out HTS.out H3.out.bel)).mono ?_
  rintro e w4 ⟨rfl, b4⟩
  have H4 := Lib.hid (H3.out.below b4)
  clear b4 H3
  go_wp2_with fail
  refine (Ready_calls p _ l0 _ H4.out.lg).mono ?_
  rintro e w5 ⟨rfl, rfl⟩
  go_wp2_with fail
  obtain ⟨s', hb', hcm⟩ := (Calm.fresh 12).begin_ (l := l0) (h := 6) ab_begin
  have HBG := Lib.hid hb'
  clear hb' hcm
  refine (Begin_calls w.heap.size p _ _ 12 (fresh 12) l0 (LInv.fresh 12 (by decide) (by decide)) [97, 98] w w4 HT.out HTS.out H4.out).mono ?_
  intro e w5 hbp
  unfold BegPost at hbp
  rw [HBG.out] at hbp
  obtain ⟨rfl, h5⟩ := hbp
  have H5 := Lib.hid h5
  have HLI := Lib.hid ((LInv.fresh 12 (by decide) (by decide)).begin_ [97, 98])
  rw [HBG.out] at HLI
  have HRM := Lib.hid ab_room
  clear h5 H4
  generalize ((tgt l0.area : Nat) : Int) = ar at *
  have HGE := Lib.hid (show l0.gen + 1 = 1 from rfl)
  rw [HGE.out] at H5 HLI HRM
  generalize hl1 : (⟨ar, 1, true, false, Sg.one [97, 98], []⟩ : LSt) = l1 at *
  have hr1 : l1.ready = true := by rw [← hl1]
  have hg1 : l1.gen = 1 := by rw [← hl1]
  clear hl1
  have HRD := Lib.hid (Ready_calls p _ l1 w5 H5.out.lg)
  rw [hr1] at HRD
  have HGN := Lib.hid (fun W (k : Below w5.heap.size w5 W) => Gen_calls p _ l1 W (H5.out.below k).lg)
  rw [hg1] at HGN
  have HRO := Lib.hid (Room_calls w.heap.size p _ _ 12 s' l1 HLI.out w5 H5.out.one H5.out.lg)
  rw [HRM.out] at HRO
  clear hr1 hg1
  go_wp2_with fail
  refine HRD.out.mono ?_
  rintro e w6 ⟨rfl, rfl⟩
  go_wp2_with fail
  refine HRO.out.mono ?_
  rintro e w6 ⟨rfl, b6⟩
  go_wp2_with fail
  refine (HGN.out _ b6).mono ?_
  rintro e w7 ⟨rfl, rfl⟩
  have B6 := Lib.hid (H5.out.below b6).bel
  clear b6
  go_wp2_with fail
  go_ret
  exact ⟨rfl, B6.out⟩
end Go.Proofs.YtjnjcjildiadgaaGreatDoor.Wl
/- The walk of WalRoom. -/
namespace Go.Proofs.YtjnjcjildiadgaaGreatDoor.Wl
open Go Go.RowKit Frame Oct Disk
theorem one_grown {B d L : Nat} {s : DSt} {w w' : World} {row : Option Nat} (h : One B d L s w) (hg : w.grownBy w' row) (hr : ∀ g, row = some g → ∃ cs, Has g cs 9 w) : One B d L s w' := by
  obtain ⟨v, k⟩ := h
  have ht : Turn (fun k => row = some k) w w' := (Turn.refl (fun k => row = some k) w).grown hg (fun k hk => .inl hk)
  refine ⟨v, k.turn ht fun j hj => ?_⟩
  obtain ⟨cs, hcs⟩ := hr j hj
  exact k.apart hcs (by decide) (by decide) (by decide)
/-- A log and its disk at a law's own place. -/
structure Lw (B p d L : Nat) (s : DSt) (l : LSt) (W w : World) : Prop where
  one : One B d L s w
  lg : Lg p d l w
  bel : Below B W w
  hp : B ≤ p
section
variable {B p d L : Nat} {s s' : DSt} {l l' : LSt} {W w w' : World}
theorem Lw.wd (h : Lw B p d L s l W w) : WD B p d L s l w w := WD.refl h.hp h.one h.lg
theorem Lw.le (h : Lw B p d L s l W w) : B ≤ w.heap.size := One.base_le h.one
theorem Lw.below (h : Lw B p d L s l W w) (hb : Below w.heap.size w w') : Lw B p d L s l W w' := ⟨h.one.below hb, h.lg.below hb, h.bel.trans (hb.mono h.le), h.hp⟩
theorem Lw.next (h : Lw B p d L s l W w) (k : WD B p d L s' l' w w') : Lw B p d L s' l' W w' := ⟨k.one, k.lg, h.bel.trans k.bel, h.hp⟩
theorem Lw.tab (h : Lw B p d L s l W w) (hT : Crc.Tab W) (hB : 0 < B) : Crc.Tab w := tab_bel hT hB h.bel
/-- An append to a slice of strings leaves a log and its disk. -/
theorem Lw.grown {row : Option Nat} (h : Lw B p d L s l W w) (hg : w.grownBy w' row) (hr : ∀ g, row = some g → B ≤ g ∧ ∃ cs, Has g cs 9 w) : Lw B p d L s l W w' := by
  have hb : Below B w w' := Sg.below_grown (Below.refl _ _) hg h.le fun g e => (hr g e).1
  have hp : some p ≠ row := fun e => by
    obtain ⟨-, cs, hcs⟩ := hr p e.symm
    exact absurd (has_type h.lg hcs) (by decide)
  exact ⟨one_grown h.one hg fun g e => (hr g e).2, (hg.block p (Has.lt h.lg) hp).trans h.lg, h.bel.trans hb, h.hp⟩
end
/-- A slice of strings of one's own, while a log turns. -/
theorem own_kept {w w' : World} {B n : Nat} {v : Value} {xs : List Value} (h : w.ownsRow B 9 1 v n xs) (hk : Kept2 w w') : w'.ownsRow B 9 1 v n xs := by
  obtain ⟨hlen, hv⟩ := h
  refine ⟨hlen, ?_⟩
  rcases hv with hv | ⟨g, cap, cur, rfl, hb', hg, hr⟩
  · exact .inl hv
  · exact .inr ⟨g, cap, cur, rfl, hb', hk g cur _ (by decide) (by decide) (by decide) (by decide) hg, hr⟩
theorem own_row {w : World} {B n g : Nat} {v : Value} {xs : List Value} (h : w.ownsRow B 9 1 v n xs) (hg : v.ownBlock = some g) : B ≤ g ∧ ∃ cs, Has g cs 9 w := by
  obtain ⟨hlen, hv⟩ := h
  rcases hv with ⟨rfl, _⟩ | ⟨g', cap, cur, rfl, hb', hg', hr⟩
  · cases hg
  · obtain rfl : g' = g := by simpa [Value.ownBlock] using hg
    exact ⟨hb', cur, hg'⟩
section
variable {l : LSt} {h : Nat} {r : List UInt8}
theorem app_empty (hc : checkE l = 0) (hr : r.length = 0) : appendS l h [r] = (l, 15) := by
  have hb : (Sg.bytes [r]) = ([], 15) := by
    rw [Sg.bytes_bad r (by unfold Sg.bad; rw [if_pos hr]; decide)]
    unfold Sg.bad; rw [if_pos hr]
  unfold appendS
  rw [if_neg (by omega), hb, if_pos (by decide)]
theorem bad_fine (h0 : r.length ≠ 0) (h4 : r.length ≤ 400) : Sg.bad r = 0 := by unfold Sg.bad; rw [if_neg h0, if_neg (by omega)]
theorem app_big (hc : checkE l = 0) (h0 : r.length ≠ 0) (h4 : r.length ≤ 400) (hb : room l h < (r.length : Int) + 9) : appendS l h [r] = (l, 17) := by
  unfold appendS
  rw [if_neg (by omega), Sg.bytes_one r (bad_fine h0 h4), if_neg (by show ¬ (0 : Int) ≠ 0; decide), if_pos (by show room l h < ((Sg.one r).length : Int); rw [Sg.one_length]; omega)]
theorem app_fine (hc : checkE l = 0) (h0 : r.length ≠ 0) (h4 : r.length ≤ 400) (hb : ¬ room l h < (r.length : Int) + 9) :
    appendS l h [r] = ({ l with wait := l.wait ++ Sg.one r }, 0) ∧ room { l with wait := l.wait ++ Sg.one r } h = room l h - ((r.length : Int) + 9) := by
  refine ⟨?_, ?_⟩
  · unfold appendS
    rw [if_neg (by omega), Sg.bytes_one r (bad_fine h0 h4), if_neg (by show ¬ (0 : Int) ≠ 0; decide), if_neg (by show ¬ room l h < ((Sg.one r).length : Int); rw [Sg.one_length]; omega)]
  · have hr := (checkE_ok hc).2
    unfold room
    rw [if_pos hr, if_pos (show ({ l with wait := l.wait ++ Sg.one r } : LSt).ready = true from hr)]
    show 64 * ((h : Int) - 1) - (l.done.length : Int) - ((l.wait ++ Sg.one r).length : Int) = _
    rw [List.length_append, Sg.one_length]
    omega
theorem check_rdy (hb : l.broken = false) (hr : l.ready = true) : checkE l = 0 := by unfold checkE; rw [hb, hr]; rfl
end
/-- Append of one record. -/
theorem Append_one (B p d L n : Nat) (s : DSt) (l : LSt) (hi : LInv n s l) (q : Nat) (r : List UInt8) (W w : World) (hT : Crc.Tab W) (hTB : 0 < B) (h : Lw B p d L s l W w) (hq : Has q #[.string (bs r)] 9 w) :
    Calls Tryz.prog 17 #[.pointer (some ⟨p, 0, none⟩), .slice (some ⟨q, 0, none⟩) 1 1] w (AppPost B p d L (n / 2) s l [r] w) :=
  Append_calls B p d L n s l hi (some ⟨q, 0, none⟩) 1 [r] (by simp) w w (h.tab hT hTB) hTB h.wd (Sg.SS.one hq)
theorem AppPost.out {B p d L h : Nat} {s : DSt} {l l' : LSt} {rs : List (List UInt8)} {x : Int} {W w w' : World} {e : Ending} (H : AppPost B p d L h s l rs w e w') (he : appendS l h rs = (l', x)) (hl : Lw B p d L s l W w) :
    e = .returned (.int .i64 x) ∧ Lw B p d L s l' W w' ∧ Kept2 w w' := by
  unfold AppPost at H
  rw [he] at H
  exact ⟨H.1, hl.next H.2, H.2.kept⟩
theorem ComPost.out {B p d L h : Nat} {s s' : DSt} {l l' : LSt} {x : Int} {W w w' : World} {e : Ending} (H : ComPost B p d L h s l w e w') (he : commitS s l h = (s', l', x)) (hl : Lw B p d L s l W w) :
    e = .returned (.int .i64 x) ∧ Lw B p d L s' l' W w' ∧ Kept2 w w' := by
  unfold ComPost at H
  rw [he] at H
  exact ⟨H.1, hl.next H.2, H.2.kept⟩
theorem BegPost.out {B p d L h : Nat} {s s' : DSt} {l l' : LSt} {img : List UInt8} {x : Int} {W w w' : World} {e : Ending} (H : BegPost B p d L h s l img w e w') (he : beginS s l h img = (s', l', x)) (hl : Lw B p d L s l W w) :
    e = .returned (.int .i64 x) ∧ Lw B p d L s' l' W w' ∧ Kept2 w w' := by
  unfold BegPost at H
  rw [he] at H
  exact ⟨H.1, hl.next H.2, H.2.kept⟩
theorem app_l0 (h : Nat) (rs : List (List UInt8)) : appendS l0 h rs = (l0, 13) := rfl
theorem com_l0 (h : Nat) (s : DSt) : commitS s l0 h = (s, l0, 13) := rfl
def img5 : List UInt8 := [105, 109, 97, 103, 101]
theorem img_begin : beginE l0 10 img5 = 0 := by decide +kernel
/-- What holds at each record. -/
structure RmI (B p d L : Nat) (s : DSt) (l : LSt) (kept : List (List UInt8)) (v : Value) (W w : World) : Prop where
  i : Lw B p d L s l W w
  inv : LInv 20 s l
  calm : Calm s
  live : Live 10 s.last l img5 kept 0
  rdy : l.ready = true ∧ l.broken = false
  own : w.ownsRow B 9 1 v kept.length (Sg.cells kept)
  many : kept.length ≤ 12
end Go.Proofs.YtjnjcjildiadgaaGreatDoor.Wl
/- Acts of stairwelllaw17: how they lie, opened; Light, first. -/
namespace Go.Proofs.YtjnjcjildiadgaaGreatDoor.Wl
open Go Go.RowKit Go.ChangeShapes Go.WideShapes Frame Oct Disk
structure WAct where
  kind : UInt8
  ad : Option Addr
  recs : List (List UInt8)
  cap : Nat
  at_ : Int
  cut : Int
instance : Inhabited WAct := ⟨⟨0, none, [], 0, 0, 0⟩⟩
def WAct.Ok (x : WAct) : Prop := (-9223372036854775808 ≤ x.at_ ∧ x.at_ ≤ 9223372036854775807) ∧ (-9223372036854775808 ≤ x.cut ∧ x.cut ≤ 9223372036854775807) ∧ x.recs.length ≤ x.cap ∧ x.cap ≤ maxLen ∧ (x.ad = none → x.cap = 0)
def aCells (x : WAct) : Array Value := #[.int .u8 x.kind.toNat, .slice x.ad x.recs.length x.cap, .int .i64 x.at_, .int .i64 x.cut]
def ActAt (b o : Nat) (x : WAct) (w : World) : Prop :=
  w.cell? ⟨b, o, none⟩ = some (.int .u8 x.kind.toNat) ∧ w.cell? ⟨b, o + 1, none⟩ = some (.slice x.ad x.recs.length x.cap) ∧ w.cell? ⟨b, o + 2, none⟩ = some (.int .i64 x.at_) ∧ w.cell? ⟨b, o + 3, none⟩ = some (.int .i64 x.cut)
/-- A slice of acts, in a block below B, their records too. -/
def Acts (B : Nat) (A : Option Addr) (l : List WAct) (w : World) : Prop :=
  0 < l.length → ∃ b off, A = some ⟨b, off, none⟩ ∧ b < B ∧ ∀ i, i < l.length → ActAt b (off + i * 4) (l.getD i default) w ∧ Sg.SS (l.getD i default).ad (l.getD i default).recs w ∧ (∀ b' off', (l.getD i default).ad = some ⟨b', off', none⟩ → 0 < (l.getD i default).recs.length → b' < B)
theorem ss_belowB {B : Nat} {A : Option Addr} {l : List (List UInt8)} {w w' : World} (h : Sg.SS A l w) (hB : ∀ b' off', A = some ⟨b', off', none⟩ → 0 < l.length → b' < B) (hb : Below B w w') (hz : w.heap.size ≤ w'.heap.size) : Sg.SS A l w' := fun h0 => by
  obtain ⟨b, off, hA, hlt, hi⟩ := h h0
  exact ⟨b, off, hA, by omega, fun i hil => (hb.cell (p := ⟨b, off + i, none⟩) (hB b off hA h0)).trans (hi i hil)⟩
theorem Acts.below {B : Nat} {A : Option Addr} {l : List WAct} {w w' : World} (h : Acts B A l w) (hb : Below B w w') : Acts B A l w' := fun h0 => by
  obtain ⟨b, off, hA, hlt, hi⟩ := h h0
  refine ⟨b, off, hA, hlt, fun i hil => ?_⟩
  obtain ⟨⟨c0, c1, c2, c3⟩, hs, hbb⟩ := hi i hil
  have hc := fun o => hb.cell (p := ⟨b, o, none⟩) hlt
  exact ⟨⟨by rw [hc]; exact c0, by rw [hc]; exact c1, by rw [hc]; exact c2, by rw [hc]; exact c3⟩, ss_belowB hs hbb hb hb.size, hbb⟩
theorem take_succ_getD {α : Type} [Inhabited α] (l : List α) (k : Nat) (h : k < l.length) : l.take (k + 1) = l.take k ++ [l.getD k default] := by
  rw [List.take_succ_eq_append_getElem h]; simp [List.getD_eq_getElem?_getD, h]
theorem getD_mem {α : Type} [Inhabited α] (l : List α) (k : Nat) (h : k < l.length) : l.getD k default ∈ l := by
  simp [List.getD_eq_getElem?_getD, h]
theorem mem_getD {α : Type} [Inhabited α] {l : List α} {x : α} (h : x ∈ l) : ∃ i, i < l.length ∧ l.getD i default = x := by
  obtain ⟨i, hi, rfl⟩ := List.getElem_of_mem h
  exact ⟨i, hi, by simp [List.getD_eq_getElem?_getD, hi]⟩
def lightB (l : List WAct) : Bool := (l.all fun x => Sg.lightB x.recs) && decide (l.length ≤ 40)
theorem light_iff {l : List WAct} (h : lightB l = true) : l.length ≤ 40 ∧ ∀ x ∈ l, Sg.lightB x.recs = true := by
  unfold lightB at h
  simp at h
  exact ⟨h.2, h.1⟩
set_option maxRecDepth 100000 in
set_option maxHeartbeats 1000000 in
theorem Light_calls (A : Option Addr) (c : Nat) (l : List WAct) (w : World) (hA : Acts w.heap.size A l w) (hO : ∀ x ∈ l, x.Ok) (hl : l.length ≤ maxLen) :
    Calls Tryz.prog 5 #[.slice A l.length c] w fun e w' => e = .returned (.bool (lightB l)) ∧ Below w.heap.size w w' := by
  unfold maxLen at hl
  have HA := Lib.hid hA
  have HO := Lib.hid hO
  clear hA hO
  go_enter Tryz.func5, Tryz.ntmps5
  go_wp2
  go_loopw [7] (fun i wr => ∃ k : Nat, k ≤ l.length ∧ i = .int .i64 k ∧ Hid (Below w.heap.size w wr) ∧ Hid ((l.take k).all (fun x => Sg.lightB x.recs) = true)) (fun i _ => l.length - (intOf i).toNat)
  case atStart => exact ⟨0, by omega, rfl, Lib.hid (Below.refl _ _), rfl⟩
  case round =>
    obtain ⟨k, hk, rfl, hB, hP⟩ := hrel
    by_cases hlt : k < l.length
    · obtain ⟨b, off, rfl, hbl, hi⟩ := (HA.out.below hB.out) (by omega)
      obtain ⟨⟨c0, c1, c2, c3⟩, hs, -⟩ := hi k hlt
      clear hi
      have HT := Lib.hid (take_succ_getD l k hlt)
      have HM := Lib.hid (getD_mem l k hlt)
      have hok := HO.out _ HM.out
      generalize l.getD k default = x at *
      have HS := Lib.hid (hs.below ((Below.refl _ _).alloc (Nat.le_refl _) (.cells #[.int .u8 x.kind.toNat, .slice x.ad x.recs.length x.cap, .int .i64 x.at_, .int .i64 x.cut] 40)))
      have HBa := Lib.hid (hB.out.alloc hB.out.size (.cells #[.int .u8 x.kind.toNat, .slice x.ad x.recs.length x.cap, .int .i64 x.at_, .int .i64 x.cut] 40))
      obtain ⟨-, -, hc1, hc2, -⟩ := hok
      have HL := Lib.hid (show x.recs.length ≤ maxLen by omega)
      clear hs hc1 hc2
      go_wp2_with fail
      refine (Sg.Light_calls x.ad x.cap x.recs _ HS.out HL.out).mono ?_
      rintro e w2 ⟨rfl, b2⟩
      have HB2 := Lib.hid (bthen HBa.out b2)
      clear b2
      rcases Bool.eq_false_or_eq_true (Sg.lightB x.recs) with hx | hx
      · rw [hx]
        have HX := Lib.hid hx
        clear hx
        go_wp2_with fail
        refine ⟨⟨k + 1, by omega, by go_num, HB2, Lib.hid ?_⟩, by simp [intOf]; omega⟩
        rw [HT.out, List.all_append, hP.out]
        simp [HX.out]
      · rw [hx]
        have HE := Lib.hid (show lightB l = false by
          unfold lightB
          rw [Bool.and_eq_false_iff]
          left
          rw [List.all_eq_false]
          exact ⟨x, HM.out, by rw [hx]; decide⟩)
        clear hx
        go_wp2_with fail
        go_ret
        rw [HE.out]
        exact ⟨rfl, HB2.out⟩
    · obtain rfl : k = l.length := by omega
      have HE := Lib.hid (show lightB l = decide (l.length ≤ 40) by
        have := hP.out
        rw [List.take_length] at this
        unfold lightB
        rw [this, Bool.true_and])
      go_wp2
      go_ret
      rw [HE.out]
      refine ⟨?_, hB.out⟩
      congr 2
      simp; omega
/-- A slice of strings in one cell. -/
theorem strs_cell {H : Type} {enc : TypeId × Value → H} {w : World} {base : Nat} {spare : Nat → Bool} {held : Bool} {m : Nat} {x : Value} {y : DataW H × List MemPlace}
    (hf : DataW.trod enc Tryz.prog w base spare held m 38 [x] = some y) :
    ∃ (A : Option Addr) (c : Nat) (l : List (List UInt8)), x = .slice A l.length c ∧ l.length ≤ c ∧ c ≤ maxLen ∧ (A = none → c = 0) ∧ Sg.SS A l w := by
  rcases open_strings Tryz.underlying38 Tryz.underlying9 (by kernel_rfl) hf with ⟨hcs, _⟩ | ⟨a, len', cap', ss, hcs, _, hl, hm, hz, _, hcell, hsz⟩
  · simp at hcs
    subst hcs
    exact ⟨none, 0, [], rfl, Nat.le_refl _, Nat.zero_le _, (fun _ => rfl), Sg.SS.nil _ _⟩
  · simp at hcs
    subst hcs
    have hle : len' ≤ ss.length := by split at hz <;> omega
    have hln : ((ss.take len').map fun s => s.data.toList).length = len' := by simp; omega
    refine ⟨some a, cap', (ss.take len').map fun s => s.data.toList, by rw [hln], by omega, hm, (fun h => by cases h), ?_⟩
    intro h0
    rw [hln] at h0 ⊢
    obtain ⟨b, off, spot⟩ := a
    have hspot : spot = none := by
      have h1 := hcell 0 (by omega)
      have := World.cell?_spot h1
      simpa [Addr.add] using this
    subst hspot
    refine ⟨b, off, rfl, (Sg.cell_lt (hcell 0 (by omega)) : _), fun i hi => ?_⟩
    have h1 := hcell i (by omega)
    rw [Addr.add_lit] at h1
    rw [h1]
    congr 2
    simp only [List.getD_eq_getElem?_getD, List.getElem?_map, List.getElem?_take, if_pos hi, List.getElem?_eq_getElem (show i < ss.length by omega), Option.map_some, Option.getD_some]
    exact (bs_self _).symm
set_option maxRecDepth 100000 in
theorem open_acts {H : Type} {enc : TypeId × Value → H} {w : World} {base : Nat} {spare : Nat → Bool} {held : Bool} {r : Reach} {b0 : Nat} {v : Value} {d : DataW H} {p : List MemPlace}
    (hv : Value.okWide Tryz.prog w r b0 22 v) (h : DataW.Trod enc Tryz.prog w base spare held 22 v d p) :
    ∃ (A : Option Addr) (c : Nat) (l : List WAct), v = .slice A l.length c ∧ l.length ≤ maxLen ∧ Acts w.heap.size A l w ∧ ∀ x ∈ l, x.Ok := by
  obtain ⟨A, len, cap, rfl, hlen, hrow⟩ := Open.open_rows Tryz.underlying22 Tryz.underlying40 (by kernel_rfl) (by kernel_rfl) (by decide) hv h
  by_cases h0 : 0 < len
  · obtain ⟨b, off, rfl, hr⟩ := hrow h0
    have hex : ∀ i, i < len → ∃ x : WAct, (ActAt b (off + i * 4) x w ∧ Sg.SS x.ad x.recs w) ∧ x.Ok := fun i hi => by
      obtain ⟨x0, y0, m0, c0, t0⟩ := hr i hi 0 _ rfl
      obtain ⟨x1, y1, m1, c1, t1⟩ := hr i hi 1 _ rfl
      obtain ⟨x2, y2, m2, c2, t2⟩ := hr i hi 2 _ rfl
      obtain ⟨x3, y3, m3, c3, t3⟩ := hr i hi 3 _ rfl
      obtain ⟨k, rfl⟩ := Open.byte_cell Tryz.underlying5 t0
      obtain ⟨ad, cp, rs, rfl, q1, q2, q3, q4⟩ := strs_cell t1
      obtain ⟨n, rfl, hn⟩ := Open.i64_cell Tryz.underlying3 t2
      obtain ⟨z, rfl, hz⟩ := Open.i64_cell Tryz.underlying3 t3
      exact ⟨⟨k, ad, rs, cp, n, z⟩, ⟨⟨c0, c1, c2, c3⟩, q4⟩, hn, hz, q1, q2, q3⟩
    obtain ⟨l, rfl, hl⟩ := Open.list_of len _ hex
    refine ⟨_, cap, l, rfl, hlen, fun _ => ⟨b, off, rfl, Sg.cell_lt (hl 0 h0).1.1.1, fun i hi => ⟨(hl i hi).1.1, (hl i hi).1.2, fun b' off' e hp => ?_⟩⟩, fun x hx => ?_⟩
    · obtain ⟨b2, off2, e2, hlt, -⟩ := (hl i hi).1.2 hp
      rw [e] at e2
      injection e2 with e2
      injection e2 with e2
      omega
    · obtain ⟨i, hi, rfl⟩ := mem_getD hx
      exact (hl i hi).2
  · obtain rfl : len = 0 := by omega
    exact ⟨A, cap, [], rfl, Nat.zero_le _, fun h => absurd h (Nat.lt_irrefl 0), fun x hx => by cases hx⟩
theorem getD_one (r : List UInt8) (l : List (List UInt8)) : (r :: l).getD 0 [] = r := rfl
set_option maxHeartbeats 1000000 in
/-- The first record of an act. -/
theorem first_calls (x : WAct) (w : World) (hS : Sg.SS x.ad x.recs w) (hl : x.recs.length ≤ maxLen) :
    Calls Tryz.prog 28 #[.agg (aCells x)] w fun e w' => e = .returned (.string (bs (x.recs.getD 0 []))) ∧ Below w.heap.size w w' := by
  unfold maxLen at hl
  have HB := Lib.hid ((Below.refl w.heap.size w).alloc (Nat.le_refl _) (.cells (aCells x) 40))
  unfold aCells at HB ⊢
  by_cases h0 : x.recs.length = 0
  · have he : x.recs.getD 0 [] = [] := by rw [List.length_eq_zero_iff.1 h0]; rfl
    rw [he]
    rw [h0] at HB ⊢
    clear h0 he hS hl
    go_enter Tryz.func28, Tryz.ntmps28
    go_wp2_with fail
    go_ret
    exact ⟨rfl, HB.out⟩
  · obtain ⟨b, off, ha, hbl, hi⟩ := hS (by omega)
    have i0 := hi 0 (by omega)
    rw [Nat.add_zero] at i0
    rw [ha] at HB ⊢
    have hp : 0 < x.recs.length := by omega
    have hne : ((x.recs.length : Int) == 0) = false := beq_eq_false_iff_ne.2 (by omega)
    clear h0 hS hi ha
    generalize hxx : x.recs.getD 0 [] = r at *
    clear hxx
    go_enter Tryz.func28, Tryz.ntmps28
    go_wp2_with fail
    go_ret
    exact ⟨rfl, HB.out⟩
end Go.Proofs.YtjnjcjildiadgaaGreatDoor.Wl
/- What holds between the acts of WalFalls, and how each act goes. -/
namespace Go.Proofs.YtjnjcjildiadgaaGreatDoor.Wl
open Go Go.RowKit Frame Oct Disk
structure FI (B p d L : Nat) (s : DSt) (l : LSt) (image may : List UInt8) (all : List (List UInt8)) (safe : Nat) (W w : World) : Prop where
  i : Lw B p d L s l W w
  inv : LInv 20 s l
  on : l.broken = false → s.on = true
  live : l.broken = false → Live 10 s.last l image all safe
  dead : l.broken = true → Dead 10 s.last image may all safe
  small : Sg.used all ≤ 640
  sf : safe ≤ all.length
section
variable {B p d L : Nat} {s : DSt} {l : LSt} {image may : List UInt8} {all : List (List UInt8)} {safe : Nat} {W w w' : World} {e : Ending}
theorem FI.below (h : FI B p d L s l image may all safe W w) (hb : Below w.heap.size w w') : FI B p d L s l image may all safe W w' := ⟨h.i.below hb, h.inv, h.on, h.live, h.dead, h.small, h.sf⟩
theorem FI.to {s' : DSt} {l' : LSt} (h : FI B p d L s l image may all safe W w) (hs : s' = s) (hl : l' = l) (hi : Lw B p d L s' l' W w') : FI B p d L s' l' image may all safe W w' := by
  subst hs; subst hl; exact ⟨hi, h.inv, h.on, h.live, h.dead, h.small, h.sf⟩
theorem brk_brk (l : LSt) : (brk l).broken = true := rfl
theorem FI.commits (h : FI B p d L s l image may all safe W w) (H : ComPost B p d L (20 / 2) s l w e w') :
    ∃ x s' l', e = .returned (.int .i64 x) ∧ Kept2 w w' ∧ ((x = 0 ∧ FI B p d L s' l' image may all all.length W w') ∨ (x ≠ 0 ∧ FI B p d L s' l' image may all safe W w')) := by
  have hinv := h.inv.commit
  rw [show (20 : Nat) / 2 = 10 from rfl] at *
  rcases Bool.eq_false_or_eq_true l.broken with hb | hb
  · have hc : commitS s l 10 = (s, l, 21) := by
      have : checkE l = 21 := by unfold checkE; rw [if_pos hb]
      unfold commitS
      rw [this, if_pos (by decide)]
    obtain ⟨he, hl, hk⟩ := H.out hc h.i
    exact ⟨21, s, l, he, hk, .inr ⟨by decide, h.to rfl rfl hl⟩⟩
  · rcases Live.commits (n := 20) (may := may) h.inv (h.on hb) (h.live hb) with ⟨q1, q2, q3⟩ | ⟨s', q1, q2, q3⟩ | ⟨s', l', q1, q2, q3, q4, -, q5⟩
    · rw [show (20 : Nat) / 2 = 10 from rfl] at q1 q2 q3
      obtain ⟨he, hl, hk⟩ := H.out (Prod.ext rfl (Prod.ext rfl rfl)) h.i
      exact ⟨_, _, _, he, hk, .inr ⟨q1, h.to q2 q3 hl⟩⟩
    · rw [show (20 : Nat) / 2 = 10 from rfl] at q1 q3
      rw [q1] at hinv
      obtain ⟨he, hl, hk⟩ := H.out q1 h.i
      exact ⟨16, s', brk l, he, hk, .inr ⟨by decide, hl, hinv, (fun h => by cases h), (fun h => by cases h), (fun _ => q3), h.small, h.sf⟩⟩
    · rw [show (20 : Nat) / 2 = 10 from rfl] at q1 q5
      rw [q1] at hinv
      obtain ⟨he, hl, hk⟩ := H.out q1 h.i
      exact ⟨0, s', l', he, hk, .inl ⟨rfl, hl, hinv, (fun _ => q2), (fun _ => q5), (fun h' => by rw [q3, hb] at h'; cases h'), h.small, Nat.le_refl _⟩⟩
theorem FI.begins (img : List UInt8) (h : FI B p d L s l image may all safe W w) (H : BegPost B p d L (20 / 2) s l img w e w') :
    ∃ x s' l', e = .returned (.int .i64 x) ∧ Kept2 w w' ∧ ((x = 0 ∧ FI B p d L s' l' img may [] 0 W w') ∨ (x = 16 ∧ FI B p d L s' l' image img all safe W w') ∨ (x ≠ 0 ∧ x ≠ 16 ∧ FI B p d L s' l' image may all safe W w')) := by
  have hinv := h.inv.begin_ img
  rw [show (20 : Nat) / 2 = 10 from rfl] at *
  rcases Bool.eq_false_or_eq_true l.broken with hb | hb
  · have hc : beginS s l 10 img = (s, l, 21) := by
      have : beginE l 10 img = 21 := by unfold beginE; rw [if_pos hb]
      rw [begin_0 (by rw [this]; decide), this]
    obtain ⟨he, hl, hk⟩ := H.out hc h.i
    exact ⟨21, s, l, he, hk, .inr (.inr ⟨by decide, by decide, h.to rfl rfl hl⟩)⟩
  · rcases Live.begins (n := 20) h.inv (h.on hb) (h.live hb) img with ⟨q1, q2⟩ | ⟨s', q1, q2, q3⟩ | ⟨s', q1, q2, q3⟩
    · rw [show (20 : Nat) / 2 = 10 from rfl] at q1 q2
      obtain ⟨he, hl, hk⟩ := H.out q2 h.i
      exact ⟨_, _, _, he, hk, .inr (.inr ⟨q1, beginE_no16 l 10 img, h.to rfl rfl hl⟩)⟩
    · rw [show (20 : Nat) / 2 = 10 from rfl] at q1 q3
      rw [q1] at hinv
      obtain ⟨he, hl, hk⟩ := H.out q1 h.i
      exact ⟨16, s', brk l, he, hk, .inr (.inl ⟨rfl, hl, hinv, (fun h => by cases h), (fun h => by cases h), (fun _ => q3), h.small, h.sf⟩)⟩
    · rw [show (20 : Nat) / 2 = 10 from rfl] at q1 q3
      rw [q1] at hinv
      obtain ⟨he, hl, hk⟩ := H.out q1 h.i
      exact ⟨0, s', _, he, hk, .inl ⟨rfl, hl, hinv, (fun _ => q2), (fun _ => q3), (fun h => by cases h), Nat.zero_le _, Nat.le_refl _⟩⟩
theorem FI.appends (rs : List (List UInt8)) (h : FI B p d L s l image may all safe W w) (H : AppPost B p d L (20 / 2) s l rs w e w') :
    ∃ x l', e = .returned (.int .i64 x) ∧ Kept2 w w' ∧ ((x = 0 ∧ FI B p d L s l' image may (all ++ rs) safe W w') ∨ (x ≠ 0 ∧ FI B p d L s l' image may all safe W w')) := by
  have hinv := h.inv.append rs
  rw [show (20 : Nat) / 2 = 10 from rfl] at *
  rcases Bool.eq_false_or_eq_true l.broken with hb | hb
  · have hc : appendS l 10 rs = (l, 21) := by
      have : checkE l = 21 := by unfold checkE; rw [if_pos hb]
      unfold appendS
      rw [this, if_pos (by decide)]
    obtain ⟨he, hl, hk⟩ := H.out hc h.i
    exact ⟨21, l, he, hk, .inr ⟨by decide, h.to rfl rfl hl⟩⟩
  · rcases Live.appends (n := 20) (h.live hb) rs with ⟨q1, q2⟩ | ⟨q1, q2, q3, q4⟩
    · rw [show (20 : Nat) / 2 = 10 from rfl] at q1 q2
      obtain ⟨he, hl, hk⟩ := H.out (Prod.ext rfl rfl) h.i
      exact ⟨_, _, he, hk, .inr ⟨q1, h.to rfl q2 hl⟩⟩
    · rw [show (20 : Nat) / 2 = 10 from rfl] at q1 q2 q4
      obtain ⟨he, hl, hk⟩ := H.out (Prod.ext q2 q1) h.i
      rw [q2] at hinv
      refine ⟨0, _, he, hk, .inl ⟨rfl, hl, hinv, (fun _ => h.on hb), (fun _ => q4), (fun h' => by rw [show ({ l with wait := l.wait ++ Sg.cat rs } : LSt).broken = l.broken from rfl, hb] at h'; cases h'), ?_, by rw [List.length_append]; have := h.sf; omega⟩⟩
      obtain ⟨-, r2, r3, -, -⟩ := q4.rdy q3
      have hrm := hinv.rm
      have e1 := congrArg List.length r2
      have e2 := congrArg List.length r3
      rw [Sg.cat_length] at e1 e2
      have hu := Sg.used_append ((all ++ rs).take safe) ((all ++ rs).drop safe)
      rw [List.take_append_drop] at hu
      have hc : Sg.used (image :: (all ++ rs).take safe) = image.length + 9 + Sg.used ((all ++ rs).take safe) := rfl
      omega
theorem armed_good {n : Nat} (hg : Disk.Good n s) (a c : Int) (ha : a ≤ 9223372036854775807) (hc : c ≤ 9223372036854775807) : Disk.Good n (armed s a c) := by
  unfold armed
  split
  · exact ⟨hg.fits, hg.len, hg.hn, hg.many, by show 0 ≤ max 0 a ∧ max 0 a ≤ _; omega, by show 0 ≤ max 0 c ∧ max 0 c ≤ _; omega⟩
  · exact hg
theorem armed_same (s : DSt) (a c : Int) : (armed s a c).last = s.last ∧ (armed s a c).wait = s.wait ∧ (armed s a c).on = s.on := by
  unfold armed
  split <;> exact ⟨rfl, rfl, rfl⟩
theorem FI.arms (a c : Int) (ha : a ≤ 9223372036854775807) (hc : c ≤ 9223372036854775807) (h : FI B p d L s l image may all safe W w) (ho : One B d L (armed s a c) w') (hb : Below B w w') (hk : Kept w w') : FI B p d L (armed s a c) l image may all safe W w' := by
  obtain ⟨e1, e2, e3⟩ := armed_same s a c
  exact ⟨h.i.next (h.i.wd.disk ho hb hk), ⟨armed_good h.inv.good a c ha hc, by rw [e2]; exact h.inv.wait, h.inv.four, h.inv.area, h.inv.gen, h.inv.rm, h.inv.ready⟩, fun k => by rw [e3]; exact h.on k, fun k => by rw [e1]; exact h.live k, fun k => by rw [e1]; exact h.dead k, h.small, h.sf⟩
/-- The power goes and comes again. -/
def anew (s : DSt) (c : Int) : DSt := upped (down s c)
theorem anew_out {n : Nat} (hg : Disk.Good n s) (hw : s.wait = []) (c : Int) : Disk.Good n (down s c) ∧ Disk.Good n (anew s c) ∧ (anew s c).wait = [] ∧ (anew s c).on = true ∧ (anew s c).last = s.last := by
  have hdn : (down s c).last = s.last ∧ (down s c).wait = [] ∧ (down s c).on = false ∧ Disk.Good n (down s c) := by
    unfold down
    rcases Bool.eq_false_or_eq_true s.on with ho | ho
    · rw [if_pos ho, hw]
      exact ⟨rfl, rfl, rfl, ⟨(fun y hy => by cases hy), hg.len, hg.hn, Nat.zero_le _, hg.syncs, hg.cut⟩⟩
    · rw [if_neg (by rw [ho]; decide)]
      exact ⟨rfl, hw, ho, hg⟩
  obtain ⟨e1, e2, e3, e4⟩ := hdn
  have e5 : anew s c = { down s c with on := true, armed := false, syncs := 0, cut := 0 } := by
    unfold anew upped
    rw [if_neg (by rw [e3]; decide)]
  refine ⟨e4, ?_, by rw [e5]; exact e2, by rw [e5], by rw [e5]; exact e1⟩
  rw [e5]
  exact ⟨e4.fits, e4.len, e4.hn, e4.many, by show (0 : Int) ≤ 0 ∧ (0 : Int) ≤ _; decide, by show (0 : Int) ≤ 0 ∧ (0 : Int) ≤ _; decide⟩
theorem openL_inv {n : Nat} {s : DSt} (hg : Disk.Good n s) (hw : s.wait = []) (h4 : 4 ≤ n) : LInv n s (openL (n / 2) s.last) := by
  have ho := ofold_ok (n / 2) s.last 2
  rw [opened_fold] at ho
  have ha := ho.area
  exact ⟨hg, hw, h4, by show -1 ≤ (opened _ _).area ∧ (opened _ _).area ≤ 1; omega, ho.gen.1, Nat.zero_le _, fun h => by cases h⟩
theorem FI.deadly (h : FI B p d L s l image may all safe W w) : Dead 10 s.last image may all safe := by
  rcases Bool.eq_false_or_eq_true l.broken with hb | hb
  · exact h.dead hb
  · exact (h.live hb).dead
/-- What is opened behind that. -/
theorem FI.opens (c : Int) (h : FI B p d L s l image may all safe W w) (ho : One B d L (anew s c) w') (hb : Below B w w') {p' : Nat} (hp : B ≤ p') (hl : Lg p' d (openL 10 (anew s c).last) w') :
    Told ((opened 10 (anew s c).last).best.getD 0 []) ((opened 10 (anew s c).last).best.drop 1) image may all safe ∧
    FI B p' d L (anew s c) (openL 10 (anew s c).last) ((opened 10 (anew s c).last).best.getD 0 []) [] ((opened 10 (anew s c).last).best.drop 1) ((opened 10 (anew s c).last).best.drop 1).length W w' := by
  obtain ⟨g1, g2, g3, g4, g5⟩ := anew_out h.inv.good h.inv.wait c
  obtain ⟨t1, t2, t3⟩ := h.deadly.opens
  have hinv := openL_inv g2 g3 h.inv.four
  rw [g5] at hinv hl ⊢
  exact ⟨t1, ⟨⟨ho, hl, h.i.bel.trans hb, hp⟩, hinv, fun _ => g4, fun _ => by rw [g5]; exact t2, (fun h => by cases h), Nat.le_trans t3 h.small, Nat.le_refl _⟩⟩
end
end Go.Proofs.YtjnjcjildiadgaaGreatDoor.Wl
