/- The chapter's example of wal. -/
import Derived.Test.YtjnjcjildiadgaaDoorWalOpen
import Derived.Test.YtjnjcjildiadgaaDoorWalCommit
import Derived.Test.YtjnjcjildiadgaaDoorWalLaw
import Derived.Test.YtjnjcjildiadgaaDoorDiskAwake
namespace Go.Proofs.YtjnjcjildiadgaaDoor.Wl
open Go Go.RowKit Frame Oct Disk
/-- A disk whose power will not go. -/
def Calm (s : DSt) : Prop := s.on = true ∧ s.armed = false
theorem Calm.put {s : DSt} (h : Calm s) (a n : Nat) (x : List UInt8) : (putS s a n x).2 = 0 ∧ Calm (putS s a n x).1 := by
  have e : putS s a n x = ({ s with last := all s.last (wrs a x n), wait := [], syncs := max 0 (s.syncs - 1) }, 0) := by
    unfold putS
    rw [if_pos h.1]
    exact synced_on { s with wait := wrs a x n } h.1 (.inl h.2)
  rw [e]
  exact ⟨rfl, h.1, h.2⟩
theorem Calm.begin_ {s : DSt} {l : LSt} {h : Nat} {img : List UInt8} (hc : Calm s) (he : beginE l h img = 0) : ∃ s', beginS s l h img = (s', ⟨(tgt l.area : Nat), l.gen + 1, true, false, Sg.one img, []⟩, 0) ∧ Calm s' := by
  obtain ⟨a1, a2⟩ := hc.put (h * tgt l.area) 1 (noughts 64)
  obtain ⟨b1, b2⟩ := a2.put (h * tgt l.area + 1) (h - 1) (pad (Sg.one img) (h - 1))
  obtain ⟨c1, c2⟩ := b2.put (h * tgt l.area) 1 (pad (headOf (l.gen + 1)) 1)
  exact ⟨_, begin_4 he (Prod.ext rfl a1) (Prod.ext rfl b1) (Prod.ext rfl c1), c2⟩
theorem Calm.commit {s : DSt} {l : LSt} {h : Nat} (hc : Calm s) (he : checkE l = 0) : (commitS s l h).2.2 = 0 ∧ Calm (commitS s l h).1 := by
  unfold commitS
  rw [if_neg (by omega)]
  by_cases hw : l.wait = []
  · rw [if_pos hw]; exact ⟨rfl, hc⟩
  rw [if_neg hw]
  obtain ⟨a1, a2⟩ := hc.put (h * l.area.toNat + (1 + from_ l)) (many l) (pad (text l) (many l))
  simp only [a1]
  rw [if_neg (by decide)]
  exact ⟨rfl, a2⟩
theorem Calm.fresh (n : Nat) : Calm (fresh n) := ⟨rfl, rfl⟩
/-- A log on a new disk. -/
theorem open_fresh (h n : Nat) : opened h (fresh n).last = ⟨-1, 0, (opened h (fresh n).last).top, []⟩ := by
  have hS : Shape h (noughts (64 * n)) (-1) 0 [] := .inl ⟨rfl, rfl, rfl, fresh_rd _ _ _, fresh_rd _ _ _⟩
  obtain ⟨e1, e2, e3⟩ := hS.opened
  have e : (fresh n).last = noughts (64 * n) := rfl
  rw [e]
  generalize opened h (noughts (64 * n)) = o at *
  obtain ⟨a, g, t, b⟩ := o
  simp only at e1 e2 e3
  subst e1; subst e2; subst e3
  rfl
def l0 : LSt := ⟨-1, 0, false, false, [], []⟩
theorem openL_fresh (h n : Nat) : openL h (fresh n).last = l0 := by unfold openL; rw [open_fresh]; rfl
theorem OpenPost.fresh {d h n : Nat} {w w' : World} {e : Ending} (H : OpenPost d h (fresh n).last w e w') :
    ∃ A c, e = .returned (.tuple #[.pointer (some ⟨w.heap.size, 0, none⟩), .string ⟨#[]⟩, .slice A 0 c, .int .i64 0]) ∧ Lg w.heap.size d l0 w' ∧ Below w.heap.size w w' := by
  unfold OpenPost at H
  rw [openL_fresh, open_fresh] at H
  obtain ⟨v, he, ⟨A, c, rfl, -⟩, hl, hb⟩ := H
  exact ⟨A, c, he, hl, hb⟩
theorem LInv.fresh (n : Nat) (h4 : 4 ≤ n) (hn : n ≤ 4096) : LInv n (fresh n) l0 := ⟨Good.fresh n hn, rfl, h4, by decide, by decide, Nat.zero_le _, fun h => by cases h⟩
theorem Awake15_calls (w : World) : Calls Tryd.prog 26 #[] w fun e w' => e = .returned (.bool true) ∧ Below w.heap.size w w' := by
  go_enter Tryd.func26, Tryd.ntmps26
  go_wp2_with fail
  refine (Disk.awake_calls _).mono ?_
  rintro e w1 ⟨rfl, b1⟩
  have B1 := Lib.hid b1
  clear b1
  go_wp2_with fail
  go_ret
  exact ⟨rfl, B1.out⟩
theorem Awake16_calls (w : World) (hT : Crc.Tab w) : Calls Tryd.prog 27 #[] w fun e w' => e = .returned (.bool true) ∧ Below w.heap.size w w' := by
  go_enter Tryd.func27, Tryd.ntmps27
  go_wp2_with fail
  refine (Sg.awake_calls _ hT).mono ?_
  rintro e w1 ⟨rfl, b1⟩
  have B1 := Lib.hid b1
  clear b1
  go_wp2_with fail
  go_ret
  exact ⟨rfl, B1.out⟩
theorem ab_begin : beginE l0 6 [97, 98] = 0 := by decide +kernel
theorem ab_room : room ⟨((tgt l0.area : Nat) : Int), l0.gen + 1, true, false, Sg.one [97, 98], []⟩ 6 = 309 := by
  unfold room
  rw [if_pos rfl, Sg.one_length]
  rfl
set_option maxRecDepth 100000 in
set_option maxHeartbeats 1000000 in
theorem awake_calls (w : World) (hT : Crc.Tab w) : Calls Tryd.prog 6 #[] w fun e w' => e = .returned (.bool true) ∧ Below w.heap.size w w' := by
  have HTS := Lib.hid (Crc.Tab.size hT)
  have HT := Lib.hid hT
  clear hT
  go_enter Tryd.func6, Tryd.ntmps6
  go_wp2_with fail
  refine (New_one 12 (by decide) w).mono ?_
  rintro e w1 ⟨rfl, h1, b1⟩
  have H1 := Lib.hid h1
  have B1 := Lib.hid b1
  clear h1 b1
  go_wp2_with fail
  refine (Open_calls w.heap.size _ _ 12 (fresh 12) (Good.fresh 12 (by decide)) rfl rfl (by decide) w w1 HT.out HTS.out B1.out (Kept2.of_below B1.out) H1.out).mono ?_
  intro e w2 hop
  obtain ⟨A, c, rfl, hl2, b2⟩ := hop.fresh
  clear hop
  have H2 := Lib.hid (show WD w.heap.size w1.heap.size (w.heap.size + 1) w.heap.size (fresh 12) l0 w w2 from ⟨H1.out.below b2, hl2, B1.out.trans (b2.mono B1.out.size), (Kept2.of_below B1.out).trans (Kept2.of_below b2), B1.out.size⟩)
  clear hl2 b2
  generalize w1.heap.size = p at *
  go_wp2_with fail
  refine (Awake15_calls _).mono ?_
  rintro e w3 ⟨rfl, b3⟩
  have H3 := Lib.hid (H2.out.below b3)
  clear b3 H2
  go_wp2_with fail
  refine (Awake16_calls _ (tab_bel HT.out HTS.out H3.out.bel)).mono ?_
  rintro e w4 ⟨rfl, b4⟩
  have H4 := Lib.hid (H3.out.below b4)
  clear b4 H3
  go_wp2_with fail
  refine (Ready_calls p _ l0 _ H4.out.lg).mono ?_
  rintro e w5 ⟨rfl, rfl⟩
  go_wp2_with fail
  obtain ⟨s', hb', hcm⟩ := (Calm.fresh 12).begin_ (l := l0) (h := 6) ab_begin
  have HBG := Lib.hid hb'
  clear hb' hcm
  refine (Begin_calls w.heap.size p _ _ 12 (fresh 12) l0 (LInv.fresh 12 (by decide) (by decide)) [97, 98] w w4 HT.out HTS.out H4.out).mono ?_
  intro e w5 hbp
  unfold BegPost at hbp
  rw [HBG.out] at hbp
  obtain ⟨rfl, h5⟩ := hbp
  have H5 := Lib.hid h5
  have HLI := Lib.hid ((LInv.fresh 12 (by decide) (by decide)).begin_ [97, 98])
  rw [HBG.out] at HLI
  have HRM := Lib.hid ab_room
  clear h5 H4
  generalize ((tgt l0.area : Nat) : Int) = ar at *
  have HGE := Lib.hid (show l0.gen + 1 = 1 from rfl)
  rw [HGE.out] at H5 HLI HRM
  generalize hl1 : (⟨ar, 1, true, false, Sg.one [97, 98], []⟩ : LSt) = l1 at *
  have hr1 : l1.ready = true := by rw [← hl1]
  have hg1 : l1.gen = 1 := by rw [← hl1]
  clear hl1
  have HRD := Lib.hid (Ready_calls p _ l1 w5 H5.out.lg)
  rw [hr1] at HRD
  have HGN := Lib.hid (fun W (k : Below w5.heap.size w5 W) => Gen_calls p _ l1 W (H5.out.below k).lg)
  rw [hg1] at HGN
  have HRO := Lib.hid (Room_calls w.heap.size p _ _ 12 s' l1 HLI.out w5 H5.out.one H5.out.lg)
  rw [HRM.out] at HRO
  clear hr1 hg1
  go_wp2_with fail
  refine HRD.out.mono ?_
  rintro e w6 ⟨rfl, rfl⟩
  go_wp2_with fail
  refine HRO.out.mono ?_
  rintro e w6 ⟨rfl, b6⟩
  go_wp2_with fail
  refine (HGN.out _ b6).mono ?_
  rintro e w7 ⟨rfl, rfl⟩
  have B6 := Lib.hid (H5.out.below b6).bel
  clear b6
  go_wp2_with fail
  go_ret
  exact ⟨rfl, B6.out⟩
end Go.Proofs.YtjnjcjildiadgaaDoor.Wl
