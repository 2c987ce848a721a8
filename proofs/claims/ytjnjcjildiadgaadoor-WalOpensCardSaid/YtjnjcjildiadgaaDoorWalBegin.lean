/- The walk of wal.Begin. -/
import Derived.Test.YtjnjcjildiadgaaDoorWalPutB
namespace Go.Proofs.YtjnjcjildiadgaaDoor.Wl
open Go Go.RowKit Frame Oct Disk
theorem tab_bel {B : Nat} {w0 w : World} (hT : Crc.Tab w0) (hB : 0 < B) (h : Below B w0 w) : Crc.Tab w := fun i hi => (h.cell (p := ⟨0, i, none⟩) hB).trans (hT i hi)
section
variable {s : DSt} {l : LSt} {h : Nat} {img : List UInt8}
theorem begin_0 (he : beginE l h img ≠ 0) : beginS s l h img = (s, l, beginE l h img) := by unfold beginS; rw [if_pos he]
theorem begin_1 (he : beginE l h img = 0) {d1 : DSt} {e1 : Int} (h1 : putS s (h * tgt l.area) 1 (noughts 64) = (d1, e1)) (hne : e1 ≠ 0) : beginS s l h img = (d1, brk l, e1) := by
  unfold beginS
  rw [if_neg (by omega)]
  simp only [h1, if_pos hne]
theorem begin_2 (he : beginE l h img = 0) {d1 d2 : DSt} {e2 : Int} (h1 : putS s (h * tgt l.area) 1 (noughts 64) = (d1, 0)) (h2 : putS d1 (h * tgt l.area + 1) (h - 1) (pad (Sg.one img) (h - 1)) = (d2, e2)) (hne : e2 ≠ 0) : beginS s l h img = (d2, brk l, e2) := by
  unfold beginS
  rw [if_neg (by omega)]
  simp only [h1, h2]
  rw [if_neg (by decide), if_pos hne]
theorem begin_3 (he : beginE l h img = 0) {d1 d2 d3 : DSt} {e3 : Int} (h1 : putS s (h * tgt l.area) 1 (noughts 64) = (d1, 0)) (h2 : putS d1 (h * tgt l.area + 1) (h - 1) (pad (Sg.one img) (h - 1)) = (d2, 0))
    (h3 : putS d2 (h * tgt l.area) 1 (pad (headOf (l.gen + 1)) 1) = (d3, e3)) (hne : e3 ≠ 0) : beginS s l h img = (d3, brk l, e3) := by
  unfold beginS
  rw [if_neg (by omega)]
  simp only [h1, h2, h3]
  rw [if_neg (by decide), if_neg (by decide), if_pos hne]
theorem begin_4 (he : beginE l h img = 0) {d1 d2 d3 : DSt} (h1 : putS s (h * tgt l.area) 1 (noughts 64) = (d1, 0)) (h2 : putS d1 (h * tgt l.area + 1) (h - 1) (pad (Sg.one img) (h - 1)) = (d2, 0))
    (h3 : putS d2 (h * tgt l.area) 1 (pad (headOf (l.gen + 1)) 1) = (d3, 0)) : beginS s l h img = (d3, ⟨(tgt l.area : Nat), l.gen + 1, true, false, Sg.one img, []⟩, 0) := by
  unfold beginS
  rw [if_neg (by omega)]
  simp only [h1, h2, h3]
  rw [if_neg (by decide), if_neg (by decide), if_neg (by decide)]
end
theorem LInv.to {n : Nat} {s d1 : DSt} {l : LSt} (hi : LInv n s l) (hg : Disk.Good n d1) (hw : d1.wait = []) : LInv n d1 l := ⟨hg, hw, hi.four, hi.area, hi.gen, hi.rm, hi.ready⟩
/-- How a Begin comes out. -/
def BegPost (B p d L h : Nat) (s : DSt) (l : LSt) (img : List UInt8) (w0 : World) (e : Ending) (w' : World) : Prop :=
  e = .returned (.int .i64 (beginS s l h img).2.2) ∧ WD B p d L (beginS s l h img).1 (beginS s l h img).2.1 w0 w'
theorem BegPost.mk {B p d L h : Nat} {s s' : DSt} {l l' : LSt} {img : List UInt8} {x : Int} {w0 w' : World} (hb : beginS s l h img = (s', l', x)) (hw : WD B p d L s' l' w0 w') : BegPost B p d L h s l img w0 (.returned (.int .i64 x)) w' := by
  unfold BegPost; rw [hb]; exact ⟨rfl, hw⟩
set_option maxRecDepth 100000 in
set_option maxHeartbeats 1000000 in
theorem Begin_calls (B p d L n : Nat) (s : DSt) (l : LSt) (hi : LInv n s l) (img : List UInt8) (w0 w : World) (hT : Crc.Tab w0) (hTB : 0 < B) (h : WD B p d L s l w0 w) :
    Calls Tryd.prog 20 #[.pointer (some ⟨p, 0, none⟩), .string (bs img)] w (BegPost B p d L (n / 2) s l img w0) := by
  have c4 := h.lg.c4
  have c2 := h.lg.c2
  have c1 := h.lg.c1
  have HI := Lib.hid hi
  have H := Lib.hid h
  have HT := Lib.hid (tab_bel hT hTB h.bel)
  have hT0 := Lib.hid hT
  clear h hi hT
  rcases Bool.eq_false_or_eq_true l.broken with hb | hb
  · have HE := Lib.hid (begin_0 (s := s) (img := img) (h := n / 2) (l := l) (by unfold beginE; rw [if_pos hb]; decide))
    have HEE := Lib.hid (show beginE l (n / 2) img = 21 by unfold beginE; rw [if_pos hb])
    rw [HEE.out] at HE
    rw [hb] at c4
    clear hb
    go_enter Tryd.func20, Tryd.ntmps20
    go_wp2_with fail
    go_ret
    exact BegPost.mk HE.out H.out
  rw [hb] at c4
  have hbe : beginE l (n / 2) img = if (Sg.bytes [img]).2 ≠ 0 then (Sg.bytes [img]).2 else if 64 * (n / 2 - 1) < (Sg.bytes [img]).1.length then 17 else if l.gen = 18446744073709551615 then 18 else 0 := by
    unfold beginE; rw [hb, if_neg (by decide)]
  have HBE := Lib.hid hbe
  have HBR := Lib.hid hb
  clear hb hbe
  go_enter Tryd.func20, Tryd.ntmps20
  go_wp2_with fail
  have hw1 : Has w.heap.size #[.string (bs img)] 9 (w.alloc (.cells #[.string (bs img)] 9)) := Has.new w _ _
  have hb1 : Below w.heap.size w (w.alloc (.cells #[.string (bs img)] 9)) := (Below.refl w.heap.size w).alloc (Nat.le_refl _) _
  refine (Sg.Bytes_one w.heap.size img _ (HT.out.below hb1) (Sg.SS.one hw1)).mono ?_
  rintro e w1 ⟨rfl, b1⟩
  have H1 := Lib.hid (H.out.below (bthen hb1 b1))
  have hbf : (Sg.bytes [img]).2 = 0 → Sg.bad img = 0 ∧ (Sg.bytes [img]).1 = Sg.one img := fun h => bytes_one_ok h
  have HBF := Lib.hid hbf
  clear hb1 hw1 b1 hbf c1 c2 c4 H HT
  have c1 := H1.out.lg.c1
  have c2 := H1.out.lg.c2
  generalize Sg.bytes [img] = by_ at *
  obtain ⟨b, e⟩ := by_
  simp only at HBE HBF
  have hzb : (bs b).size = b.length := bs_size _
  have hn := HI.out.good.hn
  have h4 := HI.out.four
  by_cases he : e ≠ 0
  · have he' : (e != 0) = true := by simpa using he
    have HE := Lib.hid (show beginE l (n / 2) img = e by rw [HBE.out, if_pos he])
    have HE0 := Lib.hid (begin_0 (s := s) (img := img) (h := n / 2) (l := l) (by rw [HE.out]; exact he))
    rw [HE.out] at HE0
    clear he
    go_wp2_with fail
    go_ret
    exact BegPost.mk HE0.out H1.out
  obtain rfl : e = 0 := by omega
  obtain ⟨hbad, rfl⟩ := HBF.out rfl
  have HBad := Lib.hid hbad
  clear he hbad
  have HRW := Lib.hid (fun W k1 k2 => row_calls B p d L n s l HI.out.good h4 W k1 k2)
  have hrow : 64 * (n / 2 - 1) ≤ 200000 := by omega
  by_cases hsp : 64 * (n / 2 - 1) < (Sg.one img).length
  · have HE := Lib.hid (show beginE l (n / 2) img = 17 by rw [HBE.out, if_neg (by decide), if_pos hsp])
    have HE0 := Lib.hid (begin_0 (s := s) (img := img) (h := n / 2) (l := l) (by rw [HE.out]; decide))
    rw [HE.out] at HE0
    generalize (Sg.one img).length = z at *
    generalize 64 * (n / 2 - 1) = r at *
    go_wp2_with fail
    refine (HRW.out _ H1.out.one H1.out.lg).mono ?_
    rintro e w2 ⟨rfl, rfl⟩
    go_wp2_with fail
    go_ret
    exact BegPost.mk HE0.out H1.out
  by_cases hge : l.gen = 18446744073709551615
  · have HE := Lib.hid (show beginE l (n / 2) img = 18 by rw [HBE.out, if_neg (by decide), if_neg hsp, if_pos hge])
    have HE0 := Lib.hid (begin_0 (s := s) (img := img) (h := n / 2) (l := l) (by rw [HE.out]; decide))
    rw [HE.out] at HE0
    have hg' : ((l.gen : Int) == 18446744073709551615) = true := by simp [hge]
    clear hge
    generalize (Sg.one img).length = z at *
    generalize 64 * (n / 2 - 1) = r at *
    go_wp2_with fail
    refine (HRW.out _ H1.out.one H1.out.lg).mono ?_
    rintro e w2 ⟨rfl, rfl⟩
    go_wp2_with fail
    go_ret
    exact BegPost.mk HE0.out H1.out
  have hg' : ((l.gen : Int) == 18446744073709551615) = false := by simp; omega
  have HE := Lib.hid (show beginE l (n / 2) img = 0 by rw [HBE.out, if_neg (by decide), if_neg hsp, if_neg hge])
  have hgen := HI.out.gen
  have HG1 := Lib.hid (show l.gen + 1 < 18446744073709551616 by omega)
  have gw : IntKind.u64.wrap ((l.gen : Int) + 1) = (l.gen : Int) + 1 := IntWalk.u64_in _ (by omega)
  have GW := Lib.hid gw
  have HSP := Lib.hid (show (Sg.one img).length ≤ 64 * (n / 2 - 1) by omega)
  clear hge hgen gw
  have ht := tgt_le l.area
  have htm := tgt_mul (n / 2) l.area
  have hAT : ((l.area == 0) = true ∧ ((tgt l.area : Nat) : Int) = 1) ∨ ((l.area == 0) = false ∧ ((tgt l.area : Nat) : Int) = 0) := by
    unfold tgt
    by_cases h : l.area = 0
    · left; simp [h]
    · right; simp [h]
  have HPZ := Lib.hid (show pad ([] : List UInt8) 1 = noughts 64 from rfl)
  have HBL := Lib.hid (fun s' W hg k1 k2 => blocks_calls B p d L n s' l hg W k1 k2)
  have HGO := Lib.hid (fun W k => headOf_calls (l.gen + 1) W k)
  rw [show ((l.gen + 1 : Nat) : Int) = (l.gen : Int) + 1 by omega] at HGO
  have HHL := Lib.hid (headOf_length (l.gen + 1))
  have HTT := Lib.hid (fun W (k : Below B w0 W) => tab_bel hT0.out hTB k)
  have HX1 := Lib.hid (fun d1 e1 k1 k2 => begin_1 (s := s) (h := n / 2) HE.out (d1 := d1) (e1 := e1) k1 k2)
  have HX2 := Lib.hid (fun d1 d2 e2 k1 k2 k3 => begin_2 (s := s) (h := n / 2) HE.out (d1 := d1) (d2 := d2) (e2 := e2) k1 k2 k3)
  have HX3 := Lib.hid (fun d1 d2 d3 e3 k1 k2 k3 k4 => begin_3 (s := s) (h := n / 2) HE.out (d1 := d1) (d2 := d2) (d3 := d3) (e3 := e3) k1 k2 k3 k4)
  have HX4 := Lib.hid (fun d1 d2 d3 k1 k2 k3 => begin_4 (s := s) (h := n / 2) HE.out (d1 := d1) (d2 := d2) (d3 := d3) k1 k2 k3)
  have HP1 := Lib.hid (fun W k => put_calls B p d L n s l HI.out (tgt l.area) 0 1 1 (n / 2 * tgt l.area) [] rfl (by decide) rfl (by omega) ht w0 W k)
  have HP2 := Lib.hid (fun s' (k0 : LInv n s' l) W k => put_calls B p d L n s' l k0 (tgt l.area) 1 (n / 2 - 1) (n / 2 - 1) (n / 2 * tgt l.area + 1) (Sg.one img) (by have := HSP.out; omega) (by omega) rfl (by omega) ht w0 W k)
  have HP3 := Lib.hid (fun s' (k0 : LInv n s' l) W k => put_calls B p d L n s' l k0 (tgt l.area) 0 1 1 (n / 2 * tgt l.area) (headOf (l.gen + 1)) (by rw [HHL.out]; decide) (by decide) rfl (by omega) ht w0 W k)
  have hq1 : ((n / 2 - 1 : Nat) : Int) = ((n / 2 : Nat) : Int) - 1 := by omega
  rw [hq1] at HP2
  have HLV := Lib.hid (show ∀ p1, putS s (n / 2 * tgt l.area) 1 (noughts 64) = p1 → LInv n p1.1 l from fun p1 e => by
    obtain ⟨g1, w1, -⟩ := putS_out HI.out.good HI.out.wait (n / 2 * tgt l.area) 1 (noughts 64) (by omega) (by simp)
    rw [e] at g1 w1; exact HI.out.to g1 w1)
  have HLV2 := Lib.hid (show ∀ d1 p2, LInv n d1 l → putS d1 (n / 2 * tgt l.area + 1) (n / 2 - 1) (pad (Sg.one img) (n / 2 - 1)) = p2 → LInv n p2.1 l from fun d1 p2 hl e => by
    obtain ⟨g1, w1, -⟩ := putS_out hl.good hl.wait (n / 2 * tgt l.area + 1) (n / 2 - 1) (pad (Sg.one img) (n / 2 - 1)) (by omega) (pad_length _ _ HSP.out)
    rw [e] at g1 w1; exact hl.to g1 w1)
  have hnq : 2 ≤ ((n / 2 : Nat) : Int) := by omega
  have hnq2 : ((n / 2 : Nat) : Int) ≤ 2048 := by omega
  have HRq := Lib.hid HRW.out
  have hrz : ((Sg.one img).length : Int) ≤ ((64 * (n / 2 - 1) : Nat) : Int) := by have := HSP.out; omega
  have hrz' : (Sg.one img).length ≤ 64 * (n / 2 - 1) := HSP.out
  clear hq1 HRW hsp
  rcases hAT with ⟨hA, hAV⟩ | ⟨hA, hAV⟩
  all_goals
    rw [hAV] at HP1 HP2 HP3
    have HAV := Lib.hid hAV
    clear hAV
    generalize 64 * (n / 2 - 1) = r at *
    go_wp2_with fail
    refine (HRq.out _ H1.out.one H1.out.lg).mono ?_
    rintro e w2 ⟨rfl, rfl⟩
    go_wp2_with fail
    refine (HP1.out _ H1.out).mono ?_
    rintro e w2 hpp
    obtain ⟨rfl, h2⟩ := hpp
    rw [HPZ.out] at h2
    rw [HPZ.out]
    generalize hp1 : putS s (n / 2 * tgt l.area) 1 (noughts 64) = p1 at h2 ⊢
    obtain ⟨d1, e1⟩ := p1
    have HPE1 := Lib.hid hp1
    have HL1 := Lib.hid (HLV.out _ hp1)
    clear hp1
    simp only at h2 ⊢
    by_cases he1 : e1 ≠ 0
    · have he1' : (e1 != 0) = true := by simpa using he1
      rw [if_pos he1] at h2
      have H2 := Lib.hid h2
      have HXE := Lib.hid (HX1.out _ _ HPE1.out he1)
      clear he1 h2
      go_wp2_with fail
      go_ret
      exact BegPost.mk HXE.out H2.out
    obtain rfl : e1 = 0 := by omega
    rw [if_neg he1] at h2
    have H2 := Lib.hid h2
    clear h2 he1
    go_wp2_with fail
    refine (HBL.out _ _ HL1.out.good H2.out.one H2.out.lg).mono ?_
    rintro e w3 ⟨rfl, rfl⟩
    go_wp2_with fail
    refine (HP2.out _ HL1.out _ H2.out).mono ?_
    rintro e w3 hpp
    obtain ⟨rfl, h3⟩ := hpp
    generalize hp1 : putS d1 (n / 2 * tgt l.area + 1) (n / 2 - 1) (pad (Sg.one img) (n / 2 - 1)) = p1 at h3 ⊢
    obtain ⟨d2, e2⟩ := p1
    have HPE2 := Lib.hid hp1
    have HL2 := Lib.hid (HLV2.out _ _ HL1.out hp1)
    clear hp1
    simp only at h3 ⊢
    by_cases he1 : e2 ≠ 0
    · have he1' : (e2 != 0) = true := by simpa using he1
      rw [if_pos he1] at h3
      have H3 := Lib.hid h3
      have HXE := Lib.hid (HX2.out _ _ _ HPE1.out HPE2.out he1)
      clear he1 h3
      go_wp2_with fail
      go_ret
      exact BegPost.mk HXE.out H3.out
    obtain rfl : e2 = 0 := by omega
    rw [if_neg he1] at h3
    have H3 := Lib.hid h3
    clear h3 he1
    have k2 := H3.out.lg.c2
    have gw := GW.out
    clear c1 c2
    go_wp2_with fail
    refine (HGO.out _ (HTT.out _ H3.out.bel)).mono ?_
    rintro e w4 ⟨rfl, b4⟩
    have H4 := Lib.hid (H3.out.below b4)
    clear b4 k2
    go_wp2_with fail
    refine (HP3.out _ HL2.out _ H4.out).mono ?_
    rintro e w5 hpp
    obtain ⟨rfl, h5⟩ := hpp
    generalize hp1 : putS d2 (n / 2 * tgt l.area) 1 (pad (headOf (l.gen + 1)) 1) = p1 at h5 ⊢
    obtain ⟨d3, e3⟩ := p1
    have HPE3 := Lib.hid hp1
    clear hp1
    simp only at h5 ⊢
    by_cases he1 : e3 ≠ 0
    · have he1' : (e3 != 0) = true := by simpa using he1
      rw [if_pos he1] at h5
      have H5 := Lib.hid h5
      have HXE := Lib.hid (HX3.out _ _ _ _ HPE1.out HPE2.out HPE3.out he1)
      clear he1 h5
      go_wp2_with fail
      go_ret
      exact BegPost.mk HXE.out H5.out
    obtain rfl : e3 = 0 := by omega
    rw [if_neg he1] at h5
    have H5 := Lib.hid h5
    clear h5 he1
    have k2 := H5.out.lg.c2
    have k1 := H5.out.lg.c1
    have k3 := H5.out.lg.c3
    have k5 := H5.out.lg.c5
    have k6 := H5.out.lg.c6
    have f1 := Has.frozen H5.out.lg 1
    have f2 := Has.frozen H5.out.lg 2
    have f3 := Has.frozen H5.out.lg 3
    have f5 := Has.frozen H5.out.lg 5
    have f6 := Has.frozen H5.out.lg 6
    have HXE := Lib.hid (HX4.out _ _ _ HPE1.out HPE2.out HPE3.out)
    have HLC := Lib.hid (((((WP.set H5.out 1 (.int .i64 ((tgt l.area : Nat) : Int))).set 2 (.int .u64 ((l.gen : Int) + 1))).set 3 (.bool true)).set 5 (.string (bs (Sg.one img)))).set 6 (.string ⟨#[]⟩))
    rw [HAV.out] at HLC
    go_wp2_with fail
    go_ret
    refine BegPost.mk HXE.out ?_
    have := HLC.out
    have hLC : LCells d ⟨((tgt l.area : Nat) : Int), l.gen + 1, true, false, Sg.one img, []⟩ = (((((LCells d l).setIfInBounds 1 (.int .i64 ((tgt l.area : Nat) : Int))).setIfInBounds 2 (.int .u64 ((l.gen : Int) + 1))).setIfInBounds 3 (.bool true)).setIfInBounds 5 (.string (bs (Sg.one img)))).setIfInBounds 6 (.string ⟨#[]⟩) := by
      simp [LCells, HBR.out]; rfl
    unfold WD
    rw [hLC, HAV.out]
    exact this
end Go.Proofs.YtjnjcjildiadgaaDoor.Wl
