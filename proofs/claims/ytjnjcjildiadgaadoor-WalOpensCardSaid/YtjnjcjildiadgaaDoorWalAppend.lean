/- The walks of wal.Append and wal.Commit. -/
import Derived.Test.YtjnjcjildiadgaaDoorWalBegin
import Derived.RegionTactic
import Derived.ChangeAlike
import Derived.BigRegion
namespace Go.Proofs.YtjnjcjildiadgaaDoor.Wl
open Go Go.RowKit Frame Oct Disk
def AppPost (B p d L h : Nat) (s : DSt) (l : LSt) (rs : List (List UInt8)) (w0 : World) (e : Ending) (w' : World) : Prop :=
  e = .returned (.int .i64 (appendS l h rs).2) ∧ WD B p d L s (appendS l h rs).1 w0 w'
theorem AppPost.mk {B p d L h : Nat} {s : DSt} {l l' : LSt} {rs : List (List UInt8)} {x : Int} {w0 w' : World} (hb : appendS l h rs = (l', x)) (hw : WD B p d L s l' w0 w') : AppPost B p d L h s l rs w0 (.returned (.int .i64 x)) w' := by
  unfold AppPost; rw [hb]; exact ⟨rfl, hw⟩
set_option maxRecDepth 100000 in
set_option maxHeartbeats 1000000 in
theorem Append_calls (B p d L n : Nat) (s : DSt) (l : LSt) (hi : LInv n s l) (A : Option Addr) (c : Nat) (rs : List (List UInt8)) (hrs : rs.length ≤ 1000000) (w0 w : World) (hT : Crc.Tab w0) (hTB : 0 < B) (h : WD B p d L s l w0 w) (hA : Sg.SS A rs w) :
    Calls Tryd.prog 18 #[.pointer (some ⟨p, 0, none⟩), .slice A rs.length c] w (AppPost B p d L (n / 2) s l rs w0) := by
  have H := Lib.hid h
  have HT := Lib.hid (tab_bel hT hTB h.bel)
  have HI := Lib.hid hi
  have HCH := Lib.hid (check_calls p d l w h.lg)
  have HA := Lib.hid hA
  have hae : appendS l (n / 2) rs = if checkE l ≠ 0 then (l, checkE l) else if (Sg.bytes rs).2 ≠ 0 then (l, (Sg.bytes rs).2) else if room l (n / 2) < (Sg.bytes rs).1.length then (l, 17) else ({ l with wait := l.wait ++ (Sg.bytes rs).1 }, 0) := rfl
  have HAE := Lib.hid hae
  have hck : checkE l = 0 → l.ready = true := fun h => (checkE_ok h).2
  have HCK := Lib.hid hck
  clear h hi hA hae hck hT
  generalize checkE l = ce at *
  by_cases he : ce ≠ 0
  · have he' : (ce != 0) = true := by simpa using he
    have HE := Lib.hid (HAE.out.trans (if_pos he))
    clear he
    go_enter Tryd.func18, Tryd.ntmps18
    go_wp2_with fail
    refine HCH.out.mono ?_
    rintro e w1 ⟨rfl, rfl⟩
    go_wp2_with fail
    go_ret
    exact AppPost.mk HE.out H.out
  obtain rfl : ce = 0 := by omega
  have HAE2 := Lib.hid (HAE.out.trans (if_neg he))
  have HR := Lib.hid (HCK.out rfl)
  clear he HAE HCK
  have HBY := Lib.hid (Sg.Bytes_calls A c rs hrs w HT.out HA.out)
  generalize Sg.bytes rs = r at *
  obtain ⟨b, e⟩ := r
  simp only at HAE2 HBY
  have hzb : (bs b).size = b.length := bs_size _
  by_cases he : e ≠ 0
  · have he' : (e != 0) = true := by simpa using he
    have HE := Lib.hid (HAE2.out.trans (if_pos he))
    clear he
    go_enter Tryd.func18, Tryd.ntmps18
    go_wp2_with fail
    refine HCH.out.mono ?_
    rintro e w1 ⟨rfl, rfl⟩
    go_wp2_with fail
    refine HBY.out.mono ?_
    rintro e w1 ⟨rfl, b1⟩
    have H1 := Lib.hid (H.out.below b1)
    clear b1
    go_wp2_with fail
    go_ret
    exact AppPost.mk HE.out H1.out
  obtain rfl : e = 0 := by omega
  have HAE3 := Lib.hid (HAE2.out.trans (if_neg he))
  clear he HAE2
  have hrm := HI.out.rm
  have hn := HI.out.good.hn
  have h4 := HI.out.four
  have hre := room_eq n l h4 HR.out
  have HRC := Lib.hid (fun W k1 k2 => Room_calls B p d L n s l HI.out W k1 k2)
  have hrb : room l (n / 2) ≤ 200000 := by omega
  have hzw : (bs l.wait).size = l.wait.length := bs_size _
  have hwl : l.wait.length ≤ 200000 := by omega
  clear hre hrm
  generalize room l (n / 2) = ro at *
  by_cases hsp : ro < (b.length : Int)
  · have HE := Lib.hid (HAE3.out.trans (if_pos hsp))
    go_enter Tryd.func18, Tryd.ntmps18
    go_wp2_with fail
    refine HCH.out.mono ?_
    rintro e w1 ⟨rfl, rfl⟩
    go_wp2_with fail
    refine HBY.out.mono ?_
    rintro e w1 ⟨rfl, b1⟩
    have H1 := Lib.hid (H.out.below b1)
    clear b1
    go_wp2_with fail
    refine (HRC.out _ H1.out.one H1.out.lg).mono ?_
    rintro e w2 ⟨rfl, b2⟩
    have H2 := Lib.hid (H1.out.below b2)
    clear b2
    go_wp2_with fail
    go_ret
    exact AppPost.mk HE.out H2.out
  have HE := Lib.hid (HAE3.out.trans (if_neg hsp))
  have HAP := Lib.hid (show bs l.wait ++ bs b = bs (l.wait ++ b) from bs_append _ _)
  clear HAE3
  go_enter Tryd.func18, Tryd.ntmps18
  go_wp2_with fail
  refine HCH.out.mono ?_
  rintro e w1 ⟨rfl, rfl⟩
  go_wp2_with fail
  refine HBY.out.mono ?_
  rintro e w1 ⟨rfl, b1⟩
  have H1 := Lib.hid (H.out.below b1)
  clear b1
  go_wp2_with fail
  refine (HRC.out _ H1.out.one H1.out.lg).mono ?_
  rintro e w2 ⟨rfl, b2⟩
  have H2 := Lib.hid (H1.out.below b2)
  clear b2
  have k6 := H2.out.lg.c6
  have f6 := Has.frozen H2.out.lg 6
  have HLC := Lib.hid (WP.set H2.out 6 (.string (bs l.wait ++ bs b)))
  go_wp2_with fail
  go_ret
  refine AppPost.mk HE.out ?_
  have := HLC.out
  have hLC : LCells d { l with wait := l.wait ++ b } = (LCells d l).setIfInBounds 6 (.string (bs l.wait ++ bs b)) := by
    rw [HAP.out]; rfl
  unfold WD
  rw [hLC]
  exact this
end Go.Proofs.YtjnjcjildiadgaaDoor.Wl
