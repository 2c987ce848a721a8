/- The walk of wal.Commit. -/
import Derived.Test.YtjnjcjildiadgaaDoorWalAppend
namespace Go.Proofs.YtjnjcjildiadgaaDoor.Wl
open Go Go.RowKit Frame Oct Disk
def ComPost (B p d L h : Nat) (s : DSt) (l : LSt) (w0 : World) (e : Ending) (w' : World) : Prop :=
  e = .returned (.int .i64 (commitS s l h).2.2) ∧ WD B p d L (commitS s l h).1 (commitS s l h).2.1 w0 w'
theorem ComPost.mk {B p d L h : Nat} {s s' : DSt} {l l' : LSt} {x : Int} {w0 w' : World} (hb : commitS s l h = (s', l', x)) (hw : WD B p d L s' l' w0 w') : ComPost B p d L h s l w0 (.returned (.int .i64 x)) w' := by
  unfold ComPost; rw [hb]; exact ⟨rfl, hw⟩
theorem put_cells {B p d L : Nat} {s : DSt} {l : LSt} {x : Int} {w0 w : World} (h : WD B p d L s (if x ≠ 0 then brk l else l) w0 w) :
    w.cell? ⟨p, 1, none⟩ = some (.int .i64 l.area) ∧ w.cell? ⟨p, 5, none⟩ = some (.string (bs l.done)) ∧ w.cell? ⟨p, 6, none⟩ = some (.string (bs l.wait)) := by
  by_cases hx : x ≠ 0
  · rw [if_pos hx] at h; exact ⟨h.lg.c1, h.lg.c5, h.lg.c6⟩
  · rw [if_neg hx] at h; exact ⟨h.lg.c1, h.lg.c5, h.lg.c6⟩
set_option maxRecDepth 100000 in
set_option maxHeartbeats 1000000 in
theorem Commit_calls (B p d L n : Nat) (s : DSt) (l : LSt) (hi : LInv n s l) (w0 w : World) (h : WD B p d L s l w0 w) :
    Calls Tryd.prog 19 #[.pointer (some ⟨p, 0, none⟩)] w (ComPost B p d L (n / 2) s l w0) := by
  have H := Lib.hid h
  have HI := Lib.hid hi
  have HCH := Lib.hid (check_calls p d l w h.lg)
  have hae : commitS s l (n / 2) = if checkE l ≠ 0 then (s, l, checkE l) else if l.wait = [] then (s, l, 0) else
    if (putS s (n / 2 * l.area.toNat + (1 + from_ l)) (many l) (pad (text l) (many l))).2 ≠ 0 then ((putS s (n / 2 * l.area.toNat + (1 + from_ l)) (many l) (pad (text l) (many l))).1, brk l, (putS s (n / 2 * l.area.toNat + (1 + from_ l)) (many l) (pad (text l) (many l))).2)
    else ((putS s (n / 2 * l.area.toNat + (1 + from_ l)) (many l) (pad (text l) (many l))).1, { l with done := l.done ++ l.wait, wait := [] }, 0) := rfl
  have HAE := Lib.hid hae
  have hck : checkE l = 0 → l.ready = true := fun h => (checkE_ok h).2
  have HCK := Lib.hid hck
  clear h hi hae hck
  generalize checkE l = ce at *
  by_cases he : ce ≠ 0
  · have he' : (ce != 0) = true := by simpa using he
    have HE := Lib.hid (HAE.out.trans (if_pos he))
    clear he
    go_enter Tryd.func19, Tryd.ntmps19
    go_wp2_with fail
    refine HCH.out.mono ?_
    rintro e w1 ⟨rfl, rfl⟩
    go_wp2_with fail
    go_ret
    exact ComPost.mk HE.out H.out
  obtain rfl : ce = 0 := by omega
  have HAE2 := Lib.hid (HAE.out.trans (if_neg he))
  have HR := Lib.hid (HCK.out rfl)
  clear he HAE HCK
  have c6 := H.out.lg.c6
  have c5 := H.out.lg.c5
  have c1 := H.out.lg.c1
  by_cases hw : l.wait = []
  · have hw' := Sg.bs_eq_empty l.wait (by rw [hw]; rfl)
    have HE := Lib.hid (HAE2.out.trans (if_pos hw))
    clear hw
    go_enter Tryd.func19, Tryd.ntmps19
    go_wp2_with fail
    refine HCH.out.mono ?_
    rintro e w1 ⟨rfl, rfl⟩
    go_wp2_with fail
    go_ret
    exact ComPost.mk HE.out H.out
  have hw' := Sg.bs_ne_empty l.wait (fun e => hw (List.length_eq_zero_iff.1 e))
  have HE := Lib.hid (HAE2.out.trans (if_neg hw))
  obtain ⟨m1, m2, m3⟩ := many_bounds n l HI.out.rm hw
  have hrm := HI.out.rm
  have hn := HI.out.good.hn
  have h4 := HI.out.four
  have ha0 := (HI.out.ready HR.out).1
  have ha1 := HI.out.area.2
  obtain ⟨k, hk⟩ := Int.eq_ofNat_of_zero_le ha0
  have hk1 : k ≤ 1 := by omega
  have hkt : l.area.toNat = k := by omega
  rw [hkt] at HE
  rw [hk] at c1
  have hkm : n / 2 * k ≤ n / 2 := by have := Nat.mul_le_mul_left (n / 2) hk1; omega
  have HP := Lib.hid (fun W h => put_calls B p d L n s l HI.out k (1 + from_ l) 0 (many l) (n / 2 * k + (1 + from_ l)) (text l) (by unfold many; omega) m2 rfl (by omega) hk1 w0 W h)
  have hzd : (bs l.done).size = l.done.length := bs_size _
  have hfr : (l.done.length : Int) / 64 = ((from_ l : Nat) : Int) := by unfold from_; omega
  have hf1 : from_ l * 64 ≤ l.done.length := by unfold from_; omega
  have hext : (bs l.done).extract (from_ l * 64) l.done.length = bs (l.done.drop (64 * from_ l)) := by rw [extract_from, Nat.mul_comm]
  have HTX := Lib.hid (show bs (l.done.drop (64 * from_ l)) ++ bs l.wait = bs (text l) from bs_append _ _)
  have HAP := Lib.hid (show bs l.done ++ bs l.wait = bs (l.done ++ l.wait) from bs_append _ _)
  have hzx : (bs (l.done.drop (64 * from_ l))).size = l.done.length - 64 * from_ l := by rw [bs_size]; simp
  have hzw : (bs l.wait).size = l.wait.length := bs_size _
  have hb1 : l.done.length ≤ 200000 := by omega
  have hb2 : l.wait.length ≤ 200000 := by omega
  clear hw hkt ha0 ha1 m1 m2 m3 hrm HAE2 hkm
  have HKA := Lib.hid hk
  clear hk
  generalize hff : from_ l = f at *
  have HFF := Lib.hid hff
  clear hff
  go_enter Tryd.func19, Tryd.ntmps19
  go_wp2_with fail
  refine HCH.out.mono ?_
  rintro e w1 ⟨rfl, rfl⟩
  go_wp2_with fail
  have HD := Lib.hid H.out.drew
  have y1 : w.drew.cell? ⟨p, 1, none⟩ = some (.int .i64 (k : Int)) := c1
  have y5 : w.drew.cell? ⟨p, 5, none⟩ = some (.string (bs l.done)) := c5
  have y6 : w.drew.cell? ⟨p, 6, none⟩ = some (.string (bs l.wait)) := c6
  have g1 : IntKind.i64.wrap (1 + (f : Int)) = ((1 + f : Nat) : Int) := by rw [IntWalk.i64_in _ (by omega)]; omega
  have g2 : IntKind.i64.wrap ((f : Int) * 64) = (f : Int) * 64 := IntWalk.i64_in _ (by omega)
  have j1 : (0 : Int) ≤ (f : Int) * 64 := by omega
  have j2 : (f : Int) * 64 ≤ (l.done.length : Int) := by omega
  have j3 : ((f : Int) * 64).toNat = f * 64 := by omega
  have hcc : ¬ (9223372036854775807 < l.done.length - 64 * f + l.wait.length) := by omega
  go_region_held3 (fun w' => w'.cell? ⟨p, 1, none⟩ = some (.int .i64 (k : Int)) ∧ w'.cell? ⟨p, 5, none⟩ = some (.string (bs l.done)) ∧ w'.cell? ⟨p, 6, none⟩ = some (.string (bs l.wait)))
    (first
      | with_reducible exact ⟨y1, y5, y6⟩
      | (exact (by have := put_cells h2; rw [HKA.out] at this; exact this)))
    ((go_at_call 37; (try rw [HTX.out]); refine (HP.out _ HD.out).mono ?_; rintro e w2 ⟨rfl, h2⟩))
  clear y1 y5 y6 g1 g2 j1 j2 j3 hcc c1 c5 c6 hfr hf1 hext hzx
  generalize hp1 : putS s (n / 2 * k + (1 + f)) (many l) (pad (text l) (many l)) = p1 at h2 HE ⊢
  obtain ⟨d1, e1⟩ := p1
  simp only at h2 HE ⊢
  by_cases he1 : e1 ≠ 0
  · have he1' : (e1 != 0) = true := by simpa using he1
    rw [if_pos he1] at h2
    have H2 := Lib.hid h2
    have HXE := Lib.hid (HE.out.trans (if_pos he1))
    clear he1 h2 hp1
    go_wp2_with fail
    go_ret
    exact ComPost.mk HXE.out H2.out
  obtain rfl : e1 = 0 := by omega
  rw [if_neg he1] at h2
  have H2 := Lib.hid h2
  have HXE := Lib.hid (HE.out.trans (if_neg he1))
  have HP1 := Lib.hid hp1
  clear h2 he1 hp1
  have HD2 := Lib.hid H2.out.drew
  have y5 : w2.drew.cell? ⟨p, 5, none⟩ = some (.string (bs l.done)) := HD2.out.lg.c5
  have y6 : w2.drew.cell? ⟨p, 6, none⟩ = some (.string (bs l.wait)) := HD2.out.lg.c6
  have f5 : w2.frozen? ⟨p, 5, none⟩ = false := Has.frozen H2.out.lg 5
  have f6 : w2.frozen? ⟨p, 6, none⟩ = false := Has.frozen H2.out.lg 6
  have f1 : ¬ (9223372036854775807 < l.done.length + l.wait.length) := by omega
  have HLC1 := Lib.hid ((WP.set HD2.out 5 (.string (bs l.done ++ bs l.wait))).set 6 (.string ⟨#[]⟩))
  have HLC2 := Lib.hid ((WP.set HD2.out 6 (.string ⟨#[]⟩)).set 5 (.string (bs l.done ++ bs l.wait)))
  go_wp2_with fail
  go_region
  go_wp2_with fail
  go_ret
  refine ComPost.mk HXE.out ?_
  have hLC : LCells d { l with done := l.done ++ l.wait, wait := [] } = ((LCells d l).setIfInBounds 5 (.string (bs l.done ++ bs l.wait))).setIfInBounds 6 (.string ⟨#[]⟩) := by
    rw [HAP.out]; rfl
  unfold WD
  rw [hLC]
  first
    | exact HLC1.out
    | exact HLC2.out
end Go.Proofs.YtjnjcjildiadgaaDoor.Wl
