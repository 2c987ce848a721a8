/- The walk of WalRoom. -/
import Derived.Test.YtjnjcjildiadgaaDoorWalAwake
namespace Go.Proofs.YtjnjcjildiadgaaDoor.Wl
open Go Go.RowKit Frame Oct Disk
theorem _root_.Go.Proofs.YtjnjcjildiadgaaDoor.Disk.One.grown {B d L : Nat} {s : DSt} {w w' : World} {row : Option Nat} (h : One B d L s w) (hg : w.grownBy w' row) (hr : ∀ g, row = some g → ∃ cs, Has g cs 9 w) : One B d L s w' := by
  obtain ⟨v, k⟩ := h
  have ht : Turn (fun k => row = some k) w w' := (Turn.refl (fun k => row = some k) w).grown hg (fun k hk => .inl hk)
  refine ⟨v, k.turn ht fun j hj => ?_⟩
  obtain ⟨cs, hcs⟩ := hr j hj
  exact k.apart hcs (by decide) (by decide) (by decide)
/-- A log and its disk at a law's own place. -/
structure Lw (B p d L : Nat) (s : DSt) (l : LSt) (W w : World) : Prop where
  one : One B d L s w
  lg : Lg p d l w
  bel : Below B W w
  hp : B ≤ p
section
variable {B p d L : Nat} {s s' : DSt} {l l' : LSt} {W w w' : World}
theorem Lw.wd (h : Lw B p d L s l W w) : WD B p d L s l w w := WD.refl h.hp h.one h.lg
theorem Lw.le (h : Lw B p d L s l W w) : B ≤ w.heap.size := One.base_le h.one
theorem Lw.below (h : Lw B p d L s l W w) (hb : Below w.heap.size w w') : Lw B p d L s l W w' := ⟨h.one.below hb, h.lg.below hb, h.bel.trans (hb.mono h.le), h.hp⟩
theorem Lw.next (h : Lw B p d L s l W w) (k : WD B p d L s' l' w w') : Lw B p d L s' l' W w' := ⟨k.one, k.lg, h.bel.trans k.bel, h.hp⟩
theorem Lw.tab (h : Lw B p d L s l W w) (hT : Crc.Tab W) (hB : 0 < B) : Crc.Tab w := tab_bel hT hB h.bel
/-- An append to a slice of strings leaves a log and its disk. -/
theorem Lw.grown {row : Option Nat} (h : Lw B p d L s l W w) (hg : w.grownBy w' row) (hr : ∀ g, row = some g → B ≤ g ∧ ∃ cs, Has g cs 9 w) : Lw B p d L s l W w' := by
  have hb : Below B w w' := Sg.below_grown (Below.refl _ _) hg h.le fun g e => (hr g e).1
  have hp : some p ≠ row := fun e => by
    obtain ⟨-, cs, hcs⟩ := hr p e.symm
    exact absurd (has_type h.lg hcs) (by decide)
  exact ⟨h.one.grown hg fun g e => (hr g e).2, (hg.block p (Has.lt h.lg) hp).trans h.lg, h.bel.trans hb, h.hp⟩
end
/-- A slice of strings of one's own, while a log turns. -/
theorem own_kept {w w' : World} {B n : Nat} {v : Value} {xs : List Value} (h : w.ownsRow B 9 1 v n xs) (hk : Kept2 w w') : w'.ownsRow B 9 1 v n xs := by
  obtain ⟨hlen, hv⟩ := h
  refine ⟨hlen, ?_⟩
  rcases hv with hv | ⟨g, cap, cur, rfl, hb', hg, hr⟩
  · exact .inl hv
  · exact .inr ⟨g, cap, cur, rfl, hb', hk g cur _ (by decide) (by decide) (by decide) (by decide) hg, hr⟩
theorem own_row {w : World} {B n g : Nat} {v : Value} {xs : List Value} (h : w.ownsRow B 9 1 v n xs) (hg : v.ownBlock = some g) : B ≤ g ∧ ∃ cs, Has g cs 9 w := by
  obtain ⟨hlen, hv⟩ := h
  rcases hv with ⟨rfl, _⟩ | ⟨g', cap, cur, rfl, hb', hg', hr⟩
  · cases hg
  · obtain rfl : g' = g := by simpa [Value.ownBlock] using hg
    exact ⟨hb', cur, hg'⟩
section
variable {l : LSt} {h : Nat} {r : List UInt8}
theorem app_empty (hc : checkE l = 0) (hr : r.length = 0) : appendS l h [r] = (l, 15) := by
  have hb : (Sg.bytes [r]) = ([], 15) := by
    rw [Sg.bytes_bad r (by unfold Sg.bad; rw [if_pos hr]; decide)]
    unfold Sg.bad; rw [if_pos hr]
  unfold appendS
  rw [if_neg (by omega), hb, if_pos (by decide)]
theorem bad_fine (h0 : r.length ≠ 0) (h4 : r.length ≤ 400) : Sg.bad r = 0 := by unfold Sg.bad; rw [if_neg h0, if_neg (by omega)]
theorem app_big (hc : checkE l = 0) (h0 : r.length ≠ 0) (h4 : r.length ≤ 400) (hb : room l h < (r.length : Int) + 9) : appendS l h [r] = (l, 17) := by
  unfold appendS
  rw [if_neg (by omega), Sg.bytes_one r (bad_fine h0 h4), if_neg (by show ¬ (0 : Int) ≠ 0; decide), if_pos (by show room l h < ((Sg.one r).length : Int); rw [Sg.one_length]; omega)]
theorem app_fine (hc : checkE l = 0) (h0 : r.length ≠ 0) (h4 : r.length ≤ 400) (hb : ¬ room l h < (r.length : Int) + 9) :
    appendS l h [r] = ({ l with wait := l.wait ++ Sg.one r }, 0) ∧ room { l with wait := l.wait ++ Sg.one r } h = room l h - ((r.length : Int) + 9) := by
  refine ⟨?_, ?_⟩
  · unfold appendS
    rw [if_neg (by omega), Sg.bytes_one r (bad_fine h0 h4), if_neg (by show ¬ (0 : Int) ≠ 0; decide), if_neg (by show ¬ room l h < ((Sg.one r).length : Int); rw [Sg.one_length]; omega)]
  · have hr := (checkE_ok hc).2
    unfold room
    rw [if_pos hr, if_pos (show ({ l with wait := l.wait ++ Sg.one r } : LSt).ready = true from hr)]
    show 64 * ((h : Int) - 1) - (l.done.length : Int) - ((l.wait ++ Sg.one r).length : Int) = _
    rw [List.length_append, Sg.one_length]
    omega
theorem check_rdy (hb : l.broken = false) (hr : l.ready = true) : checkE l = 0 := by unfold checkE; rw [hb, hr]; rfl
end
/-- Append of one record. -/
theorem Append_one (B p d L n : Nat) (s : DSt) (l : LSt) (hi : LInv n s l) (q : Nat) (r : List UInt8) (W w : World) (hT : Crc.Tab W) (hTB : 0 < B) (h : Lw B p d L s l W w) (hq : Has q #[.string (bs r)] 9 w) :
    Calls Tryd.prog 18 #[.pointer (some ⟨p, 0, none⟩), .slice (some ⟨q, 0, none⟩) 1 1] w (AppPost B p d L (n / 2) s l [r] w) :=
  Append_calls B p d L n s l hi (some ⟨q, 0, none⟩) 1 [r] (by simp) w w (h.tab hT hTB) hTB h.wd (Sg.SS.one hq)
theorem AppPost.out {B p d L h : Nat} {s : DSt} {l l' : LSt} {rs : List (List UInt8)} {x : Int} {W w w' : World} {e : Ending} (H : AppPost B p d L h s l rs w e w') (he : appendS l h rs = (l', x)) (hl : Lw B p d L s l W w) :
    e = .returned (.int .i64 x) ∧ Lw B p d L s l' W w' ∧ Kept2 w w' := by
  unfold AppPost at H
  rw [he] at H
  exact ⟨H.1, hl.next H.2, H.2.kept⟩
theorem ComPost.out {B p d L h : Nat} {s s' : DSt} {l l' : LSt} {x : Int} {W w w' : World} {e : Ending} (H : ComPost B p d L h s l w e w') (he : commitS s l h = (s', l', x)) (hl : Lw B p d L s l W w) :
    e = .returned (.int .i64 x) ∧ Lw B p d L s' l' W w' ∧ Kept2 w w' := by
  unfold ComPost at H
  rw [he] at H
  exact ⟨H.1, hl.next H.2, H.2.kept⟩
theorem BegPost.out {B p d L h : Nat} {s s' : DSt} {l l' : LSt} {img : List UInt8} {x : Int} {W w w' : World} {e : Ending} (H : BegPost B p d L h s l img w e w') (he : beginS s l h img = (s', l', x)) (hl : Lw B p d L s l W w) :
    e = .returned (.int .i64 x) ∧ Lw B p d L s' l' W w' ∧ Kept2 w w' := by
  unfold BegPost at H
  rw [he] at H
  exact ⟨H.1, hl.next H.2, H.2.kept⟩
theorem app_l0 (h : Nat) (rs : List (List UInt8)) : appendS l0 h rs = (l0, 13) := rfl
theorem com_l0 (h : Nat) (s : DSt) : commitS s l0 h = (s, l0, 13) := rfl
def img5 : List UInt8 := [105, 109, 97, 103, 101]
theorem img_begin : beginE l0 10 img5 = 0 := by decide +kernel
/-- What holds at each record. -/
structure RmI (B p d L : Nat) (s : DSt) (l : LSt) (kept : List (List UInt8)) (v : Value) (W w : World) : Prop where
  i : Lw B p d L s l W w
  inv : LInv 20 s l
  calm : Calm s
  live : Live 10 s.last l img5 kept 0
  rdy : l.ready = true ∧ l.broken = false
  own : w.ownsRow B 9 1 v kept.length (Sg.cells kept)
  many : kept.length ≤ 12
set_option maxRecDepth 100000 in
set_option maxHeartbeats 1000000 in
theorem WalRoom_walk (A : Option Addr) (c : Nat) (l : List (List UInt8)) (hlc : l.length ≤ c) (hc : c ≤ maxLen) (W : World) (hT : Crc.Tab W) (hA : Sg.SS A l W) :
    Calls Tryd.prog 4 #[.slice A l.length c] W fun e w' => e = .returned (.bool true) ∧ Below W.heap.size W w' := by
  have HTS := Lib.hid (Crc.Tab.size hT)
  have HT := Lib.hid hT
  have HA := Lib.hid hA
  unfold maxLen at hc
  have HLM := Lib.hid (show l.length ≤ maxLen by unfold maxLen; omega)
  clear hT hA
  go_enter Tryd.func4, Tryd.ntmps4
  go_wp2_with fail
  refine (awake_calls W HT.out).mono ?_
  rintro e w1 ⟨rfl, b1⟩
  have B1 := Lib.hid b1
  clear b1
  go_wp2_with fail
  refine (Sg.Light_calls A c l _ (HA.out.below B1.out) HLM.out).mono ?_
  rintro e w2 ⟨rfl, b2⟩
  have B2 := Lib.hid (bthen B1.out b2)
  clear b2 B1
  have hli : Sg.lightB l = true → l.length ≤ 12 ∧ ∀ x ∈ l, x.length ≤ 400 := Sg.light_iff
  have HLI := Lib.hid hli
  clear hli
  generalize Sg.lightB l = lb at *
  cases lb with
  | false =>
    go_wp2_with fail
    go_ret
    exact ⟨rfl, B2.out⟩
  | true =>
    obtain ⟨hl12, hl400⟩ := HLI.out rfl
    have HL4 := Lib.hid hl400
    clear hl400
    go_wp2_with fail
    refine (New_one 20 (by decide) w2).mono ?_
    rintro e w3 ⟨rfl, h3, b3⟩
    have H3 := Lib.hid (One.base h3 B2.out.size)
    have B3 := Lib.hid (bthen B2.out b3)
    clear h3 b3
    generalize w2.heap.size + 1 = d at *
    generalize w2.heap.size = L at *
    go_wp2_with fail
    refine (Open_calls W.heap.size _ _ 20 (fresh 20) (Good.fresh 20 (by decide)) rfl rfl (by decide) W w3 HT.out HTS.out B3.out (Kept2.of_below B3.out) H3.out).mono ?_
    intro e w4 hop
    obtain ⟨A2, c2, rfl, hl4, b4⟩ := hop.fresh
    clear hop
    have H4 := Lib.hid (show Lw W.heap.size w3.heap.size d L (fresh 20) l0 W w4 from ⟨H3.out.below b4, hl4, bthen B3.out b4, B3.out.size⟩)
    clear hl4 b4
    generalize w3.heap.size = p at *
    go_wp2_with fail
    have hz5 := Has.new w4 #[.string ⟨#[97]⟩] 9
    have H5 := Lib.hid (H4.out.below ((Below.refl _ _).alloc (Nat.le_refl _) (.cells #[.string ⟨#[97]⟩] 9)))
    refine (Append_one W.heap.size p d L 20 (fresh 20) l0 (LInv.fresh 20 (by decide) (by decide)) w4.heap.size [97] W _ HT.out HTS.out H5.out hz5).mono ?_
    intro e w6 hap
    obtain ⟨rfl, h6, -⟩ := hap.out (app_l0 _ _) H5.out
    have H6 := Lib.hid h6
    clear hap h6 hz5 H5 H4
    go_wp2_with fail
    refine (Commit_calls W.heap.size p d L 20 (fresh 20) l0 (LInv.fresh 20 (by decide) (by decide)) w6 w6 H6.out.wd).mono ?_
    intro e w7 hap
    obtain ⟨rfl, h7, -⟩ := hap.out (com_l0 _ _) H6.out
    have H7 := Lib.hid h7
    clear hap h7 H6
    obtain ⟨s1, hb1, hcm⟩ := (Calm.fresh 20).begin_ (l := l0) (h := 10) img_begin
    have HBG := Lib.hid hb1
    have HLV := Lib.hid (show LInv 20 s1 ⟨((tgt l0.area : Nat) : Int), l0.gen + 1, true, false, Sg.one img5, []⟩ from by
      have := (LInv.fresh 20 (by decide) (by decide)).begin_ img5
      rw [show (20 : Nat) / 2 = 10 from rfl, hb1] at this
      exact this)
    have HLL := Lib.hid (show Live 10 s1.last ⟨((tgt l0.area : Nat) : Int), l0.gen + 1, true, false, Sg.one img5, []⟩ img5 [] 0 from by
      have h0 : Live (20 / 2) (fresh 20).last l0 [] [] 0 := by
        have := Live.fresh 10 (64 * 20)
        rw [show noughts (64 * 20) = (fresh 20).last from rfl, openL_fresh] at this
        exact this
      rcases Live.begins (LInv.fresh 20 (by decide) (by decide)) rfl h0 img5 with ⟨k1, -⟩ | ⟨s', k1, -⟩ | ⟨s', k1, k2, k3⟩
      · exact absurd img_begin k1
      · rw [show (20 : Nat) / 2 = 10 from rfl, hb1] at k1
        injection k1 with a1 a2
        injection a2 with a2 a3
        exact absurd a3 (by decide)
      · rw [show (20 : Nat) / 2 = 10 from rfl, hb1] at k1
        injection k1 with a1 a2
        rw [a1]; exact k3)
    have HCM := Lib.hid hcm
    clear hb1 hcm
    go_wp2_with fail
    refine (Begin_calls W.heap.size p d L 20 (fresh 20) l0 (LInv.fresh 20 (by decide) (by decide)) img5 w7 w7 (H7.out.tab HT.out HTS.out) HTS.out H7.out.wd).mono ?_
    intro e w8 hap
    obtain ⟨rfl, h8, -⟩ := hap.out HBG.out H7.out
    have H8 := Lib.hid h8
    clear hap h8 H7
    generalize hl1 : (⟨((tgt l0.area : Nat) : Int), l0.gen + 1, true, false, Sg.one img5, []⟩ : LSt) = l1 at *
    have HR1 := Lib.hid (show l1.ready = true ∧ l1.broken = false by rw [← hl1]; exact ⟨rfl, rfl⟩)
    clear hl1
    have HST := Lib.hid (show RmI W.heap.size p d L s1 l1 [] (.slice none 0 0) W w8 from ⟨H8.out, HLV.out, HCM.out, HLL.out, HR1.out, World.ownsRow_nil _ _ _ _, by decide⟩)
    clear H8 HLV HCM HLL HR1 HBG
    go_wp2_with fail
    generalize w4.heap.size = w4z at *
    obtain ⟨i0, hi0, hz0, hz1, hz2⟩ := info_parts Sg.infoS
    go_loopw [8, 50] (fun v i wr => ∃ (k : Nat) (kept : List (List UInt8)) (lk : LSt), k ≤ l.length ∧ i = .int .i64 k ∧ kept.length ≤ k ∧ Hid (RmI W.heap.size p d L s1 lk kept v W wr)) (fun _ i _ => l.length - (intOf i).toNat)
    case atStart => exact ⟨0, [], l1, by omega, rfl, by simp, HST⟩
    case round =>
      obtain ⟨k, kept, lk, hk, rfl, hkl, hP⟩ := hrel
      clear HST
      have HCE := Lib.hid (check_rdy hP.out.rdy.2 hP.out.rdy.1)
      by_cases hlt : k < l.length
      · obtain ⟨b, off, rfl, hbl, hi⟩ := (HA.out.below hP.out.i.bel) (by omega)
        have ck := hi k hlt
        have hr400 := HL4.out _ (Sg.getD_mem l k hlt)
        clear hi
        generalize l.getD k [] = r at *
        have hzr : (bs r).size = r.length := bs_size _
        have HRC := Lib.hid (fun W' (h : Lw W.heap.size p d L s1 lk W W') => Room_calls W.heap.size p d L 20 s1 lk hP.out.inv W' h.one h.lg)
        have HE1 := Lib.hid (fun h0 => app_empty (l := lk) (h := 10) (r := r) HCE.out h0)
        have HE2 := Lib.hid (fun h0 hb => app_big (l := lk) (h := 10) (r := r) HCE.out h0 hr400 hb)
        have HE3 := Lib.hid (fun h0 hb => app_fine (l := lk) (h := 10) (r := r) HCE.out h0 hr400 hb)
        have hrm : room lk (20 / 2) = room lk 10 := rfl
        rw [hrm] at HRC
        have hrb : room lk 10 ≤ 1000 ∧ 0 ≤ room lk 10 := by
          have h1 := hP.out.inv.rm
          unfold room
          rw [if_pos hP.out.rdy.1]
          omega
        have HAP := Lib.hid (fun W' (h : Lw W.heap.size p d L s1 lk W W') q hq => Append_one W.heap.size p d L 20 s1 lk hP.out.inv q r W W' HT.out HTS.out h hq)
        clear hrm
        have HIV := Lib.hid (show ∀ v w', Lw W.heap.size p d L s1 lk W w' → w'.ownsRow W.heap.size 9 1 v kept.length (Sg.cells kept) → RmI W.heap.size p d L s1 lk kept v W w' from fun v w' a1 a2 => ⟨a1, hP.out.inv, hP.out.calm, hP.out.live, hP.out.rdy, a2, hP.out.many⟩)
        by_cases h0 : r.length = 0
        · have h0' := Sg.bs_eq_empty r h0
          have HX := Lib.hid (HE1.out h0)
          generalize room lk 10 = ro at *
          go_wp2_with fail
          refine (HRC.out _ hP.out.i).mono ?_
          rintro e w9 ⟨rfl, b9⟩
          have H9 := Lib.hid (hP.out.i.below b9)
          have HO9 := Lib.hid (Sg.own_below hP.out.own b9)
          clear b9
          go_wp2_with fail
          have hzA := Has.new w9 #[.string (bs r)] 9
          have bA : Below w9.heap.size w9 (w9.alloc (.cells #[.string (bs r)] 9)) := (Below.refl _ _).alloc (Nat.le_refl _) _
          have HA9 := Lib.hid (H9.out.below bA)
          have HOA := Lib.hid (Sg.own_below HO9.out bA)
          refine (HAP.out _ HA9.out w9.heap.size hzA).mono ?_
          intro e w10 hap
          obtain ⟨rfl, h10, k10⟩ := hap.out HX.out HA9.out
          have H10 := Lib.hid h10
          have HO10 := Lib.hid (own_kept HOA.out k10)
          clear hap h10 k10 hzA bA HA9 HOA H9 HO9
          go_wp2_with fail
          refine (HRC.out _ H10.out).mono ?_
          rintro e w11 ⟨rfl, b11⟩
          have HF := Lib.hid (HIV.out _ _ (H10.out.below b11) (Sg.own_below HO10.out b11))
          clear b11 H10 HO10
          go_wp2_with fail
          exact ⟨⟨k + 1, kept, lk, by omega, by go_num, by omega, HF⟩, by simp [intOf]; omega⟩
        have h0' := Sg.bs_ne_empty r h0
        by_cases hbg : room lk 10 < (r.length : Int) + 9
        · have HX := Lib.hid (HE2.out h0 hbg)
          generalize room lk 10 = ro at *
          go_wp2_with fail
          refine (HRC.out _ hP.out.i).mono ?_
          rintro e w9 ⟨rfl, b9⟩
          have H9 := Lib.hid (hP.out.i.below b9)
          have HO9 := Lib.hid (Sg.own_below hP.out.own b9)
          clear b9
          go_wp2_with fail
          have hzA := Has.new w9 #[.string (bs r)] 9
          have bA : Below w9.heap.size w9 (w9.alloc (.cells #[.string (bs r)] 9)) := (Below.refl _ _).alloc (Nat.le_refl _) _
          have HA9 := Lib.hid (H9.out.below bA)
          have HOA := Lib.hid (Sg.own_below HO9.out bA)
          refine (HAP.out _ HA9.out w9.heap.size hzA).mono ?_
          intro e w10 hap
          obtain ⟨rfl, h10, k10⟩ := hap.out HX.out HA9.out
          have H10 := Lib.hid h10
          have HO10 := Lib.hid (own_kept HOA.out k10)
          clear hap h10 k10 hzA bA HA9 HOA H9 HO9
          go_wp2_with fail
          refine (HRC.out _ H10.out).mono ?_
          rintro e w11 ⟨rfl, b11⟩
          have HF := Lib.hid (HIV.out _ _ (H10.out.below b11) (Sg.own_below HO10.out b11))
          clear b11 H10 HO10
          go_wp2_with fail
          exact ⟨⟨k + 1, kept, lk, by omega, by go_num, by omega, HF⟩, by simp [intOf]; omega⟩
        · obtain ⟨hx1, hx2⟩ := HE3.out h0 hbg
          have HX := Lib.hid hx1
          have HNI : Hid (LInv 20 s1 { lk with wait := lk.wait ++ Sg.one r }) := Lib.hid (by
            have := hP.out.inv.append [r]
            rw [show (20 : Nat) / 2 = 10 from rfl, hx1] at this
            exact this)
          have HNL : Hid (Live 10 s1.last { lk with wait := lk.wait ++ Sg.one r } img5 (kept ++ [r]) 0) := Lib.hid (by
            rcases Live.appends (n := 20) hP.out.live [r] with ⟨q1, -⟩ | ⟨-, q2, -, q3⟩
            · rw [show (20 : Nat) / 2 = 10 from rfl, hx1] at q1; exact absurd rfl q1
            · rw [show Sg.cat [r] = Sg.one r by simp [Sg.cat]] at q3
              exact q3)
          generalize hlk : ({ lk with wait := lk.wait ++ Sg.one r } : LSt) = lk' at *
          have HRY := Lib.hid (show lk'.ready = true ∧ lk'.broken = false by rw [← hlk]; exact hP.out.rdy)
          have HRC2 := Lib.hid (fun W' (h : Lw W.heap.size p d L s1 lk' W W') => Room_calls W.heap.size p d L 20 s1 lk' HNI.out W' h.one h.lg)
          rw [show room lk' (20 / 2) = room lk' 10 from rfl, hx2] at HRC2
          clear hx1 hx2 hlk
          generalize room lk 10 = ro at *
          have hbg1 : (r.length : Int) + 9 ≤ ro := by omega
          have hmk := hP.out.many
          go_wp2_with fail
          refine (HRC.out _ hP.out.i).mono ?_
          rintro e w9 ⟨rfl, b9⟩
          have H9 := Lib.hid (hP.out.i.below b9)
          have HO9 := Lib.hid (Sg.own_below hP.out.own b9)
          clear b9
          have hzA := Has.new w9 #[.string (bs r)] 9
          have bA : Below w9.heap.size w9 (w9.alloc (.cells #[.string (bs r)] 9)) := (Below.refl _ _).alloc (Nat.le_refl _) _
          have HA9 := Lib.hid (H9.out.below bA)
          have HOA := Lib.hid (Sg.own_below HO9.out bA)
          have hle := H9.out.le
          clear bA hzA
          go_wp2_with (at_builtin; refine wpList_append_own _ rfl _ _ 22 rfl W.heap.size 9 i0 _ 1 16 Tryd.underlying22 hi0 hz0 hz1 hz2 rfl (by decide) _ _ _ rfl HOA.out ⟨w9.heap.size, 0, none⟩ 1 1 [.string (bs r)] rfl rfl ?c1 ?c2 ?c3 ?c4 ?c5 ?_)
          case c1 => exact cell_one_new _ _ _
          case c2 => intro u hu; simp at hu; subst hu; rfl
          case c3 => unfold maxLen; omega
          case c4 => omega
          case c5 => simp; omega
          intro v' w10 hown' hgrow _
          have H10 := Lib.hid (HA9.out.grown hgrow (fun g hg => own_row HOA.out hg))
          have HO10 := Lib.hid hown'
          clear hown' hgrow HA9 HOA H9 HO9
          go_wp2_with fail
          have hzA := Has.new w10 #[.string (bs r)] 9
          have bA : Below w10.heap.size w10 (w10.alloc (.cells #[.string (bs r)] 9)) := (Below.refl _ _).alloc (Nat.le_refl _) _
          have HA9 := Lib.hid (H10.out.below bA)
          have HOA := Lib.hid (Sg.own_below HO10.out bA)
          refine (HAP.out _ HA9.out w10.heap.size hzA).mono ?_
          intro e w11 hap
          obtain ⟨rfl, h11, k11⟩ := hap.out HX.out HA9.out
          have H11 := Lib.hid h11
          have HO11 := Lib.hid (own_kept HOA.out k11)
          clear hap h11 k11 hzA bA HA9 HOA H10 HO10
          go_wp2_with fail
          refine (HRC2.out _ H11.out).mono ?_
          rintro e w12 ⟨rfl, b12⟩
          have HF := Lib.hid (show RmI W.heap.size p d L s1 lk' (kept ++ [r]) v' W w12 from ⟨H11.out.below b12, HNI.out, hP.out.calm, HNL.out, HRY.out, by
            have := Sg.own_below HO11.out b12
            rw [List.length_append, Sg.cells_append, Sg.cells_one]
            exact this, by simp; omega⟩)
          clear b12 H11 HO11
          go_wp2_with fail
          exact ⟨⟨k + 1, kept ++ [r], lk', by omega, by go_num, by simp; omega, HF⟩, by simp [intOf]; omega⟩
      · obtain rfl : k = l.length := by omega
        obtain ⟨z1, z2⟩ := hP.out.calm.commit (l := lk) (h := 10) HCE.out
        have hcc : ∃ s' l', commitS s1 lk 10 = (s', l', 0) ∧ s'.on = true ∧ l'.broken = lk.broken ∧ l'.ready = true ∧ Live 10 s'.last l' img5 kept kept.length := by
          rcases Live.commits (n := 20) (may := []) hP.out.inv hP.out.calm.1 hP.out.live with ⟨q1, -⟩ | ⟨s', q1, -⟩ | ⟨s', l', q1, q2, q3, q4, -, q5⟩
          · exact absurd z1 q1
          · rw [show (20 : Nat) / 2 = 10 from rfl] at q1; rw [q1] at z1; exact absurd z1 (by show ¬ (16 : Int) = 0; decide)
          · exact ⟨s', l', q1, q2, q3, q4, q5⟩
        obtain ⟨s2, l2, hc1, hon2, hbr2, hrd2, hlv2⟩ := hcc
        have hinv2 := hP.out.inv.commit
        rw [show (20 : Nat) / 2 = 10 from rfl, hc1] at hinv2
        simp only at hinv2
        have hsh := hlv2.shape
        have har := (hlv2.rdy hrd2).2.2.2.1
        rw [if_neg (by omega), List.take_length] at hsh
        obtain ⟨o1, o2, o3⟩ := hsh.opened
        have HOB := Lib.hid o3
        have HOG := Lib.hid (show (openL 10 s2.last).gen = l2.gen from o2)
        have HOR := Lib.hid (show (openL 10 s2.last).ready = false from rfl)
        have HC1 := Lib.hid hc1
        have HI2 := Lib.hid hinv2
        have HON2 := Lib.hid hon2
        have HR2 := Lib.hid hrd2
        have hrm2 : 0 ≤ room l2 10 ∧ room l2 10 ≤ 1000 := by
          have h1 := hinv2.rm
          unfold room
          rw [if_pos hrd2]
          omega
        have HRC := Lib.hid (fun W' (h : Lw W.heap.size p d L s2 l2 W W') => Room_calls W.heap.size p d L 20 s2 l2 hinv2 W' h.one h.lg)
        rw [show room l2 (20 / 2) = room l2 10 from rfl] at HRC
        clear z1 z2 hc1 hon2 hbr2 hrd2 hlv2 hinv2 hsh har o1 o2 o3
        generalize room l2 10 = ro at *
        go_wp2_with fail
        refine (Commit_calls W.heap.size p d L 20 s1 lk hP.out.inv wr wr hP.out.i.wd).mono ?_
        intro e w9 hap
        obtain ⟨rfl, h9, k9⟩ := hap.out HC1.out hP.out.i
        have H9 := Lib.hid h9
        have HO9 := Lib.hid (own_kept hP.out.own k9)
        clear hap h9 k9
        go_wp2_with fail
        refine (HRC.out _ H9.out).mono ?_
        rintro e w10 ⟨rfl, b10⟩
        have H10 := Lib.hid (H9.out.below b10)
        have HO10 := Lib.hid (Sg.own_below HO9.out b10)
        clear b10 H9 HO9
        go_wp2_with fail
        refine (Open_calls W.heap.size d L 20 s2 HI2.out.good HI2.out.wait HON2.out (by decide) w10 w10 (H10.out.tab HT.out HTS.out) HTS.out (Below.refl _ _) (Kept2.refl _) H10.out.one).mono ?_
        intro e w11 hop
        unfold OpenPost at hop
        rw [show (20 : Nat) / 2 = 10 from rfl, HOB.out] at hop
        obtain ⟨v11, rfl, hv11, hl11, b11⟩ := hop
        have HV := Lib.hid (show Sg.SV v11 kept w11 from ST.sv hv11)
        have HL := Lib.hid hl11
        have H11 := Lib.hid (H10.out.below b11)
        have HO11 := Lib.hid (Sg.own_below HO10.out b11)
        clear hv11 hl11 b11 H10 HO10
        rw [show bs ((img5 :: kept).getD 0 []) = ⟨#[105, 109, 97, 103, 101]⟩ from rfl]
        generalize w10.heap.size = x at *
        generalize openL 10 s2.last = lx at *
        obtain ⟨Av, cv, rfl, hlv, hcv, -, -, hsv⟩ := HV.out
        obtain ⟨Ak, ck, rfl, hlk, hck, -, -, hsk⟩ := Sg.SV.of_own HO11.out
        have HSM := Lib.hid (Sg.Same_calls Av Ak cv ck kept kept (by omega) (by omega) w11 hsv hsk)
        rw [show decide (kept = kept) = true by simp] at HSM
        have HG1 := Lib.hid (fun W' (k : Below w11.heap.size w11 W') => Gen_calls x d lx W' (HL.out.below k))
        have HG2 := Lib.hid (fun W' (k : Below w11.heap.size w11 W') => Gen_calls p d l2 W' (H11.out.below k).lg)
        have HG3 := Lib.hid (fun W' (k : Below w11.heap.size w11 W') => Ready_calls x d lx W' (HL.out.below k))
        rw [HOG.out] at HG1
        rw [HOR.out] at HG3
        clear hlv hcv hlk hck hsv hsk
        go_wp2_with fail
        refine HSM.out.mono ?_
        rintro e w12 ⟨rfl, b12⟩
        have B12 := Lib.hid b12
        clear b12
        go_wp2_with fail
        refine (HG1.out _ B12.out).mono ?_
        rintro e w13 ⟨rfl, rfl⟩
        go_wp2_with fail
        refine (HG2.out _ B12.out).mono ?_
        rintro e w13 ⟨rfl, rfl⟩
        go_wp2_with fail
        refine (HG3.out _ B12.out).mono ?_
        rintro e w13 ⟨rfl, rfl⟩
        go_wp2_with fail
        go_ret
        exact ⟨rfl, (H11.out.below B12.out).bel⟩
end Go.Proofs.YtjnjcjildiadgaaDoor.Wl
