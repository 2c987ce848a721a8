/- The walk of wal.Open. -/
import Derived.Test.YtjnjcjildiadgaaDoorWalRead
import Derived.RegionTactic
import Derived.BigRegion
namespace Go.Proofs.YtjnjcjildiadgaaDoor.Wl
open Go Go.RowKit Frame Oct Disk
/-- What Open has found behind k areas. -/
def ofold (h : Nat) (last : List UInt8) : Nat → Os
  | 0 => o0
  | k + 1 => ostep (k : Int) (rd (ar last h k)) (ofold h last k)
theorem opened_fold (h : Nat) (last : List UInt8) : ofold h last 2 = opened h last := rfl
/-- What holds of it. -/
structure OOk (k : Nat) (o : Os) : Prop where
  area : -1 ≤ o.area ∧ o.area < k
  best : o.area < 0 → o.best = []
  some_ : 0 ≤ o.area → o.best ≠ []
  gen : o.gen < 18446744073709551616 ∧ o.top < 18446744073709551616
theorem rd_lt {l : List UInt8} {g : Nat} {rs : List (List UInt8)} (h : rd l = some (g, rs)) : g < 18446744073709551616 := by rw [(rd_some h).2.1]; exact genOf_lt l
theorem OOk.step {k : Nat} {o : Os} (h : OOk k o) (l : List UInt8) : OOk (k + 1) (ostep (k : Int) (rd l) o) := by
  have ha := h.area
  have hg := h.gen
  cases hr : rd l with
  | none => exact ⟨by simp only [ostep]; omega, h.best, h.some_, h.gen⟩
  | some x =>
    obtain ⟨g, rs⟩ := x
    have hgl := rd_lt hr
    simp only [ostep]
    by_cases hc : rs ≠ [] ∧ (o.area < 0 ∨ o.top < g)
    · rw [if_pos hc]
      exact ⟨by show -1 ≤ (k : Int) ∧ (k : Int) < ((k + 1 : Nat) : Int); omega, fun h => absurd h (by show ¬ (k : Int) < 0; omega), fun _ => hc.1, by show max o.gen g < _ ∧ g < _; omega⟩
    · rw [if_neg hc]
      exact ⟨by show -1 ≤ o.area ∧ o.area < ((k + 1 : Nat) : Int); omega, h.best, h.some_, by show max o.gen g < _ ∧ o.top < _; omega⟩
theorem ofold_ok (h : Nat) (last : List UInt8) (k : Nat) : OOk k (ofold h last k) := by
  induction k with
  | zero => exact ⟨⟨by show (-1 : Int) ≤ -1; decide, by show (-1 : Int) < 0; decide⟩, fun _ => rfl, fun h => absurd h (by show ¬ (0 : Int) ≤ -1; decide), by show (0 : Nat) < _ ∧ (0 : Nat) < _; decide⟩
  | succ k ih => exact ih.step _
/-- A log that has just been made, with what has been found. -/
def oL (o : Os) : LSt := ⟨o.area, o.gen, false, false, [], []⟩
def OpenPost (d : Nat) (h : Nat) (last : List UInt8) (w : World) (e : Ending) (w' : World) : Prop :=
  ∃ v, e = .returned (.tuple #[.pointer (some ⟨w.heap.size, 0, none⟩), .string (bs ((opened h last).best.getD 0 [])), v, .int .i64 0]) ∧ ST v ((opened h last).best.drop 1) w' ∧ Lg w.heap.size d (openL h last) w' ∧ Below w.heap.size w w'
/-- What holds at each area. -/
structure OpI (B p d L : Nat) (s : DSt) (o : Os) (v : Value) (w0 w wr : World) : Prop where
  i : WD B p d L s (oL o) w0 wr
  v : wr.ownsRow (p + 1) 9 1 v o.best.length (Sg.cells o.best)
  b : Below w.heap.size w wr
theorem OpI.set {B p d L : Nat} {s : DSt} {o o' : Os} {v : Value} {w0 w wr : World} {i : Nat} {x : Value} (h : OpI B p d L s o v w0 w wr) (hp : p = w.heap.size) (hb : o'.best = o.best) (hc : LCells d (oL o') = (LCells d (oL o)).setIfInBounds i x) : OpI B p d L s o' v w0 w (wr.setCell ⟨p, i, none⟩ x) :=
  ⟨by unfold WD; rw [hc]; exact WP.set h.i i x, by rw [hb]; exact own_set h.v ⟨p, i, none⟩ (Nat.lt_succ_self p) x, h.b.setCell (p := ⟨p, i, none⟩) (by show _ ≤ p; omega) x⟩
theorem OpI.drew {B p d L : Nat} {s : DSt} {o : Os} {v : Value} {w0 w wr : World} (h : OpI B p d L s o v w0 w wr) : OpI B p d L s o v w0 w wr.drew := ⟨h.i.drew, h.v, h.b.drew⟩
theorem OpI.below {B p d L : Nat} {s : DSt} {o : Os} {v : Value} {w0 w wr w' : World} (h : OpI B p d L s o v w0 w wr) (hb : Below wr.heap.size wr w') : OpI B p d L s o v w0 w w' :=
  ⟨h.i.below hb, Sg.own_below h.v hb, bthen h.b hb⟩
set_option maxRecDepth 100000 in
set_option maxHeartbeats 1000000 in
theorem Open_calls (B d L n : Nat) (s : DSt) (hg : Disk.Good n s) (hw0 : s.wait = []) (hon : s.on = true) (h4 : 4 ≤ n) (w0 w : World) (hT : Crc.Tab w0) (hTB : 0 < B) (hb0 : Below B w0 w) (hk0 : Kept2 w0 w) (ho : One B d L s w) :
    Calls Tryd.prog 10 #[.pointer (some ⟨d, 0, none⟩)] w (OpenPost d (n / 2) s.last w) := by
  have hn := hg.hn
  have hBw := One.base_le ho
  have HON := Lib.hid (show Calls Tryd.prog 31 #[.pointer (some ⟨d, 0, none⟩)] w fun e w' => e = .returned (.bool true) ∧ w = w' from by
    obtain ⟨wv, hd⟩ := ho
    have := On_calls B d L wv s w hd
    rw [hon] at this
    exact this)
  have HBK := Lib.hid (show Calls Tryd.prog 32 #[.pointer (some ⟨d, 0, none⟩)] w fun e w' => e = .returned (.int .i64 (n : Int)) ∧ w = w' from by
    obtain ⟨wv, hd⟩ := ho
    have := Blocks_calls B d L wv s (by have := hg.len; omega) w hd
    rw [hg.len, show ((64 * n : Nat) : Int) / 64 = (n : Int) by omega] at this
    exact this)
  have HRD := Lib.hid (fun l a ha W h => read_calls B w.heap.size d L n s l hg hw0 hon h4 a ha w0 W hT hTB h)
  have HO := Lib.hid (show OpI B w.heap.size d L s o0 (.slice none 0 0) w0 w (w.alloc (.cells (LCells d (oL o0)) 60)) from
    ⟨⟨ho.below ((Below.refl _ _).alloc (Nat.le_refl _) _), Has.new w _ _, hb0.alloc hBw _, hk0.trans (Kept2.of_below ((Below.refl _ _).alloc (Nat.le_refl _) _)), hBw⟩, World.ownsRow_nil _ _ _ _, (Below.refl _ _).alloc (Nat.le_refl _) _⟩)
  have hn4 : decide ((n : Int) < 4) = false := by simp; omega
  clear hg hw0 hon hb0 hk0 ho h4
  have HOP := Lib.hid (opened_fold (n / 2) s.last)
  generalize n / 2 = q at *
  go_enter Tryd.func10, Tryd.ntmps10
  go_wp2_with fail
  refine HON.out.mono ?_
  rintro e w1 ⟨rfl, rfl⟩
  go_wp2_with fail
  refine HBK.out.mono ?_
  rintro e w1 ⟨rfl, rfl⟩
  go_wp2_with fail
  change Code.wp _ _ _ _ (w.alloc (.cells (LCells d (oL o0)) 60))
  generalize w.alloc (.cells (LCells d (oL o0)) 60) = w1 at *
  have HPp : Hid (w.heap.size = w.heap.size) := Lib.hid rfl
  generalize hpp : w.heap.size = p at HPp HO HRD ⊢
  have HPE := Lib.hid hpp
  clear hpp hn4 HPp
  go_loopw [7, 8, 27] (fun v x i wr => ∃ k : Nat, k ≤ 2 ∧ i = .int .i64 k ∧ x = .int .u64 ((ofold q s.last k).top : Int) ∧ Hid (OpI B p d L s (ofold q s.last k) v w0 w wr)) (fun _ _ i _ => 2 - (intOf i).toNat)
  case atStart => exact ⟨0, by omega, rfl, rfl, HO⟩
  case round =>
    obtain ⟨k, hk, rfl, rfl, hP⟩ := hrel
    clear HO
    have HK := Lib.hid (ofold_ok q s.last k)
    by_cases hlt : k < 2
    · have HR := Lib.hid (HRD.out (oL (ofold q s.last k)) k (by omega) wr hP.out.i)
      have HST := Lib.hid (show ofold q s.last (k + 1) = ostep (k : Int) (rd (ar s.last q k)) (ofold q s.last k) from rfl)
      have HRL := Lib.hid (fun g rs (h : rd (ar s.last q k) = some (g, rs)) => rd_lt h)
      generalize rd (ar s.last q k) = r at *
      generalize hoo : ofold q s.last k = o at *
      have HOO := Lib.hid hoo
      clear hoo
      have hk2 : (k : Int) < 2 := by omega
      cases r with
      | none =>
        have HE : Hid (ofold q s.last (k + 1) = o) := Lib.hid HST.out
        go_wp2_with fail
        refine HR.out.mono ?_
        rintro e w2 ⟨v2, rfl, -, b2⟩
        have HP2 := Lib.hid (hP.out.below b2)
        rw [← HE.out] at HP2
        clear b2
        go_wp2_with fail
        refine ⟨⟨k + 1, by omega, by go_num, by rw [HE.out], HP2⟩, by simp [intOf]; omega⟩
      | some gr =>
        obtain ⟨g, rs⟩ := gr
        have HR2 : Hid (Calls Tryd.prog 33 #[.pointer (some ⟨p, 0, none⟩), .int .i64 (k : Int)] wr fun e w' => ∃ v, e = .returned (.tuple #[.int .u64 (g : Int), v, .bool true]) ∧ w'.ownsRow wr.heap.size 9 1 v rs.length (Sg.cells rs) ∧ Below wr.heap.size wr w') := HR
        clear HR
        have hgl := HRL.out g rs rfl
        have HGL := Lib.hid hgl
        have hmx : max (o.gen : Int) (g : Int) = ((max o.gen g : Nat) : Int) := by omega
        have hps : p + 1 ≤ wr.heap.size := Nat.succ_le_of_lt hP.out.i.lg.lt
        have HPS := Lib.hid hps
        clear hgl hps HRL
        have HA := Lib.hid HK.out.area
        have hrl : rs.length ≤ 1000000000000 ∨ True := .inr trivial
        clear hrl
        by_cases hc : rs ≠ [] ∧ (o.area < 0 ∨ o.top < g)
        · have HE : Hid (ofold q s.last (k + 1) = ⟨(k : Int), max o.gen g, g, rs⟩) := Lib.hid (HST.out.trans (if_pos hc))
          obtain ⟨hr, hor⟩ := hc
          have hl0 : 0 < rs.length := List.length_pos_iff.2 hr
          clear hr
          have fin : ∀ (v2 : Value) (w2 : World), w2.ownsRow wr.heap.size 9 1 v2 rs.length (Sg.cells rs) → Below wr.heap.size wr w2 → OpI B p d L s (ofold q s.last (k + 1)) v2 w0 w ((w2.setCell ⟨p, 2, none⟩ (.int .u64 ((max o.gen g : Nat) : Int))).setCell ⟨p, 1, none⟩ (.int .i64 (k : Int))) := fun v2 w2 hv b2 => by
            rw [HE.out]
            have h1 := (hP.out.below b2).set (o' := ⟨o.area, max o.gen g, o.top, o.best⟩) (i := 2) (x := .int .u64 ((max o.gen g : Nat) : Int)) HPE.out.symm rfl rfl
            have h2 := h1.set (o' := ⟨(k : Int), max o.gen g, o.top, o.best⟩) (i := 1) (x := .int .i64 (k : Int)) HPE.out.symm rfl rfl
            exact ⟨h2.i, own_set (own_set (own_base hv HPS.out) ⟨p, 2, none⟩ (Nat.lt_succ_self p) _) ⟨p, 1, none⟩ (Nat.lt_succ_self p) _, h2.b⟩
          have FIN := Lib.hid fin
          clear fin
          by_cases hneg : o.area < 0
          all_goals
            have hneg' : decide (o.area < 0) = decide (o.area < 0) := rfl
            clear hneg'
            go_wp2_with fail
            refine HR2.out.mono ?_
            rintro e w2 ⟨v2, rfl, hv, b2⟩
            have hP2 := hP.out.below b2
            have c1 : w2.cell? ⟨p, 1, none⟩ = some (.int .i64 o.area) := hP2.i.lg.c1
            have c2 : w2.cell? ⟨p, 2, none⟩ = some (.int .u64 (o.gen : Int)) := hP2.i.lg.c2
            have f1 := Has.frozen hP2.i.lg 1
            have f2 := Has.frozen hP2.i.lg 2
            have HF := Lib.hid (FIN.out v2 w2 hv b2)
            obtain ⟨A2, c2', rfl, -⟩ := Sg.SV.of_own hv
            clear hP2 hv b2
            have hor2 : 0 ≤ o.area → o.top < g := by omega
            clear hor
            go_wp2_with fail
            all_goals
              exact ⟨⟨k + 1, by omega, by go_num, by rw [HE.out], HF⟩, by simp [intOf]; omega⟩
        · have HE : Hid (ofold q s.last (k + 1) = ⟨o.area, max o.gen g, o.top, o.best⟩) := Lib.hid (HST.out.trans (if_neg hc))
          have FIN := Lib.hid (show ∀ (w2 : World), Below wr.heap.size wr w2 → OpI B p d L s (ofold q s.last (k + 1)) _ w0 w (w2.setCell ⟨p, 2, none⟩ (.int .u64 ((max o.gen g : Nat) : Int))) from fun w2 b2 => by
            rw [HE.out]
            exact (hP.out.below b2).set (o' := ⟨o.area, max o.gen g, o.top, o.best⟩) (i := 2) (x := .int .u64 ((max o.gen g : Nat) : Int)) HPE.out.symm rfl rfl)
          have hcc : rs.length = 0 ∨ (0 < rs.length ∧ 0 ≤ o.area ∧ ¬ o.top < g) := by
            by_cases hr : rs = []
            · left; rw [hr]; rfl
            · right
              refine ⟨List.length_pos_iff.2 hr, ?_, fun h => hc ⟨hr, .inr h⟩⟩
              rcases Int.lt_or_le o.area 0 with h | h
              · exact absurd ⟨hr, .inl h⟩ hc
              · exact h
          clear hc
          rcases hcc with hl0 | ⟨hl0, hna, hnt⟩
          all_goals
            go_wp2_with fail
            refine HR2.out.mono ?_
            rintro e w2 ⟨v2, rfl, hv, b2⟩
            have hP2 := hP.out.below b2
            have c1 : w2.cell? ⟨p, 1, none⟩ = some (.int .i64 o.area) := hP2.i.lg.c1
            have c2 : w2.cell? ⟨p, 2, none⟩ = some (.int .u64 (o.gen : Int)) := hP2.i.lg.c2
            have f2 := Has.frozen hP2.i.lg 2
            have HF := Lib.hid (FIN.out w2 b2)
            obtain ⟨A2, c2', rfl, -⟩ := Sg.SV.of_own hv
            clear hP2 hv b2
            go_wp2_with fail
            all_goals
              exact ⟨⟨k + 1, by omega, by go_num, by rw [HE.out], HF⟩, by simp [intOf]; omega⟩
    · obtain rfl : k = 2 := by omega
      have hk2 : ¬ ((2 : Int) < 2) := by omega
      have HOB := Lib.hid HOP.out
      generalize hoo : ofold q s.last 2 = o at *
      have HOO := Lib.hid hoo
      have c1 : wr.cell? ⟨p, 1, none⟩ = some (.int .i64 o.area) := hP.out.i.lg.c1
      have HLO := Lib.hid (show oL o = openL q s.last by unfold openL; rw [← HOP.out]; rfl)
      clear hoo
      by_cases hneg : o.area < 0
      · have HBE := Lib.hid (HK.out.best hneg)
        go_wp2_with fail
        refine bodyPost_ret (v := .tuple #[.pointer (some ⟨p, 0, none⟩), .string ⟨#[]⟩, .slice none 0 0, .int .i64 0]) (by simp [results, Tryd.results10, go_sem]) rfl ?_
        unfold OpenPost
        rw [← HOB.out, HBE.out, HPE.out, ← HLO.out]
        exact ⟨_, rfl, by rw [List.drop_nil]; exact ST.nil _, hP.out.i.lg, HPE.out ▸ hP.out.b⟩
      · have HBE := Lib.hid (HK.out.some_ (by omega))
        obtain ⟨A, c, rfl, hlc, hcm, -, hA, hst⟩ := ST.of_own hP.out.v
        have hl0 : 0 < o.best.length := List.length_pos_iff.2 HBE.out
        obtain ⟨b, off, cs, rfl, hcs, hci⟩ := hst hl0
        have hi : ∀ i, i < o.best.length → wr.cell? ⟨b, off + i, none⟩ = some (.string (bs (o.best.getD i []))) := fun i hil => by rw [hcs.cell]; exact hci i hil
        have HCS := Lib.hid hcs
        have HCI := Lib.hid hci
        clear hcs hci hst
        have i0 := hi 0 hl0
        rw [Nat.add_zero] at i0
        generalize hxx : o.best.getD 0 [] = x0 at i0
        have HXX := Lib.hid hxx
        clear hxx
        have y0 : wr.drew.cell? ⟨b, off, none⟩ = some (.string (bs x0)) := i0
        clear hi
        unfold maxLen at hcm
        have z0 : (0 : Int) < (o.best.length : Int) := by omega
        have z1 : (1 : Int) ≤ (o.best.length : Int) := by omega
        have z2 : (1 : Int) ≤ (c : Int) := by omega
        have z3 : (o.best.length : Int) ≤ (c : Int) := by omega
        have HL1 := Lib.hid (show (o.best.drop 1).length = o.best.length - 1 by simp)
        by_cases hc1 : c = 1
        · subst hc1
          have hl1 : o.best.length = 1 := by omega
          go_wp2_with fail
          go_region
          go_wp2_with fail
          refine bodyPost_ret (v := .tuple #[.pointer (some ⟨p, 0, none⟩), .string (bs x0), .slice (some ⟨b, off, none⟩) 0 0, .int .i64 0]) (by simp [results, Tryd.results10, go_sem]) rfl ?_
          unfold OpenPost
          rw [← HOB.out, HPE.out, ← HLO.out, HXX.out]
          have he : o.best.drop 1 = [] := List.length_eq_zero_iff.1 (by rw [HL1.out, hl1])
          refine ⟨_, rfl, ?_, hP.out.drew.i.lg, HPE.out ▸ hP.out.drew.b⟩
          rw [he]
          exact ⟨_, 0, rfl, Nat.le_refl _, Nat.zero_le _, (fun h => by cases h), (fun a ha => ⟨b, off, (Option.some.inj ha).symm⟩), fun h => absurd h (Nat.lt_irrefl 0)⟩
        · go_wp2_with fail
          go_region
          go_wp2_with fail
          refine bodyPost_ret (v := .tuple #[.pointer (some ⟨p, 0, none⟩), .string (bs x0), .slice (some ⟨b, off + 1, none⟩) (o.best.length - 1) (c - 1), .int .i64 0]) (by simp [results, Tryd.results10, go_sem]) rfl ?_
          unfold OpenPost
          rw [← HOB.out, HPE.out, ← HLO.out, HXX.out]
          refine ⟨_, rfl, ?_, hP.out.drew.i.lg, HPE.out ▸ hP.out.drew.b⟩
          rw [← HL1.out]
          exact ⟨_, c - 1, rfl, by rw [HL1.out]; omega, by unfold maxLen; omega, (fun h => by cases h), (fun a ha => ⟨b, off + 1, (Option.some.inj ha).symm⟩), fun _ => ⟨b, off + 1, cs, rfl, HCS.out.drew, fun i hil => by
            rw [HL1.out] at hil
            have := HCI.out (i + 1) (by omega)
            rw [show off + 1 + i = off + (i + 1) by omega, this]
            congr 3
            simp only [List.getD_eq_getElem?_getD, List.getElem?_drop]
            rw [Nat.add_comm]⟩⟩
theorem Open_nil (w : World) : Calls Tryd.prog 10 #[.pointer none] w fun e w' => e = .returned (.tuple #[.pointer none, .string ⟨#[]⟩, .slice none 0 0, .int .i64 1]) ∧ w = w' := by
  go_enter Tryd.func10, Tryd.ntmps10
  go_wp2_with fail
  exact bodyPost_ret (v := .tuple #[.pointer none, .string ⟨#[]⟩, .slice none 0 0, .int .i64 1]) (by simp [results, Tryd.results10, go_sem]) rfl ⟨rfl, rfl⟩
set_option maxHeartbeats 1000000 in
theorem Open_off (B d L : Nat) (s : DSt) (hon : s.on = false) (w : World) (ho : One B d L s w) :
    Calls Tryd.prog 10 #[.pointer (some ⟨d, 0, none⟩)] w fun e w' => e = .returned (.tuple #[.pointer none, .string ⟨#[]⟩, .slice none 0 0, .int .i64 16]) ∧ w = w' := by
  have HON := Lib.hid (show Calls Tryd.prog 31 #[.pointer (some ⟨d, 0, none⟩)] w fun e w' => e = .returned (.bool false) ∧ w = w' from by
    obtain ⟨wv, hd⟩ := ho
    have := On_calls B d L wv s w hd
    rw [hon] at this
    exact this)
  clear hon ho
  go_enter Tryd.func10, Tryd.ntmps10
  go_wp2_with fail
  refine HON.out.mono ?_
  rintro e w1 ⟨rfl, rfl⟩
  go_wp2_with fail
  exact bodyPost_ret (v := .tuple #[.pointer none, .string ⟨#[]⟩, .slice none 0 0, .int .i64 16]) (by simp [results, Tryd.results10, go_sem]) rfl ⟨rfl, rfl⟩
set_option maxHeartbeats 1000000 in
theorem Open_few (B d L n : Nat) (s : DSt) (hg : Disk.Good n s) (h4 : n < 4) (hon : s.on = true) (w : World) (ho : One B d L s w) :
    Calls Tryd.prog 10 #[.pointer (some ⟨d, 0, none⟩)] w fun e w' => e = .returned (.tuple #[.pointer none, .string ⟨#[]⟩, .slice none 0 0, .int .i64 7]) ∧ w = w' := by
  have HON := Lib.hid (show Calls Tryd.prog 31 #[.pointer (some ⟨d, 0, none⟩)] w fun e w' => e = .returned (.bool true) ∧ w = w' from by
    obtain ⟨wv, hd⟩ := ho
    have := On_calls B d L wv s w hd
    rw [hon] at this
    exact this)
  have HBK := Lib.hid (show Calls Tryd.prog 32 #[.pointer (some ⟨d, 0, none⟩)] w fun e w' => e = .returned (.int .i64 (n : Int)) ∧ w = w' from by
    obtain ⟨wv, hd⟩ := ho
    have := Blocks_calls B d L wv s (by have := hg.len; omega) w hd
    rw [hg.len, show ((64 * n : Nat) : Int) / 64 = (n : Int) by omega] at this
    exact this)
  have hn4 : decide ((n : Int) < 4) = true := by simp; omega
  clear hon ho hg h4
  go_enter Tryd.func10, Tryd.ntmps10
  go_wp2_with fail
  refine HON.out.mono ?_
  rintro e w1 ⟨rfl, rfl⟩
  go_wp2_with fail
  refine HBK.out.mono ?_
  rintro e w1 ⟨rfl, rfl⟩
  go_wp2_with fail
  exact bodyPost_ret (v := .tuple #[.pointer none, .string ⟨#[]⟩, .slice none 0 0, .int .i64 7]) (by simp [results, Tryd.results10, go_sem]) rfl ⟨rfl, rfl⟩
end Go.Proofs.YtjnjcjildiadgaaDoor.Wl
