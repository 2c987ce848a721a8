/- The walk of the document's Open. -/
import Derived.Test.YtjnjcjildiadgaaDoorWalRef
import Derived.Test.YtjnjcjildiadgaaDoorWalOpen
namespace Go.Proofs.YtjnjcjildiadgaaDoor.Wl
open Go Go.RowKit Frame Oct Disk
/-- The document's log, by value; in a block. -/
def RC (q : Nat) (l : LSt) : Array Value := #[.int .i64 (q : Int), .int .i64 l.area, .int .u64 (l.gen : Int), .bool l.ready, .bool l.broken, .string (bs l.done), .string (bs l.wait)]
def RL (q : Nat) (l : LSt) : Value := .agg (RC q l)
def RB (b q : Nat) (l : LSt) (w : World) : Prop := Has b (RC q l) 35 w
section
variable {b q : Nat} {l : LSt} {w : World}
theorem RB.c0 (h : RB b q l w) : w.cell? ⟨b, 0, none⟩ = some (.int .i64 (q : Int)) := Has.cell h 0
theorem RB.c1 (h : RB b q l w) : w.cell? ⟨b, 1, none⟩ = some (.int .i64 l.area) := Has.cell h 1
theorem RB.c2 (h : RB b q l w) : w.cell? ⟨b, 2, none⟩ = some (.int .u64 (l.gen : Int)) := Has.cell h 2
theorem RB.c3 (h : RB b q l w) : w.cell? ⟨b, 3, none⟩ = some (.bool l.ready) := Has.cell h 3
theorem RB.c4 (h : RB b q l w) : w.cell? ⟨b, 4, none⟩ = some (.bool l.broken) := Has.cell h 4
theorem RB.c5 (h : RB b q l w) : w.cell? ⟨b, 5, none⟩ = some (.string (bs l.done)) := Has.cell h 5
theorem RB.c6 (h : RB b q l w) : w.cell? ⟨b, 6, none⟩ = some (.string (bs l.wait)) := Has.cell h 6
end
def ROpenPost (q : Nat) (s : List UInt8) (w : World) (e : Ending) (w' : World) : Prop :=
  ∃ v, e = .returned (.tuple #[RL q (openL q s), v]) ∧ ST v (opened q s).best w' ∧ Below w.heap.size w w'
theorem extract_ar (s : List UInt8) (h a : Nat) : (bs s).extract (64 * (h * a)) (64 * (h * a) + 64 * h) = bs (ar s h a) := by
  apply ba_ext
  rw [bs_toList, ByteArray.data_extract, Array.toList_extract]
  show (s.drop _).take _ = _
  unfold ar
  congr 1
  omega
/-- What holds at each area. -/
structure ROI (z q : Nat) (o : Os) (v : Value) (w wr : World) : Prop where
  zz : Has z #[.int .i64 0, .int .i64 0, .int .u64 0, .bool false, .bool false, .string ⟨#[]⟩, .string ⟨#[]⟩] 35 wr
  i : RB (z + 1) q (oL o) wr
  v : wr.ownsRow (z + 2) 9 1 v o.best.length (Sg.cells o.best)
  b : Below w.heap.size w wr
theorem ROI.set {z q : Nat} {o o' : Os} {v : Value} {w wr : World} {i : Nat} {x : Value} (h : ROI z q o v w wr) (hz : z = w.heap.size) (hb : o'.best = o.best) (hc : RC q (oL o') = (RC q (oL o)).setIfInBounds i x) : ROI z q o' v w (wr.setCell ⟨z + 1, i, none⟩ x) :=
  ⟨h.zz.set_other (p := ⟨z + 1, i, none⟩) (by show z + 1 ≠ z; omega) x, by unfold RB; rw [hc]; exact Has.set h.i x, by rw [hb]; exact own_set h.v ⟨z + 1, i, none⟩ (by show z + 1 < z + 2; omega) x, h.b.setCell (p := ⟨z + 1, i, none⟩) (by show _ ≤ z + 1; omega) x⟩
theorem ROI.below {z q : Nat} {o : Os} {v : Value} {w wr w' : World} (h : ROI z q o v w wr) (hb : Below wr.heap.size wr w') : ROI z q o v w w' :=
  ⟨h.zz.below hb, Has.below h.i hb, Sg.own_below h.v hb, bthen h.b hb⟩
set_option maxRecDepth 100000 in
set_option maxHeartbeats 2000000 in
theorem rOpen_calls (n : Nat) (s : List UInt8) (hs : s.length = 64 * n) (h2 : 2 ≤ n) (hn : n ≤ 4096) (w : World) :
    Calls Tryd.prog 12 #[.string (bs s)] w (ROpenPost (n / 2) s w) := by
  have hzs : (bs s).size = s.length := bs_size _
  have hq : (s.length : Int) / 128 = ((n / 2 : Nat) : Int) := by omega
  have hq1 : 1 ≤ n / 2 := by omega
  have hq2 : n / 2 ≤ 2048 := by omega
  have hqs : 64 * (2 * (n / 2)) ≤ s.length := by omega
  have hsl : s.length ≤ 262144 := by omega
  have HST := Lib.hid (show ROI w.heap.size (n / 2) o0 (.slice none 0 0) w ((w.alloc (.cells #[.int .i64 0, .int .i64 0, .int .u64 0, .bool false, .bool false, .string ⟨#[]⟩, .string ⟨#[]⟩] 35)).alloc (.cells (RC (n / 2) (oL o0)) 35)) from by
    refine ⟨(Has.new w _ _).alloc _, ?_, World.ownsRow_nil _ _ _ _, ((Below.refl _ _).alloc (Nat.le_refl _) _).alloc (by simp) _⟩
    have := Has.new (w.alloc (.cells #[.int .i64 0, .int .i64 0, .int .u64 0, .bool false, .bool false, .string ⟨#[]⟩, .string ⟨#[]⟩] 35)) (RC (n / 2) (oL o0)) 35
    rw [World.size_alloc] at this
    exact this)
  have HOP := Lib.hid (opened_fold (n / 2) s)
  generalize n / 2 = q at *
  unfold RC at HST
  clear hs h2 hn
  go_enter Tryd.func12, Tryd.ntmps12
  go_wp2_with fail
  change Code.wp _ _ _ _ ((w.alloc (.cells #[.int .i64 0, .int .i64 0, .int .u64 0, .bool false, .bool false, .string ⟨#[]⟩, .string ⟨#[]⟩] 35)).alloc (.cells #[.int .i64 (q : Int), .int .i64 (oL o0).area, .int .u64 ((oL o0).gen : Int), .bool (oL o0).ready, .bool (oL o0).broken, .string (bs (oL o0).done), .string (bs (oL o0).wait)] 35))
  generalize (w.alloc (.cells #[.int .i64 0, .int .i64 0, .int .u64 0, .bool false, .bool false, .string ⟨#[]⟩, .string ⟨#[]⟩] 35)).alloc (.cells #[.int .i64 (q : Int), .int .i64 (oL o0).area, .int .u64 ((oL o0).gen : Int), .bool (oL o0).ready, .bool (oL o0).broken, .string (bs (oL o0).done), .string (bs (oL o0).wait)] 35) = w1 at *
  generalize hzz : w.heap.size = z at HST ⊢
  have HZZ := Lib.hid hzz
  clear hzz hq
  go_loopw [6, 7, 8] (fun v x i wr => ∃ k : Nat, k ≤ 2 ∧ i = .int .i64 k ∧ x = .int .u64 ((ofold q s k).top : Int) ∧ Hid (ROI z q (ofold q s k) v w wr)) (fun _ _ i _ => 2 - (intOf i).toNat)
  case atStart => exact ⟨0, by omega, rfl, rfl, HST⟩
  case round =>
    obtain ⟨k, hk, rfl, rfl, hP⟩ := hrel
    clear HST
    have HK := Lib.hid (ofold_ok q s k)
    by_cases hlt : k < 2
    · have hqk : q * k ≤ q := by have := Nat.mul_le_mul_left q (show k ≤ 1 by omega); omega
      have HAR := Lib.hid (fun W => Area_calls (ar s q k) (by rw [ar_length _ _ _ (by omega)]; omega) (by rw [ar_length _ _ _ (by omega)]; omega) W)
      have hext := extract_ar s q k
      have HST := Lib.hid (show ofold q s (k + 1) = ostep (k : Int) (rd (ar s q k)) (ofold q s k) from rfl)
      have HRL := Lib.hid (fun g rs (h : rd (ar s q k) = some (g, rs)) => rd_lt h)
      have hm : 64 * (q : Int) * (k : Int) = ((64 * (q * k) : Nat) : Int) := by rw [Int.mul_assoc]; rfl
      have hmq : 64 * (q * k) ≤ 64 * q := by omega
      generalize ar s q k = A at *
      generalize 64 * (q * k) = m at *
      have w1 : IntKind.i64.wrap (64 * (q : Int) * (k : Int)) = (m : Int) := by rw [hm]; exact IntWalk.i64_in _ (by omega)
      have j1 : (m : Int) + 64 * (q : Int) ≤ (s.length : Int) := by omega
      have j2 : ((m : Int) + 64 * (q : Int)).toNat = m + 64 * q := by omega
      clear hm hqk
      generalize rd A = r at *
      generalize hoo : ofold q s k = o at *
      clear hoo
      have hk2 : (k : Int) < 2 := by omega
      have c1 := hP.out.i.c1
      have c2 := hP.out.i.c2
      have HPS := Lib.hid (show z + 2 ≤ wr.heap.size from Has.lt hP.out.i)
      go_wp2_with fail
      refine (HAR.out _).mono ?_
      intro e w2 hrd
      unfold RdPost at hrd
      cases r with
      | none =>
        have HE : Hid (ofold q s (k + 1) = o) := Lib.hid HST.out
        obtain ⟨v2, rfl, -, b2⟩ := hrd
        have HP2 := Lib.hid (hP.out.below b2)
        rw [← HE.out] at HP2
        clear b2 c1 c2
        go_wp2_with fail
        exact ⟨⟨k + 1, by omega, by go_num, by rw [HE.out], HP2⟩, by simp [intOf]; omega⟩
      | some gr =>
        obtain ⟨g, rs⟩ := gr
        have hrd2 : ∃ v, e = .returned (.tuple #[.int .u64 (g : Int), v, .bool true]) ∧ w2.ownsRow wr.heap.size 9 1 v rs.length (Sg.cells rs) ∧ Below wr.heap.size wr w2 := hrd
        obtain ⟨v2, rfl, hv, b2⟩ := hrd2
        have HGL := Lib.hid (HRL.out g rs rfl)
        have HA := Lib.hid HK.out.area
        clear hrd HRL c1 c2
        have hP2 := hP.out.below b2
        have c1 : w2.cell? ⟨z + 1, 1, none⟩ = some (.int .i64 o.area) := hP2.i.c1
        have c2 : w2.cell? ⟨z + 1, 2, none⟩ = some (.int .u64 (o.gen : Int)) := hP2.i.c2
        have f1 := Has.frozen hP2.i 1
        have f2 := Has.frozen hP2.i 2
        have HV := Lib.hid hv
        have HP2 := Lib.hid hP2
        obtain ⟨A2, c2', rfl, -⟩ := Sg.SV.of_own hv
        clear hP2 hv b2
        have fin2 : ROI z q ⟨o.area, max o.gen g, o.top, o.best⟩ u6 w (if o.gen < g then w2.setCell ⟨z + 1, 2, none⟩ (.int .u64 (g : Int)) else w2) := by
          by_cases hg : o.gen < g
          · rw [if_pos hg]
            have hmx : max o.gen g = g := by omega
            rw [hmx]
            exact HP2.out.set (o' := ⟨o.area, g, o.top, o.best⟩) (i := 2) (x := .int .u64 (g : Int)) HZZ.out.symm rfl rfl
          · rw [if_neg hg]
            have hmx : max o.gen g = o.gen := by omega
            rw [hmx]
            exact HP2.out
        have FIN2 := Lib.hid fin2
        clear fin2
        by_cases hc : rs ≠ [] ∧ (o.area < 0 ∨ o.top < g)
        · have HE : Hid (ofold q s (k + 1) = ⟨(k : Int), max o.gen g, g, rs⟩) := Lib.hid (HST.out.trans (if_pos hc))
          obtain ⟨hr, hor⟩ := hc
          have hl0 : 0 < rs.length := List.length_pos_iff.2 hr
          clear hr
          have fin : ∀ w3, ROI z q ⟨o.area, max o.gen g, o.top, o.best⟩ u6 w w3 → (w3.ownsRow (z + 2) 9 1 (.slice A2 rs.length c2') rs.length (Sg.cells rs)) → ROI z q (ofold q s (k + 1)) (.slice A2 rs.length c2') w (w3.setCell ⟨z + 1, 1, none⟩ (.int .i64 (k : Int))) := fun w3 h3 hv3 => by
            rw [HE.out]
            have h2 := h3.set (o' := ⟨(k : Int), max o.gen g, o.top, o.best⟩) (i := 1) (x := .int .i64 (k : Int)) HZZ.out.symm rfl rfl
            exact ⟨h2.zz, h2.i, own_set hv3 ⟨z + 1, 1, none⟩ (by show z + 1 < z + 2; omega) _, h2.b⟩
          have FIN := Lib.hid fin
          clear fin
          have hor2 : 0 ≤ o.area → o.top < g := by omega
          by_cases hg : o.gen < g
          · have HF := Lib.hid (FIN.out _ (by have := FIN2.out; rw [if_pos hg] at this; exact this) (own_set (own_base HV.out HPS.out) ⟨z + 1, 2, none⟩ (by show z + 1 < z + 2; omega) _))
            by_cases hneg : o.area < 0
            all_goals
              clear hor
              go_wp2_with fail
              all_goals
                exact ⟨⟨k + 1, by omega, by go_num, by rw [HE.out], HF⟩, by simp [intOf]; omega⟩
          · have HF := Lib.hid (FIN.out _ (by have := FIN2.out; rw [if_neg hg] at this; exact this) (own_base HV.out HPS.out))
            by_cases hneg : o.area < 0
            all_goals
              clear hor
              go_wp2_with fail
              all_goals
                exact ⟨⟨k + 1, by omega, by go_num, by rw [HE.out], HF⟩, by simp [intOf]; omega⟩
        · have HE : Hid (ofold q s (k + 1) = ⟨o.area, max o.gen g, o.top, o.best⟩) := Lib.hid (HST.out.trans (if_neg hc))
          have hcc : rs.length = 0 ∨ (0 < rs.length ∧ 0 ≤ o.area ∧ ¬ o.top < g) := by
            by_cases hr : rs = []
            · left; rw [hr]; rfl
            · right
              refine ⟨List.length_pos_iff.2 hr, ?_, fun h => hc ⟨hr, .inr h⟩⟩
              rcases Int.lt_or_le o.area 0 with h | h
              · exact absurd ⟨hr, .inl h⟩ hc
              · exact h
          rw [← HE.out] at FIN2
          clear hc
          by_cases hg : o.gen < g
          · have HF := Lib.hid (by have := FIN2.out; rw [if_pos hg] at this; exact this)
            rcases hcc with hl0 | ⟨hl0, hna, hnt⟩
            all_goals
              go_wp2_with fail
              all_goals
                exact ⟨⟨k + 1, by omega, by go_num, by rw [HE.out], HF⟩, by simp [intOf]; omega⟩
          · have HF := Lib.hid (by have := FIN2.out; rw [if_neg hg] at this; exact this)
            rcases hcc with hl0 | ⟨hl0, hna, hnt⟩
            all_goals
              go_wp2_with fail
              all_goals
                exact ⟨⟨k + 1, by omega, by go_num, by rw [HE.out], HF⟩, by simp [intOf]; omega⟩
    · obtain rfl : k = 2 := by omega
      have hk2 : ¬ ((2 : Int) < 2) := by omega
      generalize hoo : ofold q s 2 = o at *
      have HLO := Lib.hid (show oL o = openL q s by unfold openL; rw [← HOP.out]; rfl)
      have HOB := Lib.hid HOP.out
      clear hoo HOP
      have c0 : wr.cell? ⟨z + 1, 0, none⟩ = some (.int .i64 (q : Int)) := hP.out.i.c0
      have c1 : wr.cell? ⟨z + 1, 1, none⟩ = some (.int .i64 o.area) := hP.out.i.c1
      have c2 : wr.cell? ⟨z + 1, 2, none⟩ = some (.int .u64 (o.gen : Int)) := hP.out.i.c2
      have c3 : wr.cell? ⟨z + 1, 3, none⟩ = some (.bool false) := hP.out.i.c3
      have c4 : wr.cell? ⟨z + 1, 4, none⟩ = some (.bool false) := hP.out.i.c4
      have c5 : wr.cell? ⟨z + 1, 5, none⟩ = some (.string ⟨#[]⟩) := hP.out.i.c5
      have c6 : wr.cell? ⟨z + 1, 6, none⟩ = some (.string ⟨#[]⟩) := hP.out.i.c6
      have z0 : wr.cell? ⟨z, 0, none⟩ = some (.int .i64 0) := hP.out.zz.cell 0
      have z1 : wr.cell? ⟨z, 1, none⟩ = some (.int .i64 0) := hP.out.zz.cell 1
      have z2 : wr.cell? ⟨z, 2, none⟩ = some (.int .u64 0) := hP.out.zz.cell 2
      have z3 : wr.cell? ⟨z, 3, none⟩ = some (.bool false) := hP.out.zz.cell 3
      have z4 : wr.cell? ⟨z, 4, none⟩ = some (.bool false) := hP.out.zz.cell 4
      have z5 : wr.cell? ⟨z, 5, none⟩ = some (.string ⟨#[]⟩) := hP.out.zz.cell 5
      have z6 : wr.cell? ⟨z, 6, none⟩ = some (.string ⟨#[]⟩) := hP.out.zz.cell 6
      have zf := hP.out.zz.frozen
      go_wp2_with fail
      refine bodyPost_ret (v := .tuple #[RL q (oL o), u6]) (by simp [results, Tryd.results12, go_sem, RL, RC, oL, z0, z1, z2, z3, z4, z5, z6]; rfl) rfl ?_
      unfold ROpenPost
      rw [← HLO.out, ← HOB.out]
      refine ⟨u6, rfl, ST.of_own (base := z + 2) (n := o.best.length) ?_, ?_⟩
      · exact own_set (own_set (own_set (own_set (own_set (own_set (own_set hP.out.v _ (by show z < z + 2; omega) _) _ (by show z < z + 2; omega) _) _ (by show z < z + 2; omega) _) _ (by show z < z + 2; omega) _) _ (by show z < z + 2; omega) _) _ (by show z < z + 2; omega) _) _ (by show z < z + 2; omega) _
      · have hz : w.heap.size ≤ z := by rw [HZZ.out]; exact Nat.le_refl _
        exact ((((((hP.out.b.setCell (p := ⟨z, 0, none⟩) hz _).setCell (p := ⟨z, 1, none⟩) hz _).setCell (p := ⟨z, 2, none⟩) hz _).setCell (p := ⟨z, 3, none⟩) hz _).setCell (p := ⟨z, 4, none⟩) hz _).setCell (p := ⟨z, 5, none⟩) hz _).setCell (p := ⟨z, 6, none⟩) hz _
end Go.Proofs.YtjnjcjildiadgaaDoor.Wl
