/- The world of WalPlays: its block, stored to; the walk of its open. -/
import Derived.Test.YtjnjcjildiadgaaGreatDoorWalPlayMath
import Derived.Test.YtjnjcjildiadgaaGreatDoorWalOpens
import Derived.Test.YtjnjcjildiadgaaGreatDoorSegS
import Derived.Test.YtjnjcjildiadgaaGreatDoorWalR
import Derived.RegionTactic
import Derived.Deep.RegionWith
import Derived.BigRegion
namespace Go.Proofs.YtjnjcjildiadgaaGreatDoor.Wl
open Go Go.RowKit Frame Oct Disk
/-- A log, its disk, and the block of the world of WalPlays. -/
structure PC (B p d L b : Nat) (s : DSt) (l : LSt) (cs : Array Value) (W w : World) : Prop where
  i : Lw B p d L s l W w
  wb : Has b cs 37 w
  hb : B ≤ b
section
variable {B p d L b : Nat} {s : DSt} {l : LSt} {cs : Array Value} {W w w' : World}
theorem PC.below (h : PC B p d L b s l cs W w) (k : Below w.heap.size w w') : PC B p d L b s l cs W w' := ⟨h.i.below k, h.wb.below k, h.hb⟩
theorem PC.drew (h : PC B p d L b s l cs W w) : PC B p d L b s l cs W w.drew := h.below ((Below.refl _ _).drew)
theorem PC.set (h : PC B p d L b s l cs W w) (i : Nat) (v : Value) : PC B p d L b s l (cs.setIfInBounds i v) W (w.setCell ⟨b, i, none⟩ v) :=
  ⟨⟨h.i.one.set_other h.wb (by decide) (by decide) (by decide) v, Has.set_other h.i.lg (p := ⟨b, i, none⟩) (fun e => by
      have e' : b = p := e
      subst e'
      exact absurd (has_type h.i.lg h.wb) (by decide)) v, h.i.bel.setCell (p := ⟨b, i, none⟩) h.hb v, h.i.hp⟩, h.wb.set v, h.hb⟩
theorem PC.to {cs' : Array Value} (h : PC B p d L b s l cs W w) (e : cs = cs') : PC B p d L b s l cs' W w := e ▸ h
end
set_option maxHeartbeats 2000000 in
/-- Its log, and the document's, are told anew. -/
theorem PC.logs {B p d L b n : Nat} {s : DSt} {l : LSt} {q : DSt} {x1 y0 y1 y2 y3 y4 y5 y6 : Value} {W w : World}
    (h : PC B p d L b s l #[.pointer (some ⟨d, 0, none⟩), x1, .string (bs q.last), .slice none 0 0, .bool q.on, .bool q.armed, .int .i64 q.syncs, .int .i64 q.cut, y0, y1, y2, y3, y4, y5, y6] W w) :
    PC B p d L b s l (WCells d p n q l) W ((((((((w.setCell ⟨b, 1, none⟩ (.pointer (some ⟨p, 0, none⟩))).setCell ⟨b, 8, none⟩ (.int .i64 ((n / 2 : Nat) : Int))).setCell ⟨b, 9, none⟩ (.int .i64 l.area)).setCell ⟨b, 10, none⟩ (.int .u64 (l.gen : Int))).setCell ⟨b, 11, none⟩ (.bool l.ready)).setCell ⟨b, 12, none⟩ (.bool l.broken)).setCell ⟨b, 13, none⟩ (.string (bs l.done))).setCell ⟨b, 14, none⟩ (.string (bs l.wait))) :=
  ((((((((h.set 1 (.pointer (some ⟨p, 0, none⟩))).set 8 (.int .i64 ((n / 2 : Nat) : Int))).set 9 (.int .i64 l.area)).set 10 (.int .u64 (l.gen : Int))).set 11 (.bool l.ready)).set 12 (.bool l.broken)).set 13 (.string (bs l.done))).set 14 (.string (bs l.wait))).to rfl
theorem st_set8 {b : Nat} {cs : Array Value} {v : Value} {l : List (List UInt8)} {w : World} (k : ST v l w) (h : Has b cs 37 w) (v1 v2 v3 v4 v5 v6 v7 v8 : Value) :
    ST v l ((((((((w.setCell ⟨b, 1, none⟩ v1).setCell ⟨b, 8, none⟩ v2).setCell ⟨b, 9, none⟩ v3).setCell ⟨b, 10, none⟩ v4).setCell ⟨b, 11, none⟩ v5).setCell ⟨b, 12, none⟩ v6).setCell ⟨b, 13, none⟩ v7).setCell ⟨b, 14, none⟩ v8) :=
  k.map fun m cs' hm => by
    have hne : b ≠ m := fun e => by subst e; exact absurd (has_type hm h) (by decide)
    exact (((((((hm.set_other (p := ⟨b, 1, none⟩) hne v1).set_other (p := ⟨b, 8, none⟩) hne v2).set_other (p := ⟨b, 9, none⟩) hne v3).set_other (p := ⟨b, 10, none⟩) hne v4).set_other (p := ⟨b, 11, none⟩) hne v5).set_other (p := ⟨b, 12, none⟩) hne v6).set_other (p := ⟨b, 13, none⟩) hne v7).set_other (p := ⟨b, 14, none⟩) hne v8
set_option maxHeartbeats 1000000 in
theorem c15 {b : Nat} {x0 x1 x2 x3 x4 x5 x6 x7 x8 x9 x10 x11 x12 x13 x14 : Value} {t : TypeId} {w : World} (h : Has b #[x0, x1, x2, x3, x4, x5, x6, x7, x8, x9, x10, x11, x12, x13, x14] t w) :
    w.cell? ⟨b, 0, none⟩ = some x0 ∧ w.cell? ⟨b, 1, none⟩ = some x1 ∧ w.cell? ⟨b, 2, none⟩ = some x2 ∧ w.cell? ⟨b, 3, none⟩ = some x3 ∧ w.cell? ⟨b, 4, none⟩ = some x4 ∧ w.cell? ⟨b, 5, none⟩ = some x5 ∧ w.cell? ⟨b, 6, none⟩ = some x6 ∧ w.cell? ⟨b, 7, none⟩ = some x7 ∧ w.cell? ⟨b, 8, none⟩ = some x8 ∧ w.cell? ⟨b, 9, none⟩ = some x9 ∧ w.cell? ⟨b, 10, none⟩ = some x10 ∧ w.cell? ⟨b, 11, none⟩ = some x11 ∧ w.cell? ⟨b, 12, none⟩ = some x12 ∧ w.cell? ⟨b, 13, none⟩ = some x13 ∧ w.cell? ⟨b, 14, none⟩ = some x14 :=
  ⟨h.cell 0, h.cell 1, h.cell 2, h.cell 3, h.cell 4, h.cell 5, h.cell 6, h.cell 7, h.cell 8, h.cell 9, h.cell 10, h.cell 11, h.cell 12, h.cell 13, h.cell 14⟩
def WOpen (B d L b n : Nat) (s : DSt) (W : World) (e : Ending) (w' : World) : Prop :=
  e = .returned (.bool true) ∧ ∃ p, PC B p d L b s (openL (n / 2) s.last) (WCells d p n s (openL (n / 2) s.last)) W w'
set_option maxRecDepth 100000 in
set_option maxHeartbeats 2000000 in
theorem WOpen_calls (B d L b n : Nat) (s : DSt) (hg : Disk.Good n s) (hw : s.wait = []) (hon : s.on = true) (h4 : 4 ≤ n) (x1 m0 m1 m2 m3 m4 m5 m6 : Value) (W w : World) (hT : Crc.Tab W) (hTB : 0 < B) (hbel : Below B W w) (ho : One B d L s w) (hb : B ≤ b)
    (hwb : Has b #[.pointer (some ⟨d, 0, none⟩), x1, .string (bs s.last), .slice none 0 0, .bool s.on, .bool s.armed, .int .i64 s.syncs, .int .i64 s.cut, m0, m1, m2, m3, m4, m5, m6] 37 w) :
    Calls Tryz.prog 8 #[.pointer (some ⟨b, 0, none⟩)] w (WOpen B d L b n s W) := by
  have HOF := Lib.hid (Open_calls B d L n s hg hw hon h4 w w (tab_bel hT hTB hbel) hTB (Below.refl _ _) (Kept2.refl _) ho)
  have hn := hg.hn
  have HRO := Lib.hid (fun W' => rOpen_calls n s.last hg.len (by omega) (by omega) W')
  have HO := Lib.hid ho
  have HWB := Lib.hid hwb
  have HBL := Lib.hid hbel
  have HBB := Lib.hid hb
  have hlt := hwb.lt
  obtain ⟨y0, -⟩ := c15 hwb
  have HLE := Lib.hid (One.base_le ho)
  clear hg hw hon hT hTB hbel ho hb hwb h4 hn
  go_enter Tryz.func8, Tryz.ntmps8
  go_wp2_with fail
  refine HOF.out.mono ?_
  intro e w1 hop
  unfold OpenPost at hop
  obtain ⟨v1, rfl, hv1, hl1, b1⟩ := hop
  have HV1 := Lib.hid hv1
  have HP1 := Lib.hid (show PC B w.heap.size d L b s (openL (n / 2) s.last) _ W w1 from ⟨⟨HO.out.below b1, hl1, HBL.out.trans (b1.mono HLE.out), HLE.out⟩, HWB.out.below b1, HBB.out⟩)
  obtain ⟨Av, cv, rfl, -⟩ := id HV1.out
  clear hv1 hl1 b1 HOF HO HWB y0
  generalize w.heap.size = p at *
  obtain ⟨y0, -, y2, -⟩ := c15 HP1.out.wb
  go_wp2_with fail
  refine (HRO.out _).mono ?_
  intro e w2 hro
  unfold ROpenPost RL RC at hro
  obtain ⟨v2, rfl, hv2, b2⟩ := hro
  have HBA := Lib.hid (show Below w1.heap.size w1 (w2.alloc (.cells (RC (n / 2) (openL (n / 2) s.last)) 35)) from b2.alloc b2.size _)
  have HP2 := Lib.hid (HP1.out.below HBA.out)
  have HV2 := Lib.hid (HV1.out.below HBA.out)
  have HV3 := Lib.hid (hv2.below ((Below.refl _ _).alloc (Nat.le_refl _) (.cells (RC (n / 2) (openL (n / 2) s.last)) 35)))
  have HM := Lib.hid (show RB w2.heap.size (n / 2) (openL (n / 2) s.last) (w2.alloc (.cells (RC (n / 2) (openL (n / 2) s.last)) 35)) from Has.new w2 _ _)
  have hm2 : ¬ b = w2.heap.size := by have := Has.lt HP1.out.wb; have := b2.size; omega
  have hm3 : ¬ w2.heap.size = b := fun h => hm2 h.symm
  unfold RC at HP2 HV2 HV3 HM HBA
  obtain ⟨A7, c7, rfl, hlc7, hcm7, hn7, ha7, hst7⟩ := id hv2
  clear hv2 b2 HV1 HP1 HRO y0 y2 ha7 hst7 hlt
  generalize hlo : openL (n / 2) s.last = lo at *
  have HLO := Lib.hid hlo
  clear hlo
  generalize opened (n / 2) s.last = o at *
  generalize hqh : n / 2 = q at *
  have HQH := Lib.hid hqh
  clear hqh
  go_upto_region 3 with fail
  generalize w2.alloc (.cells #[.int .i64 (q : Int), .int .i64 lo.area, .int .u64 (lo.gen : Int), .bool lo.ready, .bool lo.broken, .string (bs lo.done), .string (bs lo.wait)] 35) = w3 at *
  generalize w2.heap.size = m at *
  obtain ⟨y0, y1, y2, y3, y4, y5, y6, y7, y8, y9, y10, y11, y12, y13, y14⟩ := c15 HP2.out.wb
  have yf := HP2.out.wb.frozen
  obtain ⟨u0, u1, u2, u3, u4, u5, u6⟩ := seven HM.out
  have uf := Has.frozen HM.out
  have HP4 := Lib.hid (PC.logs (n := n) HP2.out)
  rw [HQH.out] at HP4
  have HV4 := Lib.hid (st_set8 HV2.out HP2.out.wb (.pointer (some ⟨p, 0, none⟩)) (.int .i64 (q : Int)) (.int .i64 lo.area) (.int .u64 (lo.gen : Int)) (.bool lo.ready) (.bool lo.broken) (.string (bs lo.done)) (.string (bs lo.wait)))
  have HV5 := Lib.hid (st_set8 HV3.out HP2.out.wb (.pointer (some ⟨p, 0, none⟩)) (.int .i64 (q : Int)) (.int .i64 lo.area) (.int .u64 (lo.gen : Int)) (.bool lo.ready) (.bool lo.broken) (.string (bs lo.done)) (.string (bs lo.wait)))
  go_region
  clear y0 y1 y2 y3 y4 y5 y6 y7 y8 y9 y10 y11 y12 y13 y14 yf u0 u1 u2 u3 u4 u5 u6 uf HM HV2 HV3 HP2 hm2 hm3
  generalize (((((((w3.setCell ⟨b, 1, none⟩ (.pointer (some ⟨p, 0, none⟩))).setCell ⟨b, 8, none⟩ (.int .i64 (q : Int))).setCell ⟨b, 9, none⟩ (.int .i64 lo.area)).setCell ⟨b, 10, none⟩ (.int .u64 (lo.gen : Int))).setCell ⟨b, 11, none⟩ (.bool lo.ready)).setCell ⟨b, 12, none⟩ (.bool lo.broken)).setCell ⟨b, 13, none⟩ (.string (bs lo.done))).setCell ⟨b, 14, none⟩ (.string (bs lo.wait)) = w8 at *
  have HP9 := Lib.hid HP4.out.drew
  have HV8 := Lib.hid (HV4.out.below (Below.refl _ _).drew)
  have HV9 := Lib.hid (HV5.out.below (Below.refl _ _).drew)
  clear HP4 HV4 HV5
  generalize w8.drew = w9 at *
  have HWO := Lib.hid (fun w' (k : Below w9.heap.size w9 w') => show WOpen B d L b n s W (.returned (.bool true)) w' from ⟨rfl, p, by rw [HQH.out, HLO.out]; exact HP9.out.below k⟩)
  obtain ⟨oa, og, ot, ob⟩ := o
  simp only at HV8 HV9 hlc7 ⊢
  unfold maxLen at hcm7
  cases ob with
  | nil =>
    have he := Sg.bs_eq_empty [] rfl
    go_wp2_with fail
    go_ret
    exact HWO.out _ (Below.refl _ _)
  | cons r rest =>
    simp only [List.drop_succ_cons, List.drop_zero, List.length_cons] at HV8 HV9 hlc7
    have hs8 := st_ss HV8.out
    have hs9 := st_ss HV9.out
    obtain ⟨g, off', rfl, hbl, hi⟩ := hs9 (by simp)
    have i0 := hi 0 (by simp)
    rw [Nat.add_zero] at i0
    have y0 : w9.cell? ⟨g, off', none⟩ = some (.string (bs r)) := i0
    have HI := Lib.hid (show Sg.SS (some ⟨g, off' + 1, none⟩) rest w9 from by
      have := hs9.drop 1
      simpa using this)
    have hrl : rest.length + 1 ≤ 9223372036854775807 := by omega
    have HS8 := Lib.hid hs8
    clear hi i0 hs8 hs9
    have he : ((bs r).toList == (bs r).toList) = true := by simp
    by_cases hc1 : c7 = 1
    · subst hc1
      obtain rfl : rest = [] := List.length_eq_zero_iff.1 (by omega)
      have HSM := Lib.hid (Sg.Same_calls Av (some ⟨g, off', none⟩) cv 0 [] [] (by decide) (by decide) w9 HS8.out (Sg.SS.nil _ _))
      go_wp2_with fail
      refine HSM.out.mono ?_
      rintro e w10 ⟨rfl, b10⟩
      have B10 := Lib.hid b10
      clear b10
      go_wp2_with fail
      go_ret
      exact HWO.out _ B10.out
    · have HSM := Lib.hid (Sg.Same_calls Av (some ⟨g, off' + 1, none⟩) cv (c7 - 1) rest rest (by unfold maxLen; omega) (by unfold maxLen; omega) w9 HS8.out HI.out)
      rw [show decide (rest = rest) = true by simp] at HSM
      have z1 : (1 : Int) ≤ (rest.length : Int) + 1 := by omega
      have z2 : (rest.length : Int) + 1 ≤ (c7 : Int) := by omega
      have z3 : (1 : Int) ≤ (c7 : Int) := by omega
      go_wp2_with fail
      refine HSM.out.mono ?_
      rintro e w10 ⟨rfl, b10⟩
      have B10 := Lib.hid b10
      clear b10
      go_wp2_with fail
      go_ret
      exact HWO.out _ B10.out
end Go.Proofs.YtjnjcjildiadgaaGreatDoor.Wl
