/- The walks of feed.Feed: Take, Rest, Err. -/
import Derived.Test.YtopacbmdoognjaaDoorFeedMath
import Derived.Test.YtopacbmdoognjaaDoorFeedRows
import Derived.Test.YtopacbmdoognjaaDoorSegS
import Derived.WalkMore
namespace Go.Proofs.YtopacbmdoognjaaDoor.Fd
open Go Go.RowKit Frame Oct Frm
/-- What a feed keeps, and its error, as a value. -/
def DV (q : List UInt8 × Int) : Value := .agg #[.string (bs q.1), .int .i64 q.2]
def take (q : List UInt8 × Int) (c : List UInt8) : (List UInt8 × Int) × List Fm := if q.2 ≠ 0 then (q, []) else ((all (q.1 ++ c)).2, (all (q.1 ++ c)).1)
theorem Rest_calls (q : List UInt8 × Int) (w : World) : Calls Tryd.prog 49 #[DV q] w fun e w' => e = .returned (.string (bs q.1)) ∧ Below w.heap.size w w' := by
  unfold DV
  go_enter Tryd.func49, Tryd.ntmps49
  go_wp2
  go_ret
  exact ⟨rfl, (Below.refl _ _).alloc (Nat.le_refl _) _⟩
theorem Err_calls (q : List UInt8 × Int) (w : World) : Calls Tryd.prog 50 #[DV q] w fun e w' => e = .returned (.int .i64 q.2) ∧ Below w.heap.size w w' := by
  unfold DV
  go_enter Tryd.func50, Tryd.ntmps50
  go_wp2
  go_ret
  exact ⟨rfl, (Below.refl _ _).alloc (Nat.le_refl _) _⟩
structure TakeI (W : World) (s : List UInt8) (done : List Fm) (r : List UInt8) (out : Value) (w : World) : Prop where
  all : Fd.all s = (done ++ (Fd.all r).1, (Fd.all r).2)
  below : Below W.heap.size W w
  f0 : Has W.heap.size #[.string (bs r), .int .i64 0] 67 w
  f1 : Has (W.heap.size + 1) #[.string ⟨#[]⟩, .int .i64 0] 67 w
  own : w.ownsRow (W.heap.size + 1 + 1) 35 3 out done.length (fcs done)
theorem TakeI.below' {W w w' : World} {s r : List UInt8} {done : List Fm} {out : Value} (h : TakeI W s done r out w) (hb : Below w.heap.size w w') : TakeI W s done r out w' :=
  ⟨h.all, bthen h.below hb, h.f0.below hb, h.f1.below hb, Sg.own_below h.own hb⟩
theorem TakeI.step {W w w' : World} {s r : List UInt8} {done : List Fm} {x : Fm} {n : Nat} {out out' : Value} {row : Option Nat} (h : TakeI W s done r out w) (hg : w.grownBy w' row) (hrow : ∀ g, row = some g → W.heap.size + 1 + 1 ≤ g)
    (hp : parse r = (x, n, 0)) (ho : w'.ownsRow (W.heap.size + 1 + 1) 35 3 out' (done.length + 1) (fcs done ++ fcs1 x)) :
    TakeI W s (done ++ [x]) (r.drop n) out' (w'.setCell ⟨W.heap.size, 0, none⟩ (.string (bs (r.drop n)))) := by
  have hne : out'.ownBlock ≠ some W.heap.size := fun e => by have := (ho.lt _ e).1; omega
  have h0 := has_grown h.f0 hg (fun e => by have := hrow _ e.symm; omega)
  have h1 := has_grown h.f1 hg (fun e => by have := hrow _ e.symm; omega)
  refine ⟨?_, ?_, ?_, ?_, ?_⟩
  · rw [h.all, all_cons (s := r) (by rw [hp]), hp]
    simp
  · exact (Sg.below_grown h.below hg h.below.size (fun g hg => by have := hrow g hg; omega)).setCell (p := ⟨W.heap.size, 0, none⟩) (Nat.le_refl _) _
  · have := h0.set (i := 0) (.string (bs (r.drop n)))
    simpa using this
  · exact h1.set_other (by simp) _
  · rw [List.length_append, fcs_append, fcs_one]
    exact ownsRow_setCell_other ho (a := ⟨W.heap.size, 0, none⟩) hne _
set_option maxRecDepth 100000 in
set_option maxHeartbeats 1000000 in
theorem Take_calls (q : List UInt8 × Int) (c : List UInt8) (hq : q.1.length + c.length ≤ 1000000) (w : World) (hT : Crc.Tab w) :
    Calls Tryd.prog 46 #[DV q, .string (bs c)] w fun e w' => ∃ v, e = .returned (.tuple #[DV (take q c).1, v]) ∧ FL v (take q c).2 w' ∧ (∀ g, v.ownBlock = some g → w.heap.size ≤ g) ∧ Below w.heap.size w w' := by
  obtain ⟨p, er⟩ := q
  simp only at hq
  have hzp : (bs p).size = p.length := bs_size _
  have hzc : (bs c).size = c.length := bs_size _
  unfold DV
  simp only
  by_cases he : er ≠ 0
  · have HE := Lib.hid (show take (p, er) c = ((p, er), []) from if_pos he)
    have he' : (er != 0) = true := by simpa using he
    clear he
    go_enter Tryd.func46, Tryd.ntmps46
    go_wp2_with fail
    go_step3
    go_wp2_with fail
    rw [Exit.noGoto_ret]
    refine bodyPost_ret (v := .tuple #[.agg #[.string (bs p), .int .i64 er], .slice none 0 0]) (by simp [results, Tryd.results46, go_sem]) rfl ?_
    rw [HE.out]
    refine ⟨_, rfl, FL.nil _, (fun g h => by simp [Value.ownBlock] at h), ?_⟩
    exact ((Below.refl w.heap.size w).alloc (by simp) _).alloc (by simp) _
  · obtain rfl : er = 0 := by simpa using he
    clear he
    have HE := Lib.hid (show take (p, 0) c = ((all (p ++ c)).2, (all (p ++ c)).1) from if_neg (by simp))
    have hap : bs p ++ bs c = bs (p ++ c) := bs_append _ _
    have hcc : p.length + c.length ≤ 9223372036854775807 := by omega
    have hsl : (p ++ c).length ≤ 1000000 := by rw [List.length_append]; omega
    generalize hs : p ++ c = s at *
    have HI : Hid (TakeI w s [] s (.slice none 0 0) ((w.alloc (.cells #[.string (bs s), .int .i64 0] 67)).alloc (.cells #[.string ⟨#[]⟩, .int .i64 0] 67))) := Lib.hid (by
      have HA1 := Has.new (w.alloc (.cells #[.string (bs s), .int .i64 0] 67)) #[.string ⟨#[]⟩, .int .i64 0] 67
      rw [show (w.alloc (.cells #[.string (bs s), .int .i64 0] 67)).heap.size = w.heap.size + 1 by simp] at HA1
      exact ⟨rfl, ((Below.refl w.heap.size w).alloc (Nat.le_refl _) _).alloc (by simp) _, (Has.new w _ _).alloc _, HA1, World.ownsRow_nil _ _ _ _⟩)
    obtain ⟨i0, hi0, hz0, hz1, hz2⟩ := info_parts infoF
    go_enter Tryd.func46, Tryd.ntmps46
    go_wp2_with fail
    go_step3
    go_wp2_with fail
    go_step3
    go_wp2_with fail
    generalize (w.alloc (.cells #[.string (bs s), .int .i64 0] 67)).alloc (.cells #[.string ⟨#[]⟩, .int .i64 0] 67) = w1 at *
    have HT := Lib.hid hT
    clear hT
    go_loopw [6] (fun out wr => ∃ (done : List Fm) (r : List UInt8), done.length + r.length ≤ s.length ∧ Hid (TakeI w s done r out wr)) (fun _ wr => restAt w.heap.size wr)
    case atStart => exact ⟨[], s, by simp, HI⟩
    case round =>
      obtain ⟨done, r, hdr, hI⟩ := hrel
      clear HI
      have a0 := hI.out.f0.cell 0
      have a1 := hI.out.f0.cell 1
      have hzr : (bs r).size = r.length := bs_size _
      have hlt0 := hI.out.f0.lt
      have hlt1 := hI.out.f1.lt
      have HTr := Lib.hid (HT.out.below hI.out.below)
      have HP := Lib.hid (fun W h => Parse_calls r (by omega) W h)
      have HPN := Lib.hid (parse_n (l := r))
      generalize hpr : parse r = pr at *
      have HPR := Lib.hid hpr
      clear hpr
      obtain ⟨x, n, e⟩ := pr
      unfold FV at HP
      simp only at HP HPN
      go_wp2_with fail
      refine (HP.out _ HTr.out).mono ?_
      rintro e0 w2 ⟨rfl, b2⟩
      have HI3 := Lib.hid ((hI.out.below' b2).below' ((Below.refl w2.heap.size w2).alloc (Nat.le_refl _) (.cells #[.int .u8 x.ch.toNat, .int .u8 x.kd.toNat, .string (bs x.body)] 35)))
      have HX3 := Lib.hid (Has.new w2 #[.int .u8 x.ch.toNat, .int .u8 x.kd.toNat, .string (bs x.body)] 35)
      have hs2 := b2.size
      clear b2 a0 a1
      have a0 := HI3.out.f0.cell 0
      have a1 := HI3.out.f0.cell 1
      have x0 := HX3.out.cell 0
      have x1 := HX3.out.cell 1
      have x2 := HX3.out.cell 2
      have t0 := HI3.out.f1.cell 0
      have t1 := HI3.out.f1.cell 1
      have tf := HI3.out.f1.frozen
      have af := HI3.out.f0.frozen
      by_cases he0 : e = 0
      · subst he0
        obtain ⟨hn9, hnl, -⟩ := HPN.out rfl
        have hext : (bs r).extract n r.length = bs (r.drop n) := extract_from _ _
        have HI4 := Lib.hid (HI3.out.below' ((Below.refl _ _).alloc (Nat.le_refl _) (.cells #[.int .u8 x.ch.toNat, .int .u8 x.kd.toNat, .string (bs x.body)] 35)))
        have HS4 := Lib.hid (FrS.one (Has.new (w2.alloc (.cells #[.int .u8 x.ch.toNat, .int .u8 x.kd.toNat, .string (bs x.body)] 35)) #[.int .u8 x.ch.toNat, .int .u8 x.kd.toNat, .string (bs x.body)] 35))
        rw [show (w2.alloc (.cells #[.int .u8 x.ch.toNat, .int .u8 x.kd.toNat, .string (bs x.body)] 35)).heap.size = w2.heap.size + 1 by simp] at HS4
        have hm0 := Lib.hid (restAt_eq hI.out.f0)
        have hne0 := Lib.hid (restAt_eq HI4.out.f0)
        have hpar := Lib.hid (HPR.out)
        have tok : True := trivial
        go_wp2_with (at_builtin; have _t := tok; refine wpList_append_own _ rfl _ _ 68 rfl (w.heap.size + 1 + 1) 35 i0 _ 3 24 Tryd.underlying68 hi0 hz0 hz1 hz2 rfl (by decide) _ _ _ rfl HI4.out.own ⟨w2.heap.size + 1, 0, none⟩ 1 1 (fcs [x]) rfl (fcs_length [x]) ?c1 ?c2 ?c3 ?c4 ?c5 ?_; clear _t tok)
        case c1 => exact HS4.out.cells _ rfl
        case c2 => exact fcs_oneCell [x]
        case c3 => unfold maxLen; omega
        case c4 => omega
        case c5 => have := HI4.out.below.size; have := HI4.out.f1.lt; omega
        intro v' w5 hown' hgrow _
        have h0 := has_grown HI4.out.f0 hgrow (fun e => by have := (HI4.out.own.lt _ e.symm).1; omega)
        rw [fcs_one] at hown'
        have HI5 := Lib.hid (HI4.out.step hgrow (fun g hg => (HI4.out.own.lt g hg).1) hpar.out hown')
        clear a0 a1 af
        have a0 := h0.cell 0
        have af := h0.frozen
        clear hown' hgrow h0
        go_wp2_with fail
        have hm1 := restAt_eq HI5.out.f0
        rw [List.length_drop] at hm1
        refine ⟨⟨done ++ [x], r.drop n, ?_, HI5⟩, ?_⟩
        · simp; omega
        · rw [hm0.out, hm1]; omega
      · have HM := Lib.hid (fun r' (e' : Int) (h : (all r) = ([], r', e')) => show all s = (done, r', e') from by rw [hI.out.all, h]; simp)
        by_cases he3 : e = 3
        · subst he3
          have HF := Lib.hid (HM.out r 0 (all_short (by rw [HPR.out])))
          clear HM HPN he0
          go_wp2_with fail
          rw [Exit.noGoto_ret]
          refine bodyPost_ret (v := .tuple #[.agg #[.string (bs r), .int .i64 0], u6]) (by simp [results, Tryd.results46, go_sem, t0, t1]) rfl ?_
          rw [HE.out, HF.out]
          refine ⟨_, rfl, FL.of_own (ownsRow_setCell_other (ownsRow_setCell_other HI3.out.own (a := ⟨w.heap.size + 1, 0, none⟩) (fun e => by have := (HI3.out.own.lt _ e).1; simp at this; omega) _) (a := ⟨w.heap.size + 1, 1, none⟩) (fun e => by have := (HI3.out.own.lt _ e).1; simp at this; omega) _), (fun g h => by have := (HI3.out.own.lt _ h).1; omega), ?_⟩
          exact (HI3.out.below.setCell (p := ⟨w.heap.size + 1, 0, none⟩) (by simp) _).setCell (p := ⟨w.heap.size + 1, 1, none⟩) (by simp) _
        · have he0' : (e == 0) = false := by simpa using he0
          have he3' : (e == 3) = false := by simpa using he3
          have HF := Lib.hid (HM.out [] e (by rw [all_err (by rw [HPR.out]; exact he3) (by rw [HPR.out]; exact he0), HPR.out]))
          clear HM HPN he0 he3
          go_wp2_with fail
          rw [Exit.noGoto_ret]
          refine bodyPost_ret (v := .tuple #[.agg #[.string ⟨#[]⟩, .int .i64 e], u6]) (by simp [results, Tryd.results46, go_sem, t0, t1]) rfl ?_
          rw [HE.out, HF.out]
          have hne : ∀ k, k ≤ w.heap.size + 1 → u6.ownBlock ≠ some k := fun k hk e => by have := (HI3.out.own.lt _ e).1; omega
          refine ⟨_, rfl, FL.of_own (ownsRow_setCell_other (ownsRow_setCell_other (ownsRow_setCell_other (ownsRow_setCell_other HI3.out.own (a := ⟨w.heap.size, 0, none⟩) (hne _ (by simp)) _) (a := ⟨w.heap.size, 1, none⟩) (hne _ (by simp)) _) (a := ⟨w.heap.size + 1, 0, none⟩) (hne _ (by simp)) _) (a := ⟨w.heap.size + 1, 1, none⟩) (hne _ (by simp)) _), (fun g h => by have := (HI3.out.own.lt _ h).1; omega), ?_⟩
          exact ((((HI3.out.below.setCell (p := ⟨w.heap.size, 0, none⟩) (by simp) _).setCell (p := ⟨w.heap.size, 1, none⟩) (by simp) _).setCell (p := ⟨w.heap.size + 1, 0, none⟩) (by simp) _).setCell (p := ⟨w.heap.size + 1, 1, none⟩) (by simp) _)
end Go.Proofs.YtopacbmdoognjaaDoor.Fd
