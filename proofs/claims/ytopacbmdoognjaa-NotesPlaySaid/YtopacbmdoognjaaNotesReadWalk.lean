/- The walk of notes.Read. -/
import Derived.Test.YtopacbmdoognjaaNotesRead
namespace Go.Proofs.Ytopacbmdoognjaa.Not
open Go Go.RowKit Frame Oct
theorem own_only {w w' : World} {B e size n b : Nat} {v : Value} {xs : List Value} (h : w.ownsRow B e size v n xs) (hb : Only b w w') (hB : b < B) : w'.ownsRow B e size v n xs := by
  obtain ⟨hlen, hv⟩ := h
  refine ⟨hlen, ?_⟩
  rcases hv with hv | ⟨g, cap, cur, rfl, hb', hg, hr⟩
  · exact .inl hv
  · exact .inr ⟨g, cap, cur, rfl, hb', (hb.block g (Has.lt (cs := cur) hg) (by omega)).trans hg, hr⟩
theorem loop_step {n : Nat} {q : St} {acc : List Nt} {L : List Nt × St} (hq : q.2 = 0) (h : L = (acc ++ (loop (n + 1) q).1, (loop (n + 1) q).2)) :
    L = ((acc ++ [⟨(inum q 8).1, UInt8.ofNat (inum (inum q 8).2 1).1, bs (itext (inum (inum q 8).2 1).2 64).1⟩]) ++ (loop n (itext (inum (inum q 8).2 1).2 64).2).1, (loop n (itext (inum (inum q 8).2 1).2 64).2).2) := by
  rw [h]
  conv => lhs; unfold loop
  rw [if_neg (by simp [hq])]
  simp
structure RdI (W : World) (b tot : Nat) (q : St) (p : Nat) (l : List Nt) (out : Value) (w : World) : Prop where
  only : Only b W w
  at_ : At b q w
  res : Has W.heap.size #[.int .u64 0, .slice none 0 0] 74 w
  n : Has p #[.int .u64 (tot : Int), out] 74 w
  own : w.ownsRow (p + 1) 76 3 out l.length (css l)
  pos : b < W.heap.size ∧ W.heap.size < p
theorem RdI.only' {W w w' : World} {b tot p : Nat} {q q' : St} {l : List Nt} {out : Value} (h : RdI W b tot q p l out w) (ha : At b q' w') (hb : Only b w w') : RdI W b tot q' p l out w' :=
  ⟨h.only.trans hb, ha, h.res.only hb (by have := h.pos; omega), h.n.only hb (by have := h.pos; omega), own_only h.own hb (by have := h.pos; omega), h.pos⟩
theorem RdI.below' {W w w' : World} {b tot p : Nat} {q : St} {l : List Nt} {out : Value} (h : RdI W b tot q p l out w) (hb : Below w.heap.size w w') : RdI W b tot q p l out w' :=
  ⟨h.only.below hb, Has.below h.at_ hb, h.res.below hb, h.n.below hb, own_below h.own hb, h.pos⟩
set_option maxRecDepth 100000 in
set_option maxHeartbeats 2000000 in
theorem Read_calls (b : Nat) (q : St) (hl : q.1.length ≤ 1000000) (w : World) (h : At b q w) :
    Calls Try.prog 61 #[.pointer (some ⟨b, 0, none⟩)] w fun e w' =>
      ∃ v, e = .returned (.agg #[.int .u64 ((readN q).1.1 : Int), v]) ∧ NS v (readN q).1.2 w' ∧ At b (readN q).2 w' ∧ Only b w w' ∧ ∀ g, v.ownBlock = some g → w.heap.size ≤ g := by
  obtain ⟨i0, hi0, hz0, hz1, hz2⟩ := info_parts infoN
  have hbw := h.lt
  have HA0 := Lib.hid (Has.alloc h (.cells #[.int .u64 0, .slice none 0 0] 74))
  have HR0 := Lib.hid (Has.new w #[.int .u64 0, .slice none 0 0] 74)
  have HO0 := Lib.hid ((Only.refl b w).alloc (.cells #[.int .u64 0, .slice none 0 0] 74))
  have HST := Lib.hid (show st0 q = if (mid q).2 ≠ 0 then mid q else if 32 < many0 q then fail (mid q) 6 else if many0 q ≠ min (tot0 q) 32 then fail (mid q) 7 else mid q from rfl)
  have HRD := Lib.hid (show readN q = if (loop (many0 q) (st0 q)).2.2 ≠ 0 then ((0, []), (loop (many0 q) (st0 q)).2) else ((tot0 q, (loop (many0 q) (st0 q)).1), (loop (many0 q) (st0 q)).2) from rfl)
  have hsl := st0_le q
  clear h
  go_enter Try.func61, Try.ntmps61
  go_wp2_with fail
  generalize w.alloc (.cells #[.int .u64 0, .slice none 0 0] 74) = w0 at *
  refine (Num_calls b q 8 (by unfold maxLen; omega) _ HA0.out).mono ?_
  rintro e w1 ⟨rfl, h1, o1⟩
  have hq1 := inum_le q 8
  have ht := inum_lt q 8
  have HB1 := Lib.hid ((Below.refl w1.heap.size w1).alloc (Nat.le_refl _) (.cells #[.int .u64 ((inum q 8).1 : Int), .slice none 0 0] 74))
  have HN1 := Lib.hid (Has.new w1 #[.int .u64 ((inum q 8).1 : Int), .slice none 0 0] 74)
  have HA1 := Lib.hid (Has.below h1 HB1.out)
  have HR1 := Lib.hid ((HR0.out.only o1 (by omega)).below HB1.out)
  have HO1 := Lib.hid ((HO0.out.trans o1).below HB1.out)
  have hpw : w.heap.size < w1.heap.size := by have := HR0.out.lt; have := o1.size; omega
  clear h1 o1 HA0 HR0 HO0
  go_wp2_with fail
  generalize w1.alloc (.cells #[.int .u64 ((inum q 8).1 : Int), .slice none 0 0] 74) = w1a at *
  generalize w1.heap.size = p at *
  refine (Num_calls b (inum q 8).2 1 (by unfold maxLen; omega) _ HA1.out).mono ?_
  rintro e w2 ⟨rfl, h2, o2⟩
  have HI2 := Lib.hid (show RdI w b (inum q 8).1 (inum (inum q 8).2 1).2 p [] (.slice none 0 0) w2 from ⟨HO1.out.trans o2, h2, HR1.out.only o2 (by omega), HN1.out.only o2 (by omega), World.ownsRow_nil _ _ _ _, hbw, hpw⟩)
  have hm := num1_lt (inum q 8).2
  clear h2 o2 HA1 HN1 HR1 HO1 HB1
  rw [show inum (inum q 8).2 1 = ((many0 q, mid q) : Nat × St) from rfl] at HI2 hm ⊢
  rw [show (inum q 8).1 = tot0 q from rfl] at HI2 ht ⊢
  simp only at HI2 hm ⊢
  go_wp2_with fail
  refine (Err_calls b (mid q) _ HI2.out.at_).mono ?_
  rintro e w3 ⟨rfl, rfl⟩
  have hml : (mid q).1.length ≤ 1000000 := by unfold mid; have := inum_le (inum q 8).2 1; omega
  generalize mid q = m at *
  generalize many0 q = many at *
  generalize tot0 q = tot at *
  generalize st0 q = st at *
  by_cases hA : m.2 ≠ 0
  case' pos =>
    have hA' : (m.2 != 0) = true := by simpa using hA
    have hst := HST.out.trans (if_pos hA)
    clear HST
    subst hst
    have HI3 := HI2
    clear HI2
    go_wp2_with fail
  case' neg =>
    have hA0 : m.2 = 0 := by simpa using hA
    have hA' : (m.2 != 0) = false := by simpa using hA
    have HS1 := Lib.hid (HST.out.trans (if_neg hA))
    clear HST
    by_cases hB : 32 < many
    case' pos =>
      have hst := HS1.out.trans (if_pos hB)
      clear HS1
      go_wp2_with fail
      refine (Fail_calls b m 6 _ HI2.out.at_).mono ?_
      rintro e w3 ⟨rfl, h3, o3⟩
      rw [← hst] at h3
      have HI3 := Lib.hid (HI2.out.only' h3 o3)
      clear h3 o3 HI2 hst
      go_wp2_with fail
    case' neg =>
      have HS2 := Lib.hid (HS1.out.trans (if_neg hB))
      clear HS1
      have n0 := HI2.out.n.cell 0
      by_cases hC : many ≠ min tot 32
      case' pos =>
        have hst := HS2.out.trans (if_pos hC)
        have hC' : ((many : Int) != min (tot : Int) 32) = true := bne_iff_ne.2 (by omega)
        clear HS2
        go_wp2_with fail
        refine (Fail_calls b m 7 _ HI2.out.at_).mono ?_
        rintro e w3 ⟨rfl, h3, o3⟩
        rw [← hst] at h3
        have HI3 := Lib.hid (HI2.out.only' h3 o3)
        clear h3 o3 HI2 hst n0
        go_wp2_with fail
      case' neg =>
        have hst := HS2.out.trans (if_neg hC)
        have hC' : ((many : Int) != min (tot : Int) 32) = false := by simp; omega
        clear HS2
        subst hst
        have HI3 := HI2
        clear HI2
        go_wp2_with fail
  all_goals
    clear hA
    have hsl2 : st.1.length ≤ 1000000 := by omega
    go_loopw [5] (fun kk wr => ∃ (j : Nat) (l : List Nt) (out : Value) (r : St), j ≤ many ∧ kk = .int .u64 j ∧ l.length = j ∧ r.1.length ≤ 1000000 ∧ Hid (loop many st = (l ++ (loop (many - j) r).1, (loop (many - j) r).2)) ∧ Hid (RdI w b tot r p l out wr)) (fun kk _ => many - (intOf kk).toNat)
    case atStart => exact ⟨0, [], _, st, by omega, rfl, rfl, hsl2, Lib.hid (by simp), HI3⟩
    case round =>
      obtain ⟨j, l, out, r, hj, rfl, hlj, hrl, hL, hI⟩ := hrel
      clear HI3
      have p0 := hI.out.n.cell 0
      have p1 := hI.out.n.cell 1
      have pl := hI.out.n.lt
      have r0 := hI.out.res.cell 0
      have r1 := hI.out.res.cell 1
      have rf := hI.out.res.frozen
      have hpos := hI.out.pos
      obtain ⟨A4, m4, c4, rfl⟩ := own_form hI.out.own
      have HEX : Hid (r.2 ≠ 0 ∨ j = many → loop many st = (l, r)) := Lib.hid (fun h => by
        rw [hL.out]
        rcases h with h | h
        · rw [loop_err h, List.append_nil]
        · rw [h, Nat.sub_self]
          simp [loop])
      by_cases hlt : j < many
      · by_cases hr : r.2 = 0
        · obtain ⟨n, hn⟩ : ∃ n, many - j = n + 1 := ⟨many - j - 1, by omega⟩
          have HS := Lib.hid (loop_step hr (by rw [← hn]; exact hL.out) : loop many st = _)
          rw [show n = many - (j + 1) by omega] at HS
          clear hn hL HEX
          have hr' : (r.2 == 0) = true := by rw [hr]; rfl
          have ha1 := inum_le r 8
          have hta := inum_lt r 8
          have ha2 := inum_le (inum r 8).2 1
          have htb := num1_lt (inum r 8).2
          have ha3 := itext_le (inum (inum r 8).2 1).2 64
          have HN1 := Lib.hid (fun W h => Num_calls b r 8 (by unfold maxLen; omega) W h)
          have HN2 := Lib.hid (fun W h => Num_calls b (inum r 8).2 1 (by unfold maxLen; omega) W h)
          have HN3 := Lib.hid (fun W h => Text_calls b (inum (inum r 8).2 1).2 64 (by unfold maxLen; omega) W h)
          have HER := Lib.hid (fun W h => Err_calls b r W h)
          rw [hr] at HER
          generalize itext (inum (inum r 8).2 1).2 64 = a3 at *
          generalize inum (inum r 8).2 1 = a2 at *
          generalize inum r 8 = a1 at *
          have hu8 : ((UInt8.ofNat a2.1).toNat : Int) = (a2.1 : Int) := by rw [UInt8.toNat_ofNat']; omega
          have HU8 := Lib.hid hu8
          clear hu8
          go_wp2_with fail
          refine (HER.out _ hI.out.at_).mono ?_
          rintro e w4 ⟨rfl, rfl⟩
          go_wp2_with fail
          refine (HN1.out _ hI.out.at_).mono ?_
          rintro e w4 ⟨rfl, h4, o4⟩
          have HI4 := Lib.hid (hI.out.only' h4 o4)
          clear h4 o4 p0 p1 r0 r1 rf
          go_wp2_with fail
          refine (HN2.out _ HI4.out.at_).mono ?_
          rintro e w5 ⟨rfl, h5, o5⟩
          have HI5 := Lib.hid (HI4.out.only' h5 o5)
          clear h5 o5 HI4
          have hb6 := (Below.refl w5.heap.size w5).alloc (Nat.le_refl _) (.cells #[.int .u64 (a1.1 : Int), .int .u8 (a2.1 : Int), .string ⟨#[]⟩] 76)
          have HI6 := Lib.hid (HI5.out.below' hb6)
          have HG6 := Lib.hid (Has.new w5 #[.int .u64 (a1.1 : Int), .int .u8 (a2.1 : Int), .string ⟨#[]⟩] 76)
          have hp5 := HI5.out.n.lt
          have hGo : ∀ g, (Value.slice A4 m4 c4).ownBlock = some g → g ≠ w5.heap.size := fun g hg => by have := (HI5.out.own.lt g hg).2; omega
          clear hb6 HI5
          go_wp2_with fail
          generalize w5.alloc (.cells #[.int .u64 (a1.1 : Int), .int .u8 (a2.1 : Int), .string ⟨#[]⟩] 76) = w6 at *
          generalize w5.heap.size = G at *
          refine (HN3.out _ HI6.out.at_).mono ?_
          rintro e w7 ⟨rfl, h7, o7⟩
          have HI7 := Lib.hid (HI6.out.only' h7 o7)
          have HG7 := Lib.hid (HG6.out.only o7 (by omega))
          clear h7 o7 HI6 HG6
          have g0 := HG7.out.cell 0
          have g1 := HG7.out.cell 1
          have g2 := HG7.out.cell 2
          have gf := HG7.out.frozen
          have gl := HG7.out.lt
          have HI8 := Lib.hid (show RdI w b tot a3.2 p l (.slice A4 m4 c4) (w7.setCell ⟨G, 2, none⟩ (.string (bs a3.1))) from
            ⟨HI7.out.only.setCell (.inr (by dsimp only; omega)) _, Has.set_other HI7.out.at_ (by dsimp only; omega) _, HI7.out.res.set_other (by dsimp only; omega) _, HI7.out.n.set_other (by dsimp only; omega) _,
              ownsRow_setCell_other HI7.out.own (a := ⟨G, 2, none⟩) (fun e => hGo G e rfl) _, HI7.out.pos⟩)
          have HG8 := Lib.hid (show Has G #[.int .u64 (a1.1 : Int), .int .u8 (a2.1 : Int), .string (bs a3.1)] 76 (w7.setCell ⟨G, 2, none⟩ (.string (bs a3.1))) by
            have := HG7.out.set (i := 2) (.string (bs a3.1))
            simpa using this)
          have hs8 : (w7.setCell ⟨G, 2, none⟩ (.string (bs a3.1))).heap.size = w7.heap.size := by simp [World.setCell]
          have hb9 := (Below.refl (w7.setCell ⟨G, 2, none⟩ (.string (bs a3.1))).heap.size (w7.setCell ⟨G, 2, none⟩ (.string (bs a3.1)))).alloc (Nat.le_refl _) (.cells #[.int .u64 (a1.1 : Int), .int .u8 (a2.1 : Int), .string (bs a3.1)] 76)
          have HI9 := Lib.hid (HI8.out.below' hb9)
          have hx9 := Has.new (w7.setCell ⟨G, 2, none⟩ (.string (bs a3.1))) #[.int .u64 (a1.1 : Int), .int .u8 (a2.1 : Int), .string (bs a3.1)] 76
          rw [hs8, ← HU8.out] at hx9
          have HX9 := Lib.hid (Nts.one (x := ⟨a1.1, UInt8.ofNat a2.1, bs a3.1⟩) hx9)
          rw [HU8.out] at HX9
          have p0 := HI8.out.n.cell 0
          have p1 := HI8.out.n.cell 1
          have y0 := HG8.out.cell 0
          have y1 := HG8.out.cell 1
          have y2 := HG8.out.cell 2
          have hlw : w.heap.size + 1 ≤ p := by omega
          have hs9 := HI9.out.n.lt
          clear hb9 hx9 HI7 HG7 g0 g1
          have tok : True := trivial
          go_wp2_with (at_builtin; have _t := tok; refine wpList_append_own _ rfl _ _ 71 rfl (p + 1) 76 i0 _ 3 32 Try.underlying71 hi0 hz0 hz1 hz2 rfl (by decide) (.slice A4 m4 c4) l.length (css l) rfl HI9.out.own ⟨w7.heap.size, 0, none⟩ 1 1 (css [⟨a1.1, UInt8.ofNat a2.1, bs a3.1⟩]) rfl (css_length [_]) ?c1 ?c2 ?c3 ?c4 ?c5 ?_; clear _t tok)
          case c1 => exact HX9.out.cells _ rfl
          case c2 => exact css_oneCell [_]
          case c3 => unfold maxLen; omega
          case c4 => omega
          case c5 => exact hs9
          intro v' wa hown' hgrow _
          have hrow : ∀ g, (Value.slice A4 m4 c4).ownBlock = some g → p + 1 ≤ g := fun g hg => (HI9.out.own.lt g hg).1
          have hna : ∀ k, k ≤ p → some k ≠ (Value.slice A4 m4 c4).ownBlock := fun k hk e => by have := hrow _ e.symm; omega
          have P10 := Lib.hid (has_grown HI9.out.n hgrow (hna _ (Nat.le_refl _)))
          have R10 := Lib.hid (has_grown HI9.out.res hgrow (hna _ (by omega)))
          have A10 := Lib.hid (has_grown HI9.out.at_ hgrow (hna _ (by omega)))
          have O10 : Hid (Only b w wa) := Lib.hid ⟨hgrow.os.trans HI9.out.only.os, hgrow.tape.trans HI9.out.only.tape, hgrow.output.trans HI9.out.only.output, Nat.le_trans HI9.out.only.size hgrow.size, fun k hk hne => (hgrow.block k (Nat.lt_of_lt_of_le hk HI9.out.only.size) (hna k (by omega))).trans (HI9.out.only.block k hk hne)⟩
          rw [← css_append] at hown'
          have W10 := Lib.hid hown'
          obtain ⟨A5, m5, c5, rfl⟩ := own_form hown'
          clear hown' hgrow p0 p1 y0 y1 y2
          have p0 := P10.out.cell 0
          have p1 := P10.out.cell 1
          have pf := P10.out.frozen
          have pl0 := P10.out.lt
          go_wp2_with fail
          refine ⟨⟨j + 1, l ++ [⟨a1.1, UInt8.ofNat a2.1, bs a3.1⟩], _, a3.2, by omega, by go_num, by simp [hlj], by omega, HS, Lib.hid ⟨O10.out.setCell (.inr (by dsimp only; omega)) _, Has.set_other A10.out (by dsimp only; omega) _, R10.out.set_other (by dsimp only; omega) _, setOne1 P10.out _, ?_, hpos⟩⟩, by simp [intOf]; omega⟩
          rw [List.length_append, hlj]
          exact ownsRow_setCell_other W10.out (a := ⟨p, 1, none⟩) (fun e => by have := (W10.out.lt _ e).1; simp at this; omega) _
        · have hr' : (r.2 == 0) = false := by simpa using hr
          have hr2 : (r.2 != 0) = true := by simpa using hr
          have HF := Lib.hid (HEX.out (.inl hr))
          have HR2 := Lib.hid (show readN q = ((0, []), r) by rw [HRD.out, HF.out, if_pos hr])
          clear HEX hL
          go_wp2_with fail
          refine (Err_calls b r _ hI.out.at_).mono ?_
          rintro e w4 ⟨rfl, rfl⟩
          go_wp2_with fail
          refine (Err_calls b r _ hI.out.at_).mono ?_
          rintro e w4 ⟨rfl, rfl⟩
          go_wp2_with fail
          refine bodyPost_ret (v := .agg #[.int .u64 0, .slice none 0 0]) (by simp [results, Try.results61, go_sem, r0, r1]) rfl ?_
          rw [HR2.out]
          exact ⟨_, rfl, NS.nil _, Has.set_other (Has.set_other hI.out.at_ (by dsimp only; omega) _) (by dsimp only; omega) _, (hI.out.only.setCell (.inr (by dsimp only; omega)) _).setCell (.inr (by dsimp only; omega)) _, fun g h => by simp [Value.ownBlock] at h⟩
      · obtain rfl : j = many := by omega
        have HF := Lib.hid (HEX.out (.inr rfl))
        have HER := Lib.hid (fun W h => Err_calls b r W h)
        clear HEX hL
        by_cases hr : r.2 = 0
        · have hr2 : (r.2 != 0) = false := by rw [hr]; rfl
          have HR2 := Lib.hid (show readN q = ((tot, l), r) by rw [HRD.out, HF.out, if_neg (by simp [hr])])
          rw [hr] at HER
          clear hr2
          go_wp2_with fail
          refine (HER.out _ hI.out.at_).mono ?_
          rintro e w4 ⟨rfl, rfl⟩
          go_wp2_with fail
          refine bodyPost_ret (v := .agg #[.int .u64 (tot : Int), .slice A4 m4 c4]) (by simp [results, Try.results61, go_sem, r0, r1]) rfl ?_
          rw [HR2.out]
          have hne : ∀ k, k ≤ p → (Value.slice A4 m4 c4).ownBlock ≠ some k := fun k hk e => by have := (hI.out.own.lt k e).1; omega
          refine ⟨_, rfl, NS.of_own (ownsRow_setCell_other (ownsRow_setCell_other hI.out.own (a := ⟨w.heap.size, 0, none⟩) (hne w.heap.size (by omega)) _) (a := ⟨w.heap.size, 1, none⟩) (hne w.heap.size (by omega)) _), Has.set_other (Has.set_other hI.out.at_ (by dsimp only; omega) _) (by dsimp only; omega) _, (hI.out.only.setCell (.inr (by dsimp only; omega)) _).setCell (.inr (by dsimp only; omega)) _, fun g h => by have := (hI.out.own.lt g h).1; omega⟩
        · have hr2 : (r.2 != 0) = true := by simpa using hr
          have HR2 := Lib.hid (show readN q = ((0, []), r) by rw [HRD.out, HF.out, if_pos hr])
          clear hr
          go_wp2_with fail
          refine (HER.out _ hI.out.at_).mono ?_
          rintro e w4 ⟨rfl, rfl⟩
          go_wp2_with fail
          refine bodyPost_ret (v := .agg #[.int .u64 0, .slice none 0 0]) (by simp [results, Try.results61, go_sem, r0, r1]) rfl ?_
          rw [HR2.out]
          exact ⟨_, rfl, NS.nil _, Has.set_other (Has.set_other hI.out.at_ (by dsimp only; omega) _) (by dsimp only; omega) _, (hI.out.only.setCell (.inr (by dsimp only; omega)) _).setCell (.inr (by dsimp only; omega)) _, fun g h => by simp [Value.ownBlock] at h⟩
end Go.Proofs.Ytopacbmdoognjaa.Not
