/- The walk of stairwellref19.Read. -/
import Derived.Test.YtopacbmdoognjaaNotesReadWalk
import Derived.Test.YtopacbmdoognjaaRefNum
import Derived.Deep.AppendLies
import Derived.Deep.RegionLaw
namespace Go.Proofs.Ytopacbmdoognjaa.Oct
open Go Go.RowKit Frame
theorem RAt.set_other {b : Nat} {S : List UInt8} {q : St} {w : World} (h : RAt b S q w) {p : Addr} (hp : p.block ≠ b) (v : Value) : RAt b S q (w.setCell p v) := by
  obtain ⟨⟨a, h1, h2, h3⟩, hg⟩ := h
  exact ⟨⟨a, h1, h2.set_other hp v, h3⟩, hg⟩
theorem RAt.grown {b : Nat} {S : List UInt8} {q : St} {w w' : World} {row : Option Nat} (h : RAt b S q w) (hg : w.grownBy w' row) (hne : some b ≠ row) : RAt b S q w' := by
  obtain ⟨⟨a, h1, h2, h3⟩, hgg⟩ := h
  exact ⟨⟨a, h1, Not.has_grown h2 hg hne, h3⟩, hgg⟩
theorem RAt.code {b : Nat} {S : List UInt8} {q : St} {w : World} (h : RAt b S q w) : w.cell? ⟨b, 2, none⟩ = some (.int .i64 q.2) := by
  obtain ⟨⟨a, h1, h2, h3⟩, hg⟩ := h
  exact h2.cell 2
theorem RAt.lt {b : Nat} {S : List UInt8} {q : St} {w : World} (h : RAt b S q w) : b < w.heap.size := by
  obtain ⟨⟨a, h1, h2, h3⟩, hg⟩ := h
  exact h2.lt
theorem RAt.le {b : Nat} {S : List UInt8} {q : St} {w : World} (h : RAt b S q w) : q.1.length ≤ S.length := by
  obtain ⟨⟨a, h1, h2, h3⟩, hg⟩ := h
  rcases Int.decEq q.2 0 with h0 | h0
  · rw [hg h0]; exact Nat.zero_le _
  · rw [h3 h0]; simp
end Go.Proofs.Ytopacbmdoognjaa.Oct
namespace Go.Proofs.Ytopacbmdoognjaa.Not
open Go Go.RowKit Frame Oct
def str (m : St) (many tot : Nat) : St := if many ≠ tot ∧ ¬ (many = 32 ∧ 32 < tot) then fail (if 32 < many then fail m 6 else m) 7 else (if 32 < many then fail m 6 else m)
theorem str_eq (q : St) : st0 q = str (mid q) (many0 q) (tot0 q) := by
  unfold st0 str
  by_cases hA : (mid q).2 ≠ 0
  · rw [if_pos hA, fail_err hA, fail_err (by split <;> exact hA)]
    split <;> split <;> rfl
  · rw [if_neg hA]
    have h0 : (mid q).2 = 0 := by simpa using hA
    by_cases hB : 32 < many0 q
    · have h6 : (fail (mid q) 6).2 ≠ 0 := by rw [fail_code h0 6 (by decide)]; decide
      simp only [if_pos hB]
      rw [fail_err h6]
      split <;> rfl
    · rw [if_neg hB, if_neg hB]
      by_cases hC : many0 q ≠ min (tot0 q) 32
      · rw [if_pos hC, if_pos (by omega)]
      · rw [if_neg hC, if_neg (by omega)]
structure SdI (W : World) (b : Nat) (S : List UInt8) (tot : Nat) (q : St) (p : Nat) (l : List Nt) (out : Value) (w : World) : Prop where
  only : Only b W w
  at_ : RAt b S q w
  res : Has W.heap.size #[.int .u64 0, .slice none 0 0] 87 w
  n : Has p #[.int .u64 (tot : Int), out] 87 w
  own : w.ownsRow (p + 1) 93 3 out l.length (css l)
  pos : b < W.heap.size ∧ W.heap.size < p
theorem SdI.only' {W w w' : World} {b tot p : Nat} {S : List UInt8} {q q' : St} {l : List Nt} {out : Value} (h : SdI W b S tot q p l out w) (ha : RAt b S q' w') (hb : Only b w w') : SdI W b S tot q' p l out w' :=
  ⟨h.only.trans hb, ha, h.res.only hb (by have := h.pos; omega), h.n.only hb (by have := h.pos; omega), own_only h.own hb (by have := h.pos; omega), h.pos⟩
theorem SdI.below' {W w w' : World} {b tot p : Nat} {S : List UInt8} {q : St} {l : List Nt} {out : Value} (h : SdI W b S tot q p l out w) (hb : Below w.heap.size w w') : SdI W b S tot q p l out w' :=
  ⟨h.only.below hb, h.at_.below hb, h.res.below hb, h.n.below hb, own_below h.own hb, h.pos⟩
set_option maxRecDepth 100000 in
set_option maxHeartbeats 2000000 in
theorem RRead_calls (b : Nat) (S : List UInt8) (hS : S.length ≤ 1000000) (q : St) (w : World) (h : RAt b S q w) :
    Calls Try.prog 62 #[.pointer (some ⟨b, 0, none⟩)] w fun e w' =>
      ∃ v, e = .returned (.agg #[.int .u64 ((readN q).1.1 : Int), v]) ∧ NS v (readN q).1.2 w' ∧ RAt b S (readN q).2 w' ∧ Only b w w' ∧ ∀ g, v.ownBlock = some g → w.heap.size ≤ g := by
  obtain ⟨i0, hi0, hz0, hz1, hz2⟩ := info_parts infoM
  have hbw := h.lt
  have hl := Nat.le_trans h.le hS
  have hSm : S.length ≤ maxLen := by unfold maxLen; omega
  have HA0 := Lib.hid (h.below ((Below.refl w.heap.size w).alloc (Nat.le_refl _) (.cells #[.int .u64 0, .slice none 0 0] 87)))
  have HR0 := Lib.hid (Has.new w #[.int .u64 0, .slice none 0 0] 87)
  have HO0 := Lib.hid ((Only.refl b w).alloc (.cells #[.int .u64 0, .slice none 0 0] 87))
  have HST := Lib.hid (str_eq q)
  have HRD := Lib.hid (show readN q = if (loop (many0 q) (st0 q)).2.2 ≠ 0 then ((0, []), (loop (many0 q) (st0 q)).2) else ((tot0 q, (loop (many0 q) (st0 q)).1), (loop (many0 q) (st0 q)).2) from rfl)
  have hsl := st0_le q
  have hml : (mid q).1.length ≤ 1000000 := by unfold mid; have := inum_le q 8; have := inum_le (inum q 8).2 1; omega
  clear h
  go_enter Try.func62, Try.ntmps62
  go_wp2_with fail
  generalize w.alloc (.cells #[.int .u64 0, .slice none 0 0] 87) = w0 at *
  refine (RNum_calls b S q 8 hSm _ HA0.out).mono ?_
  rintro e w1 ⟨rfl, h1, o1⟩
  have ht := inum_lt q 8
  have HB1 := Lib.hid ((Below.refl w1.heap.size w1).alloc (Nat.le_refl _) (.cells #[.int .u64 ((inum q 8).1 : Int), .slice none 0 0] 87))
  have HN1 := Lib.hid (Has.new w1 #[.int .u64 ((inum q 8).1 : Int), .slice none 0 0] 87)
  have HA1 := Lib.hid (h1.below HB1.out)
  have HR1 := Lib.hid ((HR0.out.only o1 (by omega)).below HB1.out)
  have HO1 := Lib.hid ((HO0.out.trans o1).below HB1.out)
  have hpw : w.heap.size < w1.heap.size := by have := HR0.out.lt; have := o1.size; omega
  clear h1 o1 HA0 HR0 HO0
  go_wp2_with fail
  generalize w1.alloc (.cells #[.int .u64 ((inum q 8).1 : Int), .slice none 0 0] 87) = w1a at *
  generalize w1.heap.size = p at *
  refine (RNum_calls b S (inum q 8).2 1 hSm _ HA1.out).mono ?_
  rintro e w2 ⟨rfl, h2, o2⟩
  have HI2 := Lib.hid (show SdI w b S (inum q 8).1 (inum (inum q 8).2 1).2 p [] (.slice none 0 0) w2 from ⟨HO1.out.trans o2, h2, HR1.out.only o2 (by omega), HN1.out.only o2 (by omega), World.ownsRow_nil _ _ _ _, hbw, hpw⟩)
  have hm := num1_lt (inum q 8).2
  clear h2 o2 HA1 HN1 HR1 HO1 HB1
  rw [show inum (inum q 8).2 1 = ((many0 q, mid q) : Nat × St) from rfl] at HI2 hm ⊢
  rw [show (inum q 8).1 = tot0 q from rfl] at HI2 ht ⊢
  simp only at HI2 hm ⊢
  generalize mid q = m at *
  generalize many0 q = many at *
  generalize tot0 q = tot at *
  generalize st0 q = st at *
  have HST := HST.out
  unfold str at HST
  have hcv : IntKind.u64.wrap (many : Int) = (many : Int) := IntWalk.u64_in _ (by omega)
  by_cases hB : 32 < many
  · rw [if_pos hB] at HST
    go_wp2_with fail
    refine (RFail_calls b S m 6 _ HI2.out.at_).mono ?_
    rintro e w3 ⟨rfl, h3, o3⟩
    have HI3 := Lib.hid (HI2.out.only' h3 o3)
    clear h3 o3 HI2
    have n0 := HI3.out.n.cell 0
    have e2 : ((many : Int) == 32) = false := beq_eq_false_iff_ne.2 (by omega)
    by_cases e1 : many = tot
    · rw [if_neg (by omega)] at HST
      have e1' : ((many : Int) != (tot : Int)) = false := by rw [e1]; simp
      rw [← HST] at HI3
      go_wp2_with fail
      clear hB
      have hsl2 : st.1.length ≤ 1000000 := by omega
      go_loopw [5] (fun kk wr => ∃ (j : Nat) (l : List Nt) (out : Value) (r : St), j ≤ many ∧ kk = .int .i64 j ∧ l.length = j ∧ Hid (loop many st = (l ++ (loop (many - j) r).1, (loop (many - j) r).2)) ∧ Hid (SdI w b S tot r p l out wr)) (fun kk _ => many - (intOf kk).toNat)
      case atStart => exact ⟨0, [], _, st, by omega, rfl, rfl, Lib.hid (by simp), HI3⟩
      case round =>
        obtain ⟨j, l, out, r, hj, rfl, hlj, hL, hI⟩ := hrel
        clear HI3
        have p0 := hI.out.n.cell 0
        have p1 := hI.out.n.cell 1
        have pl := hI.out.n.lt
        have r0 := hI.out.res.cell 0
        have r1 := hI.out.res.cell 1
        have rf := hI.out.res.frozen
        have q2 := hI.out.at_.code
        have hpos := hI.out.pos
        obtain ⟨A4, m4, c4, rfl⟩ := own_form hI.out.own
        have HEX : Hid (r.2 ≠ 0 ∨ j = many → loop many st = (l, r)) := Lib.hid (fun h => by
          rw [hL.out]
          rcases h with h | h
          · rw [loop_err h, List.append_nil]
          · rw [h, Nat.sub_self]
            simp [loop])
        by_cases hlt : j < many
        · by_cases hr : r.2 = 0
          · obtain ⟨n, hn⟩ : ∃ n, many - j = n + 1 := ⟨many - j - 1, by omega⟩
            have HS := Lib.hid (loop_step hr (by rw [← hn]; exact hL.out) : loop many st = _)
            rw [show n = many - (j + 1) by omega] at HS
            clear hn hL HEX
            have hr' : (r.2 == 0) = true := by rw [hr]; rfl
            have hta := inum_lt r 8
            have htb := num1_lt (inum r 8).2
            have HN1 := Lib.hid (fun W h => RNum_calls b S r 8 hSm W h)
            have HN2 := Lib.hid (fun W h => RNum_calls b S (inum r 8).2 1 hSm W h)
            have HN3 := Lib.hid (fun W h => RText_calls b S (inum (inum r 8).2 1).2 64 hSm W h)
            generalize itext (inum (inum r 8).2 1).2 64 = a3 at *
            generalize inum (inum r 8).2 1 = a2 at *
            generalize inum r 8 = a1 at *
            have hu8 : ((UInt8.ofNat a2.1).toNat : Int) = (a2.1 : Int) := by rw [UInt8.toNat_ofNat']; omega
            have HU8 := Lib.hid hu8
            have hw8 : IntKind.u8.wrap (a2.1 : Int) = (a2.1 : Int) := by rw [IntKind.wrap_u8]; omega
            rw [hr] at q2
            clear hu8 hr
            go_wp2_with fail
            refine (HN1.out _ hI.out.at_).mono ?_
            rintro e w4 ⟨rfl, h4, o4⟩
            have HI4 := Lib.hid (hI.out.only' h4 o4)
            clear h4 o4 p0 p1 r0 r1 rf q2
            go_wp2_with fail
            refine (HN2.out _ HI4.out.at_).mono ?_
            rintro e w5 ⟨rfl, h5, o5⟩
            have HI5 := Lib.hid (HI4.out.only' h5 o5)
            clear h5 o5 HI4
            go_wp2_with fail
            have y1 : w5.drew.cell? ⟨p, 1, none⟩ = some (.slice A4 m4 c4) := HI5.out.n.cell 1
            have HI5d := Lib.hid (HI5.out.below' (Below.refl w5.heap.size w5).drew)
            have g8 : IntKind.u8.wrap (a2.1 : Int) = (a2.1 : Int) := hw8
            go_region_law (first
              | (refine step_append_lies _ rfl (.tmp 52) (.tmp 59) 85 rfl (p + 1) 93 i0 _ 3 32 Try.underlying85 hi0 hz0 hz1 hz2 rfl (by decide) (.slice A4 m4 c4) l.length (css l) (by simp [Act.eval]) HI7.out.own ⟨w6.heap.size, 0, none⟩ 1 1 (css [⟨a1.1, UInt8.ofNat a2.1, bs a3.1⟩]) (by simp [Act.eval]) (css_length [_]) (HX7.out.cells _ rfl) (css_oneCell [_]) (by decide) (by unfold maxLen; omega) (by omega) hs7 _ rfl ?_; intro g9 cap9 w9 hown9 hgrow9 hat9 hlt9;
                 have hna : (∀ k, k ≤ p → some k ≠ (Value.slice A4 m4 c4).ownBlock) := (fun k hk e => by have := (HI7.out.own.lt k e.symm).1; omega);
                 have P9 := Lib.hid (has_grown HI7.out.n hgrow9 (hna _ (Nat.le_refl _)));
                 have c1 := P9.out.cell 1; have cf := P9.out.frozen)
              | (go_simp; go_at_call 41; refine (HN3.out _ HI5d.out.at_).mono ?_; rintro e w6 ⟨rfl, h6, o6⟩;
                 have HI6 := Lib.hid (HI5d.out.only' h6 o6);
                 have z1 := HI6.out.n.cell 1;
                 have hb7 := (Below.refl w6.heap.size w6).alloc (Nat.le_refl _) (.cells #[.int .u64 (a1.1 : Int), .int .u8 (a2.1 : Int), .string (bs a3.1)] 93);
                 have HI7 := Lib.hid (HI6.out.below' hb7);
                 have hx7 := Has.new w6 #[.int .u64 (a1.1 : Int), .int .u8 (a2.1 : Int), .string (bs a3.1)] 93;
                 rw [← HU8.out] at hx7;
                 have HX7 := Lib.hid (Nts.one (x := ⟨a1.1, UInt8.ofNat a2.1, bs a3.1⟩) hx7);
                 rw [HU8.out] at HX7;
                 have hs7 := HI7.out.n.lt;
                 have z2 := HI7.out.n.cell 1;
                 clear h6 o6 hb7 hx7))
            all_goals
              have hrow : ∀ k, k ≤ p → some k ≠ (Value.slice A4 m4 c4).ownBlock := fun k hk e => by have := (HI7.out.own.lt k e.symm).1; omega
              have R9 := Lib.hid (has_grown HI7.out.res hgrow9 (hrow _ (by omega)))
              have A9 := Lib.hid (RAt.grown HI7.out.at_ hgrow9 (hrow _ (by omega)))
              have O9 : Hid (Only b w w9) := Lib.hid ⟨hgrow9.os.trans HI7.out.only.os, hgrow9.tape.trans HI7.out.only.tape, hgrow9.output.trans HI7.out.only.output, Nat.le_trans HI7.out.only.size hgrow9.size, fun k hk hne => (hgrow9.block k (Nat.lt_of_lt_of_le hk HI7.out.only.size) (hrow k (by omega))).trans (HI7.out.only.block k hk hne)⟩
              rw [← css_append, hlj] at hown9
              have W9 := Lib.hid hown9
              clear hown9 hgrow9 hat9 hrow z1 z2 y1
              go_wp2_with fail
              refine ⟨⟨j + 1, l ++ [⟨a1.1, UInt8.ofNat a2.1, bs a3.1⟩], _, a3.2, by omega, by go_num, by simp [hlj], HS, Lib.hid ⟨O9.out.setCell (.inr (by dsimp only; omega)) _, RAt.set_other A9.out (by dsimp only; omega) _, R9.out.set_other (by dsimp only; omega) _, setOne1 P9.out _, ?_, hpos⟩⟩, by simp [intOf]; omega⟩
              rw [List.length_append, hlj]
              exact ownsRow_setCell_other W9.out (a := ⟨p, 1, none⟩) (fun e => by have := (W9.out.lt _ e).1; simp at this; omega) _
          · have hr' : (r.2 == 0) = false := by simpa using hr
            have hr2 : (r.2 != 0) = true := by simpa using hr
            have HF := Lib.hid (HEX.out (.inl hr))
            have HR2 := Lib.hid (show readN q = ((0, []), r) by rw [HRD.out, HF.out, if_pos hr])
            clear HEX hL
            go_wp2_with fail
            refine bodyPost_ret (v := .agg #[.int .u64 0, .slice none 0 0]) (by simp [results, Try.results62, go_sem, r0, r1]) rfl ?_
            rw [HR2.out]
            exact ⟨_, rfl, NS.nil _, RAt.set_other (RAt.set_other hI.out.at_ (by dsimp only; omega) _) (by dsimp only; omega) _, (hI.out.only.setCell (.inr (by dsimp only; omega)) _).setCell (.inr (by dsimp only; omega)) _, fun g h => by simp [Value.ownBlock] at h⟩
        · obtain rfl : j = many := by omega
          have HF := Lib.hid (HEX.out (.inr rfl))
          clear HEX hL
          by_cases hr : r.2 = 0
          · have HR2 := Lib.hid (show readN q = ((tot, l), r) by rw [HRD.out, HF.out, if_neg (by simp [hr])])
            rw [hr] at q2
            go_wp2_with fail
            refine bodyPost_ret (v := .agg #[.int .u64 (tot : Int), .slice A4 m4 c4]) (by simp [results, Try.results62, go_sem, r0, r1]) rfl ?_
            rw [HR2.out]
            have hne : ∀ k, k ≤ p → (Value.slice A4 m4 c4).ownBlock ≠ some k := fun k hk e => by have := (hI.out.own.lt k e).1; omega
            refine ⟨_, rfl, NS.of_own (ownsRow_setCell_other (ownsRow_setCell_other hI.out.own (a := ⟨w.heap.size, 0, none⟩) (hne w.heap.size (by omega)) _) (a := ⟨w.heap.size, 1, none⟩) (hne w.heap.size (by omega)) _), RAt.set_other (RAt.set_other hI.out.at_ (by dsimp only; omega) _) (by dsimp only; omega) _, (hI.out.only.setCell (.inr (by dsimp only; omega)) _).setCell (.inr (by dsimp only; omega)) _, fun g h => by have := (hI.out.own.lt g h).1; omega⟩
          · have hr2 : (r.2 != 0) = true := by simpa using hr
            have HR2 := Lib.hid (show readN q = ((0, []), r) by rw [HRD.out, HF.out, if_pos hr])
            clear hr
            go_wp2_with fail
            refine bodyPost_ret (v := .agg #[.int .u64 0, .slice none 0 0]) (by simp [results, Try.results62, go_sem, r0, r1]) rfl ?_
            rw [HR2.out]
            exact ⟨_, rfl, NS.nil _, RAt.set_other (RAt.set_other hI.out.at_ (by dsimp only; omega) _) (by dsimp only; omega) _, (hI.out.only.setCell (.inr (by dsimp only; omega)) _).setCell (.inr (by dsimp only; omega)) _, fun g h => by simp [Value.ownBlock] at h⟩
    · rw [if_pos (by omega)] at HST
      have e1' : ((many : Int) != (tot : Int)) = true := bne_iff_ne.2 (by omega)
      go_wp2_with fail
      refine (RFail_calls b S (fail m 6) 7 _ HI3.out.at_).mono ?_
      rintro e w4 ⟨rfl, h4, o4⟩
      rw [← HST] at h4
      have HI4 := Lib.hid (HI3.out.only' h4 o4)
      clear h4 o4 HI3 n0
      have HI3 := HI4
      clear HI4
      go_wp2_with fail
      clear hB
      have hsl2 : st.1.length ≤ 1000000 := by omega
      go_loopw [5] (fun kk wr => ∃ (j : Nat) (l : List Nt) (out : Value) (r : St), j ≤ many ∧ kk = .int .i64 j ∧ l.length = j ∧ Hid (loop many st = (l ++ (loop (many - j) r).1, (loop (many - j) r).2)) ∧ Hid (SdI w b S tot r p l out wr)) (fun kk _ => many - (intOf kk).toNat)
      case atStart => exact ⟨0, [], _, st, by omega, rfl, rfl, Lib.hid (by simp), HI3⟩
      case round =>
        obtain ⟨j, l, out, r, hj, rfl, hlj, hL, hI⟩ := hrel
        clear HI3
        have p0 := hI.out.n.cell 0
        have p1 := hI.out.n.cell 1
        have pl := hI.out.n.lt
        have r0 := hI.out.res.cell 0
        have r1 := hI.out.res.cell 1
        have rf := hI.out.res.frozen
        have q2 := hI.out.at_.code
        have hpos := hI.out.pos
        obtain ⟨A4, m4, c4, rfl⟩ := own_form hI.out.own
        have HEX : Hid (r.2 ≠ 0 ∨ j = many → loop many st = (l, r)) := Lib.hid (fun h => by
          rw [hL.out]
          rcases h with h | h
          · rw [loop_err h, List.append_nil]
          · rw [h, Nat.sub_self]
            simp [loop])
        by_cases hlt : j < many
        · by_cases hr : r.2 = 0
          · obtain ⟨n, hn⟩ : ∃ n, many - j = n + 1 := ⟨many - j - 1, by omega⟩
            have HS := Lib.hid (loop_step hr (by rw [← hn]; exact hL.out) : loop many st = _)
            rw [show n = many - (j + 1) by omega] at HS
            clear hn hL HEX
            have hr' : (r.2 == 0) = true := by rw [hr]; rfl
            have hta := inum_lt r 8
            have htb := num1_lt (inum r 8).2
            have HN1 := Lib.hid (fun W h => RNum_calls b S r 8 hSm W h)
            have HN2 := Lib.hid (fun W h => RNum_calls b S (inum r 8).2 1 hSm W h)
            have HN3 := Lib.hid (fun W h => RText_calls b S (inum (inum r 8).2 1).2 64 hSm W h)
            generalize itext (inum (inum r 8).2 1).2 64 = a3 at *
            generalize inum (inum r 8).2 1 = a2 at *
            generalize inum r 8 = a1 at *
            have hu8 : ((UInt8.ofNat a2.1).toNat : Int) = (a2.1 : Int) := by rw [UInt8.toNat_ofNat']; omega
            have HU8 := Lib.hid hu8
            have hw8 : IntKind.u8.wrap (a2.1 : Int) = (a2.1 : Int) := by rw [IntKind.wrap_u8]; omega
            rw [hr] at q2
            clear hu8 hr
            go_wp2_with fail
            refine (HN1.out _ hI.out.at_).mono ?_
            rintro e w4 ⟨rfl, h4, o4⟩
            have HI4 := Lib.hid (hI.out.only' h4 o4)
            clear h4 o4 p0 p1 r0 r1 rf q2
            go_wp2_with fail
            refine (HN2.out _ HI4.out.at_).mono ?_
            rintro e w5 ⟨rfl, h5, o5⟩
            have HI5 := Lib.hid (HI4.out.only' h5 o5)
            clear h5 o5 HI4
            go_wp2_with fail
            have y1 : w5.drew.cell? ⟨p, 1, none⟩ = some (.slice A4 m4 c4) := HI5.out.n.cell 1
            have HI5d := Lib.hid (HI5.out.below' (Below.refl w5.heap.size w5).drew)
            have g8 : IntKind.u8.wrap (a2.1 : Int) = (a2.1 : Int) := hw8
            go_region_law (first
              | (refine step_append_lies _ rfl (.tmp 52) (.tmp 59) 85 rfl (p + 1) 93 i0 _ 3 32 Try.underlying85 hi0 hz0 hz1 hz2 rfl (by decide) (.slice A4 m4 c4) l.length (css l) (by simp [Act.eval]) HI7.out.own ⟨w6.heap.size, 0, none⟩ 1 1 (css [⟨a1.1, UInt8.ofNat a2.1, bs a3.1⟩]) (by simp [Act.eval]) (css_length [_]) (HX7.out.cells _ rfl) (css_oneCell [_]) (by decide) (by unfold maxLen; omega) (by omega) hs7 _ rfl ?_; intro g9 cap9 w9 hown9 hgrow9 hat9 hlt9;
                 have hna : (∀ k, k ≤ p → some k ≠ (Value.slice A4 m4 c4).ownBlock) := (fun k hk e => by have := (HI7.out.own.lt k e.symm).1; omega);
                 have P9 := Lib.hid (has_grown HI7.out.n hgrow9 (hna _ (Nat.le_refl _)));
                 have c1 := P9.out.cell 1; have cf := P9.out.frozen)
              | (go_simp; go_at_call 41; refine (HN3.out _ HI5d.out.at_).mono ?_; rintro e w6 ⟨rfl, h6, o6⟩;
                 have HI6 := Lib.hid (HI5d.out.only' h6 o6);
                 have z1 := HI6.out.n.cell 1;
                 have hb7 := (Below.refl w6.heap.size w6).alloc (Nat.le_refl _) (.cells #[.int .u64 (a1.1 : Int), .int .u8 (a2.1 : Int), .string (bs a3.1)] 93);
                 have HI7 := Lib.hid (HI6.out.below' hb7);
                 have hx7 := Has.new w6 #[.int .u64 (a1.1 : Int), .int .u8 (a2.1 : Int), .string (bs a3.1)] 93;
                 rw [← HU8.out] at hx7;
                 have HX7 := Lib.hid (Nts.one (x := ⟨a1.1, UInt8.ofNat a2.1, bs a3.1⟩) hx7);
                 rw [HU8.out] at HX7;
                 have hs7 := HI7.out.n.lt;
                 have z2 := HI7.out.n.cell 1;
                 clear h6 o6 hb7 hx7))
            all_goals
              have hrow : ∀ k, k ≤ p → some k ≠ (Value.slice A4 m4 c4).ownBlock := fun k hk e => by have := (HI7.out.own.lt k e.symm).1; omega
              have R9 := Lib.hid (has_grown HI7.out.res hgrow9 (hrow _ (by omega)))
              have A9 := Lib.hid (RAt.grown HI7.out.at_ hgrow9 (hrow _ (by omega)))
              have O9 : Hid (Only b w w9) := Lib.hid ⟨hgrow9.os.trans HI7.out.only.os, hgrow9.tape.trans HI7.out.only.tape, hgrow9.output.trans HI7.out.only.output, Nat.le_trans HI7.out.only.size hgrow9.size, fun k hk hne => (hgrow9.block k (Nat.lt_of_lt_of_le hk HI7.out.only.size) (hrow k (by omega))).trans (HI7.out.only.block k hk hne)⟩
              rw [← css_append, hlj] at hown9
              have W9 := Lib.hid hown9
              clear hown9 hgrow9 hat9 hrow z1 z2 y1
              go_wp2_with fail
              refine ⟨⟨j + 1, l ++ [⟨a1.1, UInt8.ofNat a2.1, bs a3.1⟩], _, a3.2, by omega, by go_num, by simp [hlj], HS, Lib.hid ⟨O9.out.setCell (.inr (by dsimp only; omega)) _, RAt.set_other A9.out (by dsimp only; omega) _, R9.out.set_other (by dsimp only; omega) _, setOne1 P9.out _, ?_, hpos⟩⟩, by simp [intOf]; omega⟩
              rw [List.length_append, hlj]
              exact ownsRow_setCell_other W9.out (a := ⟨p, 1, none⟩) (fun e => by have := (W9.out.lt _ e).1; simp at this; omega) _
          · have hr' : (r.2 == 0) = false := by simpa using hr
            have hr2 : (r.2 != 0) = true := by simpa using hr
            have HF := Lib.hid (HEX.out (.inl hr))
            have HR2 := Lib.hid (show readN q = ((0, []), r) by rw [HRD.out, HF.out, if_pos hr])
            clear HEX hL
            go_wp2_with fail
            refine bodyPost_ret (v := .agg #[.int .u64 0, .slice none 0 0]) (by simp [results, Try.results62, go_sem, r0, r1]) rfl ?_
            rw [HR2.out]
            exact ⟨_, rfl, NS.nil _, RAt.set_other (RAt.set_other hI.out.at_ (by dsimp only; omega) _) (by dsimp only; omega) _, (hI.out.only.setCell (.inr (by dsimp only; omega)) _).setCell (.inr (by dsimp only; omega)) _, fun g h => by simp [Value.ownBlock] at h⟩
        · obtain rfl : j = many := by omega
          have HF := Lib.hid (HEX.out (.inr rfl))
          clear HEX hL
          by_cases hr : r.2 = 0
          · have HR2 := Lib.hid (show readN q = ((tot, l), r) by rw [HRD.out, HF.out, if_neg (by simp [hr])])
            rw [hr] at q2
            go_wp2_with fail
            refine bodyPost_ret (v := .agg #[.int .u64 (tot : Int), .slice A4 m4 c4]) (by simp [results, Try.results62, go_sem, r0, r1]) rfl ?_
            rw [HR2.out]
            have hne : ∀ k, k ≤ p → (Value.slice A4 m4 c4).ownBlock ≠ some k := fun k hk e => by have := (hI.out.own.lt k e).1; omega
            refine ⟨_, rfl, NS.of_own (ownsRow_setCell_other (ownsRow_setCell_other hI.out.own (a := ⟨w.heap.size, 0, none⟩) (hne w.heap.size (by omega)) _) (a := ⟨w.heap.size, 1, none⟩) (hne w.heap.size (by omega)) _), RAt.set_other (RAt.set_other hI.out.at_ (by dsimp only; omega) _) (by dsimp only; omega) _, (hI.out.only.setCell (.inr (by dsimp only; omega)) _).setCell (.inr (by dsimp only; omega)) _, fun g h => by have := (hI.out.own.lt g h).1; omega⟩
          · have hr2 : (r.2 != 0) = true := by simpa using hr
            have HR2 := Lib.hid (show readN q = ((0, []), r) by rw [HRD.out, HF.out, if_pos hr])
            clear hr
            go_wp2_with fail
            refine bodyPost_ret (v := .agg #[.int .u64 0, .slice none 0 0]) (by simp [results, Try.results62, go_sem, r0, r1]) rfl ?_
            rw [HR2.out]
            exact ⟨_, rfl, NS.nil _, RAt.set_other (RAt.set_other hI.out.at_ (by dsimp only; omega) _) (by dsimp only; omega) _, (hI.out.only.setCell (.inr (by dsimp only; omega)) _).setCell (.inr (by dsimp only; omega)) _, fun g h => by simp [Value.ownBlock] at h⟩
  · rw [if_neg hB] at HST
    have n0 := HI2.out.n.cell 0
    by_cases e1 : many ≠ tot ∧ ¬ (many = 32 ∧ 32 < tot)
    · rw [if_pos e1] at HST
      have e1' : ((many : Int) != (tot : Int)) = true := bne_iff_ne.2 (by omega)
      by_cases e2 : many = 32
      · have e4 : ((many : Int) == 32) = true := by rw [e2]; rfl
        have e5 : decide ((32 : Int) < (tot : Int)) = false := decide_eq_false (fun h => e1.2 ⟨e2, by omega⟩)
        clear e2
        go_wp2_with fail
        refine (RFail_calls b S m 7 _ HI2.out.at_).mono ?_
        rintro e w4 ⟨rfl, h4, o4⟩
        rw [← HST] at h4
        have HI3 := Lib.hid (HI2.out.only' h4 o4)
        clear h4 o4 HI2 n0
        go_wp2_with fail
        clear hB
        have hsl2 : st.1.length ≤ 1000000 := by omega
        go_loopw [5] (fun kk wr => ∃ (j : Nat) (l : List Nt) (out : Value) (r : St), j ≤ many ∧ kk = .int .i64 j ∧ l.length = j ∧ Hid (loop many st = (l ++ (loop (many - j) r).1, (loop (many - j) r).2)) ∧ Hid (SdI w b S tot r p l out wr)) (fun kk _ => many - (intOf kk).toNat)
        case atStart => exact ⟨0, [], _, st, by omega, rfl, rfl, Lib.hid (by simp), HI3⟩
        case round =>
          obtain ⟨j, l, out, r, hj, rfl, hlj, hL, hI⟩ := hrel
          clear HI3
          have p0 := hI.out.n.cell 0
          have p1 := hI.out.n.cell 1
          have pl := hI.out.n.lt
          have r0 := hI.out.res.cell 0
          have r1 := hI.out.res.cell 1
          have rf := hI.out.res.frozen
          have q2 := hI.out.at_.code
          have hpos := hI.out.pos
          obtain ⟨A4, m4, c4, rfl⟩ := own_form hI.out.own
          have HEX : Hid (r.2 ≠ 0 ∨ j = many → loop many st = (l, r)) := Lib.hid (fun h => by
            rw [hL.out]
            rcases h with h | h
            · rw [loop_err h, List.append_nil]
            · rw [h, Nat.sub_self]
              simp [loop])
          by_cases hlt : j < many
          · by_cases hr : r.2 = 0
            · obtain ⟨n, hn⟩ : ∃ n, many - j = n + 1 := ⟨many - j - 1, by omega⟩
              have HS := Lib.hid (loop_step hr (by rw [← hn]; exact hL.out) : loop many st = _)
              rw [show n = many - (j + 1) by omega] at HS
              clear hn hL HEX
              have hr' : (r.2 == 0) = true := by rw [hr]; rfl
              have hta := inum_lt r 8
              have htb := num1_lt (inum r 8).2
              have HN1 := Lib.hid (fun W h => RNum_calls b S r 8 hSm W h)
              have HN2 := Lib.hid (fun W h => RNum_calls b S (inum r 8).2 1 hSm W h)
              have HN3 := Lib.hid (fun W h => RText_calls b S (inum (inum r 8).2 1).2 64 hSm W h)
              generalize itext (inum (inum r 8).2 1).2 64 = a3 at *
              generalize inum (inum r 8).2 1 = a2 at *
              generalize inum r 8 = a1 at *
              have hu8 : ((UInt8.ofNat a2.1).toNat : Int) = (a2.1 : Int) := by rw [UInt8.toNat_ofNat']; omega
              have HU8 := Lib.hid hu8
              have hw8 : IntKind.u8.wrap (a2.1 : Int) = (a2.1 : Int) := by rw [IntKind.wrap_u8]; omega
              rw [hr] at q2
              clear hu8 hr
              go_wp2_with fail
              refine (HN1.out _ hI.out.at_).mono ?_
              rintro e w4 ⟨rfl, h4, o4⟩
              have HI4 := Lib.hid (hI.out.only' h4 o4)
              clear h4 o4 p0 p1 r0 r1 rf q2
              go_wp2_with fail
              refine (HN2.out _ HI4.out.at_).mono ?_
              rintro e w5 ⟨rfl, h5, o5⟩
              have HI5 := Lib.hid (HI4.out.only' h5 o5)
              clear h5 o5 HI4
              go_wp2_with fail
              have y1 : w5.drew.cell? ⟨p, 1, none⟩ = some (.slice A4 m4 c4) := HI5.out.n.cell 1
              have HI5d := Lib.hid (HI5.out.below' (Below.refl w5.heap.size w5).drew)
              have g8 : IntKind.u8.wrap (a2.1 : Int) = (a2.1 : Int) := hw8
              go_region_law (first
                | (refine step_append_lies _ rfl (.tmp 52) (.tmp 59) 85 rfl (p + 1) 93 i0 _ 3 32 Try.underlying85 hi0 hz0 hz1 hz2 rfl (by decide) (.slice A4 m4 c4) l.length (css l) (by simp [Act.eval]) HI7.out.own ⟨w6.heap.size, 0, none⟩ 1 1 (css [⟨a1.1, UInt8.ofNat a2.1, bs a3.1⟩]) (by simp [Act.eval]) (css_length [_]) (HX7.out.cells _ rfl) (css_oneCell [_]) (by decide) (by unfold maxLen; omega) (by omega) hs7 _ rfl ?_; intro g9 cap9 w9 hown9 hgrow9 hat9 hlt9;
                   have hna : (∀ k, k ≤ p → some k ≠ (Value.slice A4 m4 c4).ownBlock) := (fun k hk e => by have := (HI7.out.own.lt k e.symm).1; omega);
                   have P9 := Lib.hid (has_grown HI7.out.n hgrow9 (hna _ (Nat.le_refl _)));
                   have c1 := P9.out.cell 1; have cf := P9.out.frozen)
                | (go_simp; go_at_call 41; refine (HN3.out _ HI5d.out.at_).mono ?_; rintro e w6 ⟨rfl, h6, o6⟩;
                   have HI6 := Lib.hid (HI5d.out.only' h6 o6);
                   have z1 := HI6.out.n.cell 1;
                   have hb7 := (Below.refl w6.heap.size w6).alloc (Nat.le_refl _) (.cells #[.int .u64 (a1.1 : Int), .int .u8 (a2.1 : Int), .string (bs a3.1)] 93);
                   have HI7 := Lib.hid (HI6.out.below' hb7);
                   have hx7 := Has.new w6 #[.int .u64 (a1.1 : Int), .int .u8 (a2.1 : Int), .string (bs a3.1)] 93;
                   rw [← HU8.out] at hx7;
                   have HX7 := Lib.hid (Nts.one (x := ⟨a1.1, UInt8.ofNat a2.1, bs a3.1⟩) hx7);
                   rw [HU8.out] at HX7;
                   have hs7 := HI7.out.n.lt;
                   have z2 := HI7.out.n.cell 1;
                   clear h6 o6 hb7 hx7))
              all_goals
                have hrow : ∀ k, k ≤ p → some k ≠ (Value.slice A4 m4 c4).ownBlock := fun k hk e => by have := (HI7.out.own.lt k e.symm).1; omega
                have R9 := Lib.hid (has_grown HI7.out.res hgrow9 (hrow _ (by omega)))
                have A9 := Lib.hid (RAt.grown HI7.out.at_ hgrow9 (hrow _ (by omega)))
                have O9 : Hid (Only b w w9) := Lib.hid ⟨hgrow9.os.trans HI7.out.only.os, hgrow9.tape.trans HI7.out.only.tape, hgrow9.output.trans HI7.out.only.output, Nat.le_trans HI7.out.only.size hgrow9.size, fun k hk hne => (hgrow9.block k (Nat.lt_of_lt_of_le hk HI7.out.only.size) (hrow k (by omega))).trans (HI7.out.only.block k hk hne)⟩
                rw [← css_append, hlj] at hown9
                have W9 := Lib.hid hown9
                clear hown9 hgrow9 hat9 hrow z1 z2 y1
                go_wp2_with fail
                refine ⟨⟨j + 1, l ++ [⟨a1.1, UInt8.ofNat a2.1, bs a3.1⟩], _, a3.2, by omega, by go_num, by simp [hlj], HS, Lib.hid ⟨O9.out.setCell (.inr (by dsimp only; omega)) _, RAt.set_other A9.out (by dsimp only; omega) _, R9.out.set_other (by dsimp only; omega) _, setOne1 P9.out _, ?_, hpos⟩⟩, by simp [intOf]; omega⟩
                rw [List.length_append, hlj]
                exact ownsRow_setCell_other W9.out (a := ⟨p, 1, none⟩) (fun e => by have := (W9.out.lt _ e).1; simp at this; omega) _
            · have hr' : (r.2 == 0) = false := by simpa using hr
              have hr2 : (r.2 != 0) = true := by simpa using hr
              have HF := Lib.hid (HEX.out (.inl hr))
              have HR2 := Lib.hid (show readN q = ((0, []), r) by rw [HRD.out, HF.out, if_pos hr])
              clear HEX hL
              go_wp2_with fail
              refine bodyPost_ret (v := .agg #[.int .u64 0, .slice none 0 0]) (by simp [results, Try.results62, go_sem, r0, r1]) rfl ?_
              rw [HR2.out]
              exact ⟨_, rfl, NS.nil _, RAt.set_other (RAt.set_other hI.out.at_ (by dsimp only; omega) _) (by dsimp only; omega) _, (hI.out.only.setCell (.inr (by dsimp only; omega)) _).setCell (.inr (by dsimp only; omega)) _, fun g h => by simp [Value.ownBlock] at h⟩
          · obtain rfl : j = many := by omega
            have HF := Lib.hid (HEX.out (.inr rfl))
            clear HEX hL
            by_cases hr : r.2 = 0
            · have HR2 := Lib.hid (show readN q = ((tot, l), r) by rw [HRD.out, HF.out, if_neg (by simp [hr])])
              rw [hr] at q2
              go_wp2_with fail
              refine bodyPost_ret (v := .agg #[.int .u64 (tot : Int), .slice A4 m4 c4]) (by simp [results, Try.results62, go_sem, r0, r1]) rfl ?_
              rw [HR2.out]
              have hne : ∀ k, k ≤ p → (Value.slice A4 m4 c4).ownBlock ≠ some k := fun k hk e => by have := (hI.out.own.lt k e).1; omega
              refine ⟨_, rfl, NS.of_own (ownsRow_setCell_other (ownsRow_setCell_other hI.out.own (a := ⟨w.heap.size, 0, none⟩) (hne w.heap.size (by omega)) _) (a := ⟨w.heap.size, 1, none⟩) (hne w.heap.size (by omega)) _), RAt.set_other (RAt.set_other hI.out.at_ (by dsimp only; omega) _) (by dsimp only; omega) _, (hI.out.only.setCell (.inr (by dsimp only; omega)) _).setCell (.inr (by dsimp only; omega)) _, fun g h => by have := (hI.out.own.lt g h).1; omega⟩
            · have hr2 : (r.2 != 0) = true := by simpa using hr
              have HR2 := Lib.hid (show readN q = ((0, []), r) by rw [HRD.out, HF.out, if_pos hr])
              clear hr
              go_wp2_with fail
              refine bodyPost_ret (v := .agg #[.int .u64 0, .slice none 0 0]) (by simp [results, Try.results62, go_sem, r0, r1]) rfl ?_
              rw [HR2.out]
              exact ⟨_, rfl, NS.nil _, RAt.set_other (RAt.set_other hI.out.at_ (by dsimp only; omega) _) (by dsimp only; omega) _, (hI.out.only.setCell (.inr (by dsimp only; omega)) _).setCell (.inr (by dsimp only; omega)) _, fun g h => by simp [Value.ownBlock] at h⟩
      · have e4 : ((many : Int) == 32) = false := beq_eq_false_iff_ne.2 (by omega)
        clear e2
        go_wp2_with fail
        refine (RFail_calls b S m 7 _ HI2.out.at_).mono ?_
        rintro e w4 ⟨rfl, h4, o4⟩
        rw [← HST] at h4
        have HI3 := Lib.hid (HI2.out.only' h4 o4)
        clear h4 o4 HI2 n0
        go_wp2_with fail
        clear hB
        have hsl2 : st.1.length ≤ 1000000 := by omega
        go_loopw [5] (fun kk wr => ∃ (j : Nat) (l : List Nt) (out : Value) (r : St), j ≤ many ∧ kk = .int .i64 j ∧ l.length = j ∧ Hid (loop many st = (l ++ (loop (many - j) r).1, (loop (many - j) r).2)) ∧ Hid (SdI w b S tot r p l out wr)) (fun kk _ => many - (intOf kk).toNat)
        case atStart => exact ⟨0, [], _, st, by omega, rfl, rfl, Lib.hid (by simp), HI3⟩
        case round =>
          obtain ⟨j, l, out, r, hj, rfl, hlj, hL, hI⟩ := hrel
          clear HI3
          have p0 := hI.out.n.cell 0
          have p1 := hI.out.n.cell 1
          have pl := hI.out.n.lt
          have r0 := hI.out.res.cell 0
          have r1 := hI.out.res.cell 1
          have rf := hI.out.res.frozen
          have q2 := hI.out.at_.code
          have hpos := hI.out.pos
          obtain ⟨A4, m4, c4, rfl⟩ := own_form hI.out.own
          have HEX : Hid (r.2 ≠ 0 ∨ j = many → loop many st = (l, r)) := Lib.hid (fun h => by
            rw [hL.out]
            rcases h with h | h
            · rw [loop_err h, List.append_nil]
            · rw [h, Nat.sub_self]
              simp [loop])
          by_cases hlt : j < many
          · by_cases hr : r.2 = 0
            · obtain ⟨n, hn⟩ : ∃ n, many - j = n + 1 := ⟨many - j - 1, by omega⟩
              have HS := Lib.hid (loop_step hr (by rw [← hn]; exact hL.out) : loop many st = _)
              rw [show n = many - (j + 1) by omega] at HS
              clear hn hL HEX
              have hr' : (r.2 == 0) = true := by rw [hr]; rfl
              have hta := inum_lt r 8
              have htb := num1_lt (inum r 8).2
              have HN1 := Lib.hid (fun W h => RNum_calls b S r 8 hSm W h)
              have HN2 := Lib.hid (fun W h => RNum_calls b S (inum r 8).2 1 hSm W h)
              have HN3 := Lib.hid (fun W h => RText_calls b S (inum (inum r 8).2 1).2 64 hSm W h)
              generalize itext (inum (inum r 8).2 1).2 64 = a3 at *
              generalize inum (inum r 8).2 1 = a2 at *
              generalize inum r 8 = a1 at *
              have hu8 : ((UInt8.ofNat a2.1).toNat : Int) = (a2.1 : Int) := by rw [UInt8.toNat_ofNat']; omega
              have HU8 := Lib.hid hu8
              have hw8 : IntKind.u8.wrap (a2.1 : Int) = (a2.1 : Int) := by rw [IntKind.wrap_u8]; omega
              rw [hr] at q2
              clear hu8 hr
              go_wp2_with fail
              refine (HN1.out _ hI.out.at_).mono ?_
              rintro e w4 ⟨rfl, h4, o4⟩
              have HI4 := Lib.hid (hI.out.only' h4 o4)
              clear h4 o4 p0 p1 r0 r1 rf q2
              go_wp2_with fail
              refine (HN2.out _ HI4.out.at_).mono ?_
              rintro e w5 ⟨rfl, h5, o5⟩
              have HI5 := Lib.hid (HI4.out.only' h5 o5)
              clear h5 o5 HI4
              go_wp2_with fail
              have y1 : w5.drew.cell? ⟨p, 1, none⟩ = some (.slice A4 m4 c4) := HI5.out.n.cell 1
              have HI5d := Lib.hid (HI5.out.below' (Below.refl w5.heap.size w5).drew)
              have g8 : IntKind.u8.wrap (a2.1 : Int) = (a2.1 : Int) := hw8
              go_region_law (first
                | (refine step_append_lies _ rfl (.tmp 52) (.tmp 59) 85 rfl (p + 1) 93 i0 _ 3 32 Try.underlying85 hi0 hz0 hz1 hz2 rfl (by decide) (.slice A4 m4 c4) l.length (css l) (by simp [Act.eval]) HI7.out.own ⟨w6.heap.size, 0, none⟩ 1 1 (css [⟨a1.1, UInt8.ofNat a2.1, bs a3.1⟩]) (by simp [Act.eval]) (css_length [_]) (HX7.out.cells _ rfl) (css_oneCell [_]) (by decide) (by unfold maxLen; omega) (by omega) hs7 _ rfl ?_; intro g9 cap9 w9 hown9 hgrow9 hat9 hlt9;
                   have hna : (∀ k, k ≤ p → some k ≠ (Value.slice A4 m4 c4).ownBlock) := (fun k hk e => by have := (HI7.out.own.lt k e.symm).1; omega);
                   have P9 := Lib.hid (has_grown HI7.out.n hgrow9 (hna _ (Nat.le_refl _)));
                   have c1 := P9.out.cell 1; have cf := P9.out.frozen)
                | (go_simp; go_at_call 41; refine (HN3.out _ HI5d.out.at_).mono ?_; rintro e w6 ⟨rfl, h6, o6⟩;
                   have HI6 := Lib.hid (HI5d.out.only' h6 o6);
                   have z1 := HI6.out.n.cell 1;
                   have hb7 := (Below.refl w6.heap.size w6).alloc (Nat.le_refl _) (.cells #[.int .u64 (a1.1 : Int), .int .u8 (a2.1 : Int), .string (bs a3.1)] 93);
                   have HI7 := Lib.hid (HI6.out.below' hb7);
                   have hx7 := Has.new w6 #[.int .u64 (a1.1 : Int), .int .u8 (a2.1 : Int), .string (bs a3.1)] 93;
                   rw [← HU8.out] at hx7;
                   have HX7 := Lib.hid (Nts.one (x := ⟨a1.1, UInt8.ofNat a2.1, bs a3.1⟩) hx7);
                   rw [HU8.out] at HX7;
                   have hs7 := HI7.out.n.lt;
                   have z2 := HI7.out.n.cell 1;
                   clear h6 o6 hb7 hx7))
              all_goals
                have hrow : ∀ k, k ≤ p → some k ≠ (Value.slice A4 m4 c4).ownBlock := fun k hk e => by have := (HI7.out.own.lt k e.symm).1; omega
                have R9 := Lib.hid (has_grown HI7.out.res hgrow9 (hrow _ (by omega)))
                have A9 := Lib.hid (RAt.grown HI7.out.at_ hgrow9 (hrow _ (by omega)))
                have O9 : Hid (Only b w w9) := Lib.hid ⟨hgrow9.os.trans HI7.out.only.os, hgrow9.tape.trans HI7.out.only.tape, hgrow9.output.trans HI7.out.only.output, Nat.le_trans HI7.out.only.size hgrow9.size, fun k hk hne => (hgrow9.block k (Nat.lt_of_lt_of_le hk HI7.out.only.size) (hrow k (by omega))).trans (HI7.out.only.block k hk hne)⟩
                rw [← css_append, hlj] at hown9
                have W9 := Lib.hid hown9
                clear hown9 hgrow9 hat9 hrow z1 z2 y1
                go_wp2_with fail
                refine ⟨⟨j + 1, l ++ [⟨a1.1, UInt8.ofNat a2.1, bs a3.1⟩], _, a3.2, by omega, by go_num, by simp [hlj], HS, Lib.hid ⟨O9.out.setCell (.inr (by dsimp only; omega)) _, RAt.set_other A9.out (by dsimp only; omega) _, R9.out.set_other (by dsimp only; omega) _, setOne1 P9.out _, ?_, hpos⟩⟩, by simp [intOf]; omega⟩
                rw [List.length_append, hlj]
                exact ownsRow_setCell_other W9.out (a := ⟨p, 1, none⟩) (fun e => by have := (W9.out.lt _ e).1; simp at this; omega) _
            · have hr' : (r.2 == 0) = false := by simpa using hr
              have hr2 : (r.2 != 0) = true := by simpa using hr
              have HF := Lib.hid (HEX.out (.inl hr))
              have HR2 := Lib.hid (show readN q = ((0, []), r) by rw [HRD.out, HF.out, if_pos hr])
              clear HEX hL
              go_wp2_with fail
              refine bodyPost_ret (v := .agg #[.int .u64 0, .slice none 0 0]) (by simp [results, Try.results62, go_sem, r0, r1]) rfl ?_
              rw [HR2.out]
              exact ⟨_, rfl, NS.nil _, RAt.set_other (RAt.set_other hI.out.at_ (by dsimp only; omega) _) (by dsimp only; omega) _, (hI.out.only.setCell (.inr (by dsimp only; omega)) _).setCell (.inr (by dsimp only; omega)) _, fun g h => by simp [Value.ownBlock] at h⟩
          · obtain rfl : j = many := by omega
            have HF := Lib.hid (HEX.out (.inr rfl))
            clear HEX hL
            by_cases hr : r.2 = 0
            · have HR2 := Lib.hid (show readN q = ((tot, l), r) by rw [HRD.out, HF.out, if_neg (by simp [hr])])
              rw [hr] at q2
              go_wp2_with fail
              refine bodyPost_ret (v := .agg #[.int .u64 (tot : Int), .slice A4 m4 c4]) (by simp [results, Try.results62, go_sem, r0, r1]) rfl ?_
              rw [HR2.out]
              have hne : ∀ k, k ≤ p → (Value.slice A4 m4 c4).ownBlock ≠ some k := fun k hk e => by have := (hI.out.own.lt k e).1; omega
              refine ⟨_, rfl, NS.of_own (ownsRow_setCell_other (ownsRow_setCell_other hI.out.own (a := ⟨w.heap.size, 0, none⟩) (hne w.heap.size (by omega)) _) (a := ⟨w.heap.size, 1, none⟩) (hne w.heap.size (by omega)) _), RAt.set_other (RAt.set_other hI.out.at_ (by dsimp only; omega) _) (by dsimp only; omega) _, (hI.out.only.setCell (.inr (by dsimp only; omega)) _).setCell (.inr (by dsimp only; omega)) _, fun g h => by have := (hI.out.own.lt g h).1; omega⟩
            · have hr2 : (r.2 != 0) = true := by simpa using hr
              have HR2 := Lib.hid (show readN q = ((0, []), r) by rw [HRD.out, HF.out, if_pos hr])
              clear hr
              go_wp2_with fail
              refine bodyPost_ret (v := .agg #[.int .u64 0, .slice none 0 0]) (by simp [results, Try.results62, go_sem, r0, r1]) rfl ?_
              rw [HR2.out]
              exact ⟨_, rfl, NS.nil _, RAt.set_other (RAt.set_other hI.out.at_ (by dsimp only; omega) _) (by dsimp only; omega) _, (hI.out.only.setCell (.inr (by dsimp only; omega)) _).setCell (.inr (by dsimp only; omega)) _, fun g h => by simp [Value.ownBlock] at h⟩
    · rw [if_neg e1] at HST
      rw [← HST] at HI2
      have HI3 := HI2
      clear HI2
      by_cases e2 : many = tot
      · have e1' : ((many : Int) != (tot : Int)) = false := by rw [e2]; simp
        clear e1 e2
        go_wp2_with fail
        clear hB
        have hsl2 : st.1.length ≤ 1000000 := by omega
        go_loopw [5] (fun kk wr => ∃ (j : Nat) (l : List Nt) (out : Value) (r : St), j ≤ many ∧ kk = .int .i64 j ∧ l.length = j ∧ Hid (loop many st = (l ++ (loop (many - j) r).1, (loop (many - j) r).2)) ∧ Hid (SdI w b S tot r p l out wr)) (fun kk _ => many - (intOf kk).toNat)
        case atStart => exact ⟨0, [], _, st, by omega, rfl, rfl, Lib.hid (by simp), HI3⟩
        case round =>
          obtain ⟨j, l, out, r, hj, rfl, hlj, hL, hI⟩ := hrel
          clear HI3
          have p0 := hI.out.n.cell 0
          have p1 := hI.out.n.cell 1
          have pl := hI.out.n.lt
          have r0 := hI.out.res.cell 0
          have r1 := hI.out.res.cell 1
          have rf := hI.out.res.frozen
          have q2 := hI.out.at_.code
          have hpos := hI.out.pos
          obtain ⟨A4, m4, c4, rfl⟩ := own_form hI.out.own
          have HEX : Hid (r.2 ≠ 0 ∨ j = many → loop many st = (l, r)) := Lib.hid (fun h => by
            rw [hL.out]
            rcases h with h | h
            · rw [loop_err h, List.append_nil]
            · rw [h, Nat.sub_self]
              simp [loop])
          by_cases hlt : j < many
          · by_cases hr : r.2 = 0
            · obtain ⟨n, hn⟩ : ∃ n, many - j = n + 1 := ⟨many - j - 1, by omega⟩
              have HS := Lib.hid (loop_step hr (by rw [← hn]; exact hL.out) : loop many st = _)
              rw [show n = many - (j + 1) by omega] at HS
              clear hn hL HEX
              have hr' : (r.2 == 0) = true := by rw [hr]; rfl
              have hta := inum_lt r 8
              have htb := num1_lt (inum r 8).2
              have HN1 := Lib.hid (fun W h => RNum_calls b S r 8 hSm W h)
              have HN2 := Lib.hid (fun W h => RNum_calls b S (inum r 8).2 1 hSm W h)
              have HN3 := Lib.hid (fun W h => RText_calls b S (inum (inum r 8).2 1).2 64 hSm W h)
              generalize itext (inum (inum r 8).2 1).2 64 = a3 at *
              generalize inum (inum r 8).2 1 = a2 at *
              generalize inum r 8 = a1 at *
              have hu8 : ((UInt8.ofNat a2.1).toNat : Int) = (a2.1 : Int) := by rw [UInt8.toNat_ofNat']; omega
              have HU8 := Lib.hid hu8
              have hw8 : IntKind.u8.wrap (a2.1 : Int) = (a2.1 : Int) := by rw [IntKind.wrap_u8]; omega
              rw [hr] at q2
              clear hu8 hr
              go_wp2_with fail
              refine (HN1.out _ hI.out.at_).mono ?_
              rintro e w4 ⟨rfl, h4, o4⟩
              have HI4 := Lib.hid (hI.out.only' h4 o4)
              clear h4 o4 p0 p1 r0 r1 rf q2
              go_wp2_with fail
              refine (HN2.out _ HI4.out.at_).mono ?_
              rintro e w5 ⟨rfl, h5, o5⟩
              have HI5 := Lib.hid (HI4.out.only' h5 o5)
              clear h5 o5 HI4
              go_wp2_with fail
              have y1 : w5.drew.cell? ⟨p, 1, none⟩ = some (.slice A4 m4 c4) := HI5.out.n.cell 1
              have HI5d := Lib.hid (HI5.out.below' (Below.refl w5.heap.size w5).drew)
              have g8 : IntKind.u8.wrap (a2.1 : Int) = (a2.1 : Int) := hw8
              go_region_law (first
                | (refine step_append_lies _ rfl (.tmp 52) (.tmp 59) 85 rfl (p + 1) 93 i0 _ 3 32 Try.underlying85 hi0 hz0 hz1 hz2 rfl (by decide) (.slice A4 m4 c4) l.length (css l) (by simp [Act.eval]) HI7.out.own ⟨w6.heap.size, 0, none⟩ 1 1 (css [⟨a1.1, UInt8.ofNat a2.1, bs a3.1⟩]) (by simp [Act.eval]) (css_length [_]) (HX7.out.cells _ rfl) (css_oneCell [_]) (by decide) (by unfold maxLen; omega) (by omega) hs7 _ rfl ?_; intro g9 cap9 w9 hown9 hgrow9 hat9 hlt9;
                   have hna : (∀ k, k ≤ p → some k ≠ (Value.slice A4 m4 c4).ownBlock) := (fun k hk e => by have := (HI7.out.own.lt k e.symm).1; omega);
                   have P9 := Lib.hid (has_grown HI7.out.n hgrow9 (hna _ (Nat.le_refl _)));
                   have c1 := P9.out.cell 1; have cf := P9.out.frozen)
                | (go_simp; go_at_call 41; refine (HN3.out _ HI5d.out.at_).mono ?_; rintro e w6 ⟨rfl, h6, o6⟩;
                   have HI6 := Lib.hid (HI5d.out.only' h6 o6);
                   have z1 := HI6.out.n.cell 1;
                   have hb7 := (Below.refl w6.heap.size w6).alloc (Nat.le_refl _) (.cells #[.int .u64 (a1.1 : Int), .int .u8 (a2.1 : Int), .string (bs a3.1)] 93);
                   have HI7 := Lib.hid (HI6.out.below' hb7);
                   have hx7 := Has.new w6 #[.int .u64 (a1.1 : Int), .int .u8 (a2.1 : Int), .string (bs a3.1)] 93;
                   rw [← HU8.out] at hx7;
                   have HX7 := Lib.hid (Nts.one (x := ⟨a1.1, UInt8.ofNat a2.1, bs a3.1⟩) hx7);
                   rw [HU8.out] at HX7;
                   have hs7 := HI7.out.n.lt;
                   have z2 := HI7.out.n.cell 1;
                   clear h6 o6 hb7 hx7))
              all_goals
                have hrow : ∀ k, k ≤ p → some k ≠ (Value.slice A4 m4 c4).ownBlock := fun k hk e => by have := (HI7.out.own.lt k e.symm).1; omega
                have R9 := Lib.hid (has_grown HI7.out.res hgrow9 (hrow _ (by omega)))
                have A9 := Lib.hid (RAt.grown HI7.out.at_ hgrow9 (hrow _ (by omega)))
                have O9 : Hid (Only b w w9) := Lib.hid ⟨hgrow9.os.trans HI7.out.only.os, hgrow9.tape.trans HI7.out.only.tape, hgrow9.output.trans HI7.out.only.output, Nat.le_trans HI7.out.only.size hgrow9.size, fun k hk hne => (hgrow9.block k (Nat.lt_of_lt_of_le hk HI7.out.only.size) (hrow k (by omega))).trans (HI7.out.only.block k hk hne)⟩
                rw [← css_append, hlj] at hown9
                have W9 := Lib.hid hown9
                clear hown9 hgrow9 hat9 hrow z1 z2 y1
                go_wp2_with fail
                refine ⟨⟨j + 1, l ++ [⟨a1.1, UInt8.ofNat a2.1, bs a3.1⟩], _, a3.2, by omega, by go_num, by simp [hlj], HS, Lib.hid ⟨O9.out.setCell (.inr (by dsimp only; omega)) _, RAt.set_other A9.out (by dsimp only; omega) _, R9.out.set_other (by dsimp only; omega) _, setOne1 P9.out _, ?_, hpos⟩⟩, by simp [intOf]; omega⟩
                rw [List.length_append, hlj]
                exact ownsRow_setCell_other W9.out (a := ⟨p, 1, none⟩) (fun e => by have := (W9.out.lt _ e).1; simp at this; omega) _
            · have hr' : (r.2 == 0) = false := by simpa using hr
              have hr2 : (r.2 != 0) = true := by simpa using hr
              have HF := Lib.hid (HEX.out (.inl hr))
              have HR2 := Lib.hid (show readN q = ((0, []), r) by rw [HRD.out, HF.out, if_pos hr])
              clear HEX hL
              go_wp2_with fail
              refine bodyPost_ret (v := .agg #[.int .u64 0, .slice none 0 0]) (by simp [results, Try.results62, go_sem, r0, r1]) rfl ?_
              rw [HR2.out]
              exact ⟨_, rfl, NS.nil _, RAt.set_other (RAt.set_other hI.out.at_ (by dsimp only; omega) _) (by dsimp only; omega) _, (hI.out.only.setCell (.inr (by dsimp only; omega)) _).setCell (.inr (by dsimp only; omega)) _, fun g h => by simp [Value.ownBlock] at h⟩
          · obtain rfl : j = many := by omega
            have HF := Lib.hid (HEX.out (.inr rfl))
            clear HEX hL
            by_cases hr : r.2 = 0
            · have HR2 := Lib.hid (show readN q = ((tot, l), r) by rw [HRD.out, HF.out, if_neg (by simp [hr])])
              rw [hr] at q2
              go_wp2_with fail
              refine bodyPost_ret (v := .agg #[.int .u64 (tot : Int), .slice A4 m4 c4]) (by simp [results, Try.results62, go_sem, r0, r1]) rfl ?_
              rw [HR2.out]
              have hne : ∀ k, k ≤ p → (Value.slice A4 m4 c4).ownBlock ≠ some k := fun k hk e => by have := (hI.out.own.lt k e).1; omega
              refine ⟨_, rfl, NS.of_own (ownsRow_setCell_other (ownsRow_setCell_other hI.out.own (a := ⟨w.heap.size, 0, none⟩) (hne w.heap.size (by omega)) _) (a := ⟨w.heap.size, 1, none⟩) (hne w.heap.size (by omega)) _), RAt.set_other (RAt.set_other hI.out.at_ (by dsimp only; omega) _) (by dsimp only; omega) _, (hI.out.only.setCell (.inr (by dsimp only; omega)) _).setCell (.inr (by dsimp only; omega)) _, fun g h => by have := (hI.out.own.lt g h).1; omega⟩
            · have hr2 : (r.2 != 0) = true := by simpa using hr
              have HR2 := Lib.hid (show readN q = ((0, []), r) by rw [HRD.out, HF.out, if_pos hr])
              clear hr
              go_wp2_with fail
              refine bodyPost_ret (v := .agg #[.int .u64 0, .slice none 0 0]) (by simp [results, Try.results62, go_sem, r0, r1]) rfl ?_
              rw [HR2.out]
              exact ⟨_, rfl, NS.nil _, RAt.set_other (RAt.set_other hI.out.at_ (by dsimp only; omega) _) (by dsimp only; omega) _, (hI.out.only.setCell (.inr (by dsimp only; omega)) _).setCell (.inr (by dsimp only; omega)) _, fun g h => by simp [Value.ownBlock] at h⟩
      · have e1' : ((many : Int) != (tot : Int)) = true := bne_iff_ne.2 (by omega)
        have e4 : many = 32 ∧ 32 < tot := Decidable.byContradiction fun h => e1 ⟨e2, h⟩
        obtain ⟨e5, e6⟩ := e4
        have e5' : ((many : Int) == 32) = true := by rw [e5]; rfl
        have e6' : decide ((32 : Int) < (tot : Int)) = true := decide_eq_true (by omega)
        clear e1 e2 e5
        go_wp2_with fail
        clear hB
        have hsl2 : st.1.length ≤ 1000000 := by omega
        go_loopw [5] (fun kk wr => ∃ (j : Nat) (l : List Nt) (out : Value) (r : St), j ≤ many ∧ kk = .int .i64 j ∧ l.length = j ∧ Hid (loop many st = (l ++ (loop (many - j) r).1, (loop (many - j) r).2)) ∧ Hid (SdI w b S tot r p l out wr)) (fun kk _ => many - (intOf kk).toNat)
        case atStart => exact ⟨0, [], _, st, by omega, rfl, rfl, Lib.hid (by simp), HI3⟩
        case round =>
          obtain ⟨j, l, out, r, hj, rfl, hlj, hL, hI⟩ := hrel
          clear HI3
          have p0 := hI.out.n.cell 0
          have p1 := hI.out.n.cell 1
          have pl := hI.out.n.lt
          have r0 := hI.out.res.cell 0
          have r1 := hI.out.res.cell 1
          have rf := hI.out.res.frozen
          have q2 := hI.out.at_.code
          have hpos := hI.out.pos
          obtain ⟨A4, m4, c4, rfl⟩ := own_form hI.out.own
          have HEX : Hid (r.2 ≠ 0 ∨ j = many → loop many st = (l, r)) := Lib.hid (fun h => by
            rw [hL.out]
            rcases h with h | h
            · rw [loop_err h, List.append_nil]
            · rw [h, Nat.sub_self]
              simp [loop])
          by_cases hlt : j < many
          · by_cases hr : r.2 = 0
            · obtain ⟨n, hn⟩ : ∃ n, many - j = n + 1 := ⟨many - j - 1, by omega⟩
              have HS := Lib.hid (loop_step hr (by rw [← hn]; exact hL.out) : loop many st = _)
              rw [show n = many - (j + 1) by omega] at HS
              clear hn hL HEX
              have hr' : (r.2 == 0) = true := by rw [hr]; rfl
              have hta := inum_lt r 8
              have htb := num1_lt (inum r 8).2
              have HN1 := Lib.hid (fun W h => RNum_calls b S r 8 hSm W h)
              have HN2 := Lib.hid (fun W h => RNum_calls b S (inum r 8).2 1 hSm W h)
              have HN3 := Lib.hid (fun W h => RText_calls b S (inum (inum r 8).2 1).2 64 hSm W h)
              generalize itext (inum (inum r 8).2 1).2 64 = a3 at *
              generalize inum (inum r 8).2 1 = a2 at *
              generalize inum r 8 = a1 at *
              have hu8 : ((UInt8.ofNat a2.1).toNat : Int) = (a2.1 : Int) := by rw [UInt8.toNat_ofNat']; omega
              have HU8 := Lib.hid hu8
              have hw8 : IntKind.u8.wrap (a2.1 : Int) = (a2.1 : Int) := by rw [IntKind.wrap_u8]; omega
              rw [hr] at q2
              clear hu8 hr
              go_wp2_with fail
              refine (HN1.out _ hI.out.at_).mono ?_
              rintro e w4 ⟨rfl, h4, o4⟩
              have HI4 := Lib.hid (hI.out.only' h4 o4)
              clear h4 o4 p0 p1 r0 r1 rf q2
              go_wp2_with fail
              refine (HN2.out _ HI4.out.at_).mono ?_
              rintro e w5 ⟨rfl, h5, o5⟩
              have HI5 := Lib.hid (HI4.out.only' h5 o5)
              clear h5 o5 HI4
              go_wp2_with fail
              have y1 : w5.drew.cell? ⟨p, 1, none⟩ = some (.slice A4 m4 c4) := HI5.out.n.cell 1
              have HI5d := Lib.hid (HI5.out.below' (Below.refl w5.heap.size w5).drew)
              have g8 : IntKind.u8.wrap (a2.1 : Int) = (a2.1 : Int) := hw8
              go_region_law (first
                | (refine step_append_lies _ rfl (.tmp 52) (.tmp 59) 85 rfl (p + 1) 93 i0 _ 3 32 Try.underlying85 hi0 hz0 hz1 hz2 rfl (by decide) (.slice A4 m4 c4) l.length (css l) (by simp [Act.eval]) HI7.out.own ⟨w6.heap.size, 0, none⟩ 1 1 (css [⟨a1.1, UInt8.ofNat a2.1, bs a3.1⟩]) (by simp [Act.eval]) (css_length [_]) (HX7.out.cells _ rfl) (css_oneCell [_]) (by decide) (by unfold maxLen; omega) (by omega) hs7 _ rfl ?_; intro g9 cap9 w9 hown9 hgrow9 hat9 hlt9;
                   have hna : (∀ k, k ≤ p → some k ≠ (Value.slice A4 m4 c4).ownBlock) := (fun k hk e => by have := (HI7.out.own.lt k e.symm).1; omega);
                   have P9 := Lib.hid (has_grown HI7.out.n hgrow9 (hna _ (Nat.le_refl _)));
                   have c1 := P9.out.cell 1; have cf := P9.out.frozen)
                | (go_simp; go_at_call 41; refine (HN3.out _ HI5d.out.at_).mono ?_; rintro e w6 ⟨rfl, h6, o6⟩;
                   have HI6 := Lib.hid (HI5d.out.only' h6 o6);
                   have z1 := HI6.out.n.cell 1;
                   have hb7 := (Below.refl w6.heap.size w6).alloc (Nat.le_refl _) (.cells #[.int .u64 (a1.1 : Int), .int .u8 (a2.1 : Int), .string (bs a3.1)] 93);
                   have HI7 := Lib.hid (HI6.out.below' hb7);
                   have hx7 := Has.new w6 #[.int .u64 (a1.1 : Int), .int .u8 (a2.1 : Int), .string (bs a3.1)] 93;
                   rw [← HU8.out] at hx7;
                   have HX7 := Lib.hid (Nts.one (x := ⟨a1.1, UInt8.ofNat a2.1, bs a3.1⟩) hx7);
                   rw [HU8.out] at HX7;
                   have hs7 := HI7.out.n.lt;
                   have z2 := HI7.out.n.cell 1;
                   clear h6 o6 hb7 hx7))
              all_goals
                have hrow : ∀ k, k ≤ p → some k ≠ (Value.slice A4 m4 c4).ownBlock := fun k hk e => by have := (HI7.out.own.lt k e.symm).1; omega
                have R9 := Lib.hid (has_grown HI7.out.res hgrow9 (hrow _ (by omega)))
                have A9 := Lib.hid (RAt.grown HI7.out.at_ hgrow9 (hrow _ (by omega)))
                have O9 : Hid (Only b w w9) := Lib.hid ⟨hgrow9.os.trans HI7.out.only.os, hgrow9.tape.trans HI7.out.only.tape, hgrow9.output.trans HI7.out.only.output, Nat.le_trans HI7.out.only.size hgrow9.size, fun k hk hne => (hgrow9.block k (Nat.lt_of_lt_of_le hk HI7.out.only.size) (hrow k (by omega))).trans (HI7.out.only.block k hk hne)⟩
                rw [← css_append, hlj] at hown9
                have W9 := Lib.hid hown9
                clear hown9 hgrow9 hat9 hrow z1 z2 y1
                go_wp2_with fail
                refine ⟨⟨j + 1, l ++ [⟨a1.1, UInt8.ofNat a2.1, bs a3.1⟩], _, a3.2, by omega, by go_num, by simp [hlj], HS, Lib.hid ⟨O9.out.setCell (.inr (by dsimp only; omega)) _, RAt.set_other A9.out (by dsimp only; omega) _, R9.out.set_other (by dsimp only; omega) _, setOne1 P9.out _, ?_, hpos⟩⟩, by simp [intOf]; omega⟩
                rw [List.length_append, hlj]
                exact ownsRow_setCell_other W9.out (a := ⟨p, 1, none⟩) (fun e => by have := (W9.out.lt _ e).1; simp at this; omega) _
            · have hr' : (r.2 == 0) = false := by simpa using hr
              have hr2 : (r.2 != 0) = true := by simpa using hr
              have HF := Lib.hid (HEX.out (.inl hr))
              have HR2 := Lib.hid (show readN q = ((0, []), r) by rw [HRD.out, HF.out, if_pos hr])
              clear HEX hL
              go_wp2_with fail
              refine bodyPost_ret (v := .agg #[.int .u64 0, .slice none 0 0]) (by simp [results, Try.results62, go_sem, r0, r1]) rfl ?_
              rw [HR2.out]
              exact ⟨_, rfl, NS.nil _, RAt.set_other (RAt.set_other hI.out.at_ (by dsimp only; omega) _) (by dsimp only; omega) _, (hI.out.only.setCell (.inr (by dsimp only; omega)) _).setCell (.inr (by dsimp only; omega)) _, fun g h => by simp [Value.ownBlock] at h⟩
          · obtain rfl : j = many := by omega
            have HF := Lib.hid (HEX.out (.inr rfl))
            clear HEX hL
            by_cases hr : r.2 = 0
            · have HR2 := Lib.hid (show readN q = ((tot, l), r) by rw [HRD.out, HF.out, if_neg (by simp [hr])])
              rw [hr] at q2
              go_wp2_with fail
              refine bodyPost_ret (v := .agg #[.int .u64 (tot : Int), .slice A4 m4 c4]) (by simp [results, Try.results62, go_sem, r0, r1]) rfl ?_
              rw [HR2.out]
              have hne : ∀ k, k ≤ p → (Value.slice A4 m4 c4).ownBlock ≠ some k := fun k hk e => by have := (hI.out.own.lt k e).1; omega
              refine ⟨_, rfl, NS.of_own (ownsRow_setCell_other (ownsRow_setCell_other hI.out.own (a := ⟨w.heap.size, 0, none⟩) (hne w.heap.size (by omega)) _) (a := ⟨w.heap.size, 1, none⟩) (hne w.heap.size (by omega)) _), RAt.set_other (RAt.set_other hI.out.at_ (by dsimp only; omega) _) (by dsimp only; omega) _, (hI.out.only.setCell (.inr (by dsimp only; omega)) _).setCell (.inr (by dsimp only; omega)) _, fun g h => by have := (hI.out.own.lt g h).1; omega⟩
            · have hr2 : (r.2 != 0) = true := by simpa using hr
              have HR2 := Lib.hid (show readN q = ((0, []), r) by rw [HRD.out, HF.out, if_pos hr])
              clear hr
              go_wp2_with fail
              refine bodyPost_ret (v := .agg #[.int .u64 0, .slice none 0 0]) (by simp [results, Try.results62, go_sem, r0, r1]) rfl ?_
              rw [HR2.out]
              exact ⟨_, rfl, NS.nil _, RAt.set_other (RAt.set_other hI.out.at_ (by dsimp only; omega) _) (by dsimp only; omega) _, (hI.out.only.setCell (.inr (by dsimp only; omega)) _).setCell (.inr (by dsimp only; omega)) _, fun g h => by simp [Value.ownBlock] at h⟩
end Go.Proofs.Ytopacbmdoognjaa.Not
