/- The walk of FeedCuts. -/
import Derived.Test.YtopacbmdoognjaaDoorFeedFrames
namespace Go.Proofs.YtopacbmdoognjaaDoor.Fd
open Go Go.RowKit Frame Oct Frm
theorem FL.set {b i : Nat} {v : Value} {l : List Fm} {w : World} (h : FL v l w) (hne : v.ownBlock ≠ some b) (x : Value) : FL v l (w.setCell ⟨b, i, none⟩ x) := by
  obtain ⟨A, c, rfl, h1, h2, h3, h4⟩ := h
  refine ⟨A, c, rfl, h1, h2, h3, fun h0 => ?_⟩
  obtain ⟨g, off, rfl, hlt, hi⟩ := h4 h0
  have hb : g ≠ b := fun e => hne (by rw [e]; rfl)
  refine ⟨g, off, rfl, by simpa [World.setCell] using hlt, fun j hj => ?_⟩
  obtain ⟨c0, c1, c2⟩ := hi j hj
  have hc : ∀ o, (w.setCell ⟨b, i, none⟩ x).cell? ⟨g, o, none⟩ = w.cell? ⟨g, o, none⟩ := fun o => World.cell?_of_block (Below.heap_setCell w ⟨b, i, none⟩ x g hb)
  exact ⟨by rw [hc]; exact c0, by rw [hc]; exact c1, by rw [hc]; exact c2⟩
set_option maxRecDepth 100000 in
set_option maxHeartbeats 800000 in
theorem FeedCuts_walk (s : ByteArray) (at_ : Nat) (hat : at_ < 65536) (w : World) (hT : Crc.Tab w) :
    Calls Tryd.prog 17 #[.string s, .int .u16 (at_ : Int)] w fun e w' => e = .returned (.bool true) ∧ Below w.heap.size w w' := by
  obtain ⟨l, rfl⟩ : ∃ l, s = bs l := ⟨s.data.toList, (bs_self s).symm⟩
  have hz : (bs l).size = l.length := bs_size _
  have HT := Lib.hid hT
  clear hT
  go_enter Tryd.func17, Tryd.ntmps17
  go_wp2_with fail
  refine (awake_calls _ HT.out).mono ?_
  rintro e w1 ⟨rfl, b1⟩
  have HT1 := Lib.hid (HT.out.below b1)
  have B1 := Lib.hid b1
  clear b1 HT
  by_cases h15 : 1500 < l.length
  · go_wp2_with fail
    go_ret
    exact ⟨rfl, B1.out⟩
  · obtain ⟨k, hk⟩ : ∃ k, at_ % (l.length + 1) = k := ⟨_, rfl⟩
    have hkl : k ≤ l.length := by have := Nat.mod_lt at_ (show 0 < l.length + 1 by omega); omega
    have hkk : (at_ : Int) % ((l.length + 1 : Nat) : Int) = (k : Int) := by rw [← hk]; exact (Int.natCast_emod _ _).symm
    have hkk2 : (at_ : Int) % ((l.length : Int) + 1) = (k : Int) := hkk
    have HT0 := Lib.hid (fun W h => Take_calls ([], 0) l (by simp only [List.length_nil]; omega) W h)
    have HTa := Lib.hid (fun W h => Take_calls ([], 0) (l.take k) (by simp only [List.length_nil, List.length_take]; omega) W h)
    have hr1 := all_rest (l.take k).length (l.take k) (Nat.le_refl _)
    have hr0 := all_rest l.length l (Nat.le_refl _)
    have HTb := Lib.hid (fun W h => Take_calls (all (l.take k)).2 (l.drop k) (by have := hr1.2.1; rw [List.length_take] at this; rw [List.length_drop]; omega) W h)
    have hta := take_all (l.take k) (l.drop k)
    rw [List.take_append_drop] at hta
    rw [show take ([], 0) l = ((all l).2, (all l).1) by unfold take; rw [if_neg (by simp), List.nil_append]] at HT0
    rw [show take ([], 0) (l.take k) = ((all (l.take k)).2, (all (l.take k)).1) by unfold take; rw [if_neg (by simp), List.nil_append]] at HTa
    have HR0 := Lib.hid hr0
    have hlf1 : (all (l.take k)).1.length ≤ 200 := by have := hr1.2.2.1; rw [List.length_take] at this; omega
    have hlf0 : (all l).1.length ≤ 200 := by have := hr0.2.2.1; omega
    clear hr1 hr0 hk
    generalize take (all (l.take k)).2 (l.drop k) = t2 at *
    generalize all (l.take k) = a1 at *
    obtain ⟨fs1, r1, e1⟩ := a1
    obtain ⟨⟨r2, e2⟩, fs2⟩ := t2
    rw [hta] at HT0 HR0 hlf0
    have hr57 := HR0.out.1
    have hx1 : (bs l).extract 0 k = bs (l.take k) := extract_to _ _
    have hx2 : (bs l).extract k l.length = bs (l.drop k) := extract_from _ _
    have hzr : (bs r2).size = r2.length := bs_size _
    unfold DV at HT0 HTa HTb
    simp only at HT0 HTa HTb hlf1 hlf0 hr57
    have hlf2 : fs2.length ≤ 200 := by rw [List.length_append] at hlf0; omega
    have HLF := Lib.hid hlf0
    clear hta HR0 hlf0
    generalize l.take k = lt at *
    generalize l.drop k = ld at *
    go_wp2_with fail
    refine (HT0.out _ HT1.out).mono ?_
    rintro e w2 ⟨v2, rfl, hv2, -, b2⟩
    have hb2 := (Below.refl w2.heap.size w2).alloc (Nat.le_refl _) (.cells #[.string (bs r2), .int .i64 e2] 67)
    have V2 := Lib.hid (hv2.below hb2)
    have HF2 := Lib.hid (Has.new w2 #[.string (bs r2), .int .i64 e2] 67)
    have HT2 := Lib.hid (HT1.out.below (bthen b2 hb2))
    have B2 := Lib.hid (bthen B1.out (bthen b2 hb2))
    clear b2 hb2 hv2 HT1 B1
    go_wp2_with fail
    generalize w2.alloc (.cells #[.string (bs r2), .int .i64 e2] 67) = w2a at *
    generalize w2.heap.size = p2 at *
    refine (HTa.out _ HT2.out).mono ?_
    rintro e w3 ⟨v3, rfl, hv3, -, b3⟩
    have hb3 := (Below.refl w3.heap.size w3).alloc (Nat.le_refl _) (.cells #[.string (bs r1), .int .i64 e1] 67)
    have V3 := Lib.hid (hv3.below hb3)
    have HG3 := Lib.hid (Has.new w3 #[.string (bs r1), .int .i64 e1] 67)
    have V2b := Lib.hid ((V2.out.below b3).below hb3)
    have HF3 := Lib.hid ((HF2.out.below b3).below hb3)
    have HT3 := Lib.hid (HT2.out.below (bthen b3 hb3))
    have B3 := Lib.hid (bthen B2.out (bthen b3 hb3))
    clear b3 hb3 hv3 HT2 B2 V2 HF2
    go_wp2_with fail
    generalize w3.alloc (.cells #[.string (bs r1), .int .i64 e1] 67) = w3a at *
    generalize w3.heap.size = p3 at *
    have HD := Lib.hid HG3.out.drew
    have HTe : Hid (Crc.Tab w3a.drew) := Lib.hid (HT3.out.below (Below.refl _ _).drew)
    have y0 : w3a.drew.cell? ⟨p3, 0, none⟩ = some (.string (bs r1)) := HD.out.cell 0
    have y1 : w3a.drew.cell? ⟨p3, 1, none⟩ = some (.int .i64 e1) := HD.out.cell 1
    have g1 : (k : Int) ≤ (l.length : Int) := by omega
    have hlt3 := HG3.out.lt
    go_region_held3 (fun w' => w'.cell? ⟨p3, 0, none⟩ = some (.string (bs r1)) ∧ w'.cell? ⟨p3, 1, none⟩ = some (.int .i64 e1))
      ((refine two (t := 67) ?_; repeat (first | (with_reducible exact HG3.out) | (with_reducible refine Has.drew ?_) | (with_reducible refine Has.alloc ?_ _) | (with_reducible refine Has.below ?_ (by with_reducible assumption)) | (with_reducible refine Has.set_other ?_ (by dsimp only; omega) _))))
      (first
        | (go_at_call 46; refine Calls.mono (HTb.out _ ?_) ?_; (first | (with_reducible exact HTe.out) | (with_reducible exact HT3.out.below (((Below.refl _ _).alloc (Nat.le_refl _) _).drew))); rintro e w4 ⟨v4, rfl, hv4, n4, b4⟩;
             (try have hA4 : Has w3a.heap.size #[.string ⟨#[]⟩, .int .i64 0] 67 w4 := by with_reducible exact ((Has.new w3a #[.string ⟨#[]⟩, .int .i64 0] 67).drew).below b4);
             (try (have c0 := hA4.cell 0; have c1 := hA4.cell 1; have cf := hA4.frozen))))
    all_goals
      have q4 : Below w3a.heap.size w3a w4 := by first | (with_reducible exact after_drew b4) | (with_reducible exact after_alloc (after_drew b4))
      have Q4 := Lib.hid q4
      clear q4
      first
        | (have hne : v4.ownBlock ≠ some w3a.heap.size := (fun e => by have h := n4 _ e; have h2 : w3a.heap.size + 1 ≤ w3a.heap.size := (by simpa using h); omega);
           have H5 := Lib.hid (setTwo hA4 (.string (bs r2)) (.int .i64 e2));
           have Q5 := Lib.hid ((Q4.out.setCell (p := ⟨w3a.heap.size, 0, none⟩) (Nat.le_refl _) (.string (bs r2))).setCell (p := ⟨w3a.heap.size, 1, none⟩) (Nat.le_refl _) (.int .i64 e2));
           have V5 := Lib.hid ((hv4.set (i := 0) hne (.string (bs r2))).set (i := 1) hne (.int .i64 e2));
           clear b4 n4 hA4 c0 c1 cf hv4 hne;
           generalize (w4.setCell ⟨w3a.heap.size, 0, none⟩ (.string (bs r2))).setCell ⟨w3a.heap.size, 1, none⟩ (.int .i64 e2) = w5 at *;
           obtain ⟨p5, hp5⟩ : ∃ p, p = w3a.heap.size := ⟨_, rfl⟩;
           rw [← hp5] at H5 ⊢; clear hp5)
        | (have H5 := Lib.hid (Has.new w4 #[.string (bs r2), .int .i64 e2] 67);
           have Q5 := Lib.hid (Q4.out.alloc Q4.out.size (.cells #[.string (bs r2), .int .i64 e2] 67));
           have V5 := Lib.hid (hv4.below ((Below.refl w4.heap.size w4).alloc (Nat.le_refl _) (.cells #[.string (bs r2), .int .i64 e2] 67)));
           clear b4 n4 hv4;
           generalize w4.alloc (.cells #[.string (bs r2), .int .i64 e2] 67) = w5 at *;
           obtain ⟨p5, hp5⟩ : ∃ p, p = w4.heap.size := ⟨_, rfl⟩;
           rw [← hp5] at H5 ⊢; clear hp5)
      have V2c := V2b.out.below Q5.out
      have V3c := V3.out.below Q5.out
      have F5 := Lib.hid (HF3.out.below Q5.out)
      have B5 := Lib.hid (bthen B3.out Q5.out)
      obtain ⟨A2, c2, rfl, -, -, -, hs2⟩ := V2c
      obtain ⟨A3, c3, rfl, -, -, hn3, hs3⟩ := V3c
      obtain ⟨A4, c4, rfl, -, -, hn4, hs4⟩ := V5.out
      have S2 := Lib.hid hs2
      have S3 := Lib.hid hs3
      have S4 := Lib.hid hs4
      have HCC := Lib.hid (fun p W h1 h2 h3 => Concat_calls p A3 A4 c3 c4 fs1 fs2 (by omega) (by omega) hn3 hn4 W h1 h2 h3)
      have HLE : Hid ((fs1 ++ fs2).length ≤ maxLen) := Lib.hid (by have := HLF.out; unfold maxLen; omega)
      clear hs2 hs3 hs4 hn3 hn4 V5 V2b V3 HF3 HT0 HTa HTb y0 y1
      generalize fs1 ++ fs2 = F at *
      have HEQ := Lib.hid (fun B d W h1 h2 => EqualF_calls A2 B c2 d F HLE.out W h1 h2)
      have HR := Lib.hid (fun W => Rest_calls (r2, e2) W)
      have HE := Lib.hid (fun W => Err_calls (r2, e2) W)
      unfold DV at HR HE
      simp only at HR HE
      have hlt5 := H5.out.lt
      have hlf5 := F5.out.lt
      go_wp2_with fail
      have u0 : w5.drew.cell? ⟨p2, 0, none⟩ = some (.string (bs r2)) := F5.out.cell 0
      have u1 : w5.drew.cell? ⟨p2, 1, none⟩ = some (.int .i64 e2) := F5.out.cell 1
      have v0 : w5.drew.cell? ⟨p5, 0, none⟩ = some (.string (bs r2)) := H5.out.cell 0
      have v1 : w5.drew.cell? ⟨p5, 1, none⟩ = some (.int .i64 e2) := H5.out.cell 1
      have hb7 : (r2.length : Int) < 2057 := by omega
      go_region_held3 (fun w' => (w'.cell? ⟨p2, 0, none⟩ = some (.string (bs r2)) ∧ w'.cell? ⟨p2, 1, none⟩ = some (.int .i64 e2)) ∧ (w'.cell? ⟨p5, 0, none⟩ = some (.string (bs r2)) ∧ w'.cell? ⟨p5, 1, none⟩ = some (.int .i64 e2)) ∧ Below w5.heap.size w5 w')
        ((refine ⟨two (t := 67) ?_, two (t := 67) ?_, ?_⟩ <;> repeat (first | (with_reducible exact F5.out) | (with_reducible exact H5.out) | (with_reducible exact Below.refl _ _) | (with_reducible refine Has.drew ?_) | (with_reducible refine Has.alloc ?_ _) | (with_reducible refine Has.below ?_ (by with_reducible assumption)) | (with_reducible refine Below.drew ?_) | (with_reducible refine Below.alloc ?_ (by simp) _) | (with_reducible refine bthen ?_ (by with_reducible assumption)))))
        (first
          | (go_at_call 52; refine Calls.mono (HCC.out w5.heap.size _ ((Has.new w5 _ _).drew) (S3.out.below (((Below.refl _ _).alloc (Nat.le_refl _) _).drew)) (S4.out.below (((Below.refl _ _).alloc (Nat.le_refl _) _).drew))) ?_; rintro e w6 ⟨v6, rfl, ⟨A6, c6, rfl, -, -, -, hs6⟩, b6⟩)
          | (go_at_call 51; refine Calls.mono (HEQ.out A6 c6 _ ((S2.out.below (((Below.refl _ _).alloc (Nat.le_refl _) _).drew)).below b6) hs6) ?_; rintro e w7 ⟨rfl, b7⟩)
          | (go_at_call 49; refine Calls.mono (HR.out _) ?_; rintro e w8 ⟨rfl, b8⟩)
          | (go_at_call 50; refine Calls.mono (HE.out _) ?_; rintro e w8 ⟨rfl, b8⟩))
      all_goals
        go_wp2_with fail
        go_ret
        refine ⟨rfl, bthen B5.out ?_⟩
        repeat (first | (with_reducible exact Below.refl _ _) | (with_reducible refine Below.drew ?_) | (with_reducible refine bthen ?_ (by with_reducible assumption)) | (with_reducible refine Below.alloc ?_ (by simp) _))
end Go.Proofs.YtopacbmdoognjaaDoor.Fd
