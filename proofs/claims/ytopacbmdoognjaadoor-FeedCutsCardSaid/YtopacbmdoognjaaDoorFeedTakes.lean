/- The walks of the chapter's example and of FeedTakes. -/
import Derived.Test.YtopacbmdoognjaaDoorFeedEq
namespace Go.Proofs.YtopacbmdoognjaaDoor.Fd
open Go Go.RowKit Frame Oct Frm
theorem Awake7_calls (w : World) (hT : Crc.Tab w) : Calls Tryd.prog 88 #[] w fun e w' => e = .returned (.bool true) ∧ Below w.heap.size w w' := by
  have HT := Lib.hid hT
  clear hT
  go_enter Tryd.func88, Tryd.ntmps88
  go_wp2_with fail
  refine (Frm.awake_calls _ HT.out).mono ?_
  rintro e w1 ⟨rfl, b1⟩
  have B1 := Lib.hid b1
  clear b1
  go_wp2_with fail
  go_ret
  exact ⟨rfl, B1.out⟩
theorem take_all (s c : List UInt8) : all (s ++ c) = ((all s).1 ++ (take (all s).2 c).2, (take (all s).2 c).1) := by
  rw [all_append s.length s c (Nat.le_refl _)]
  unfold take
  generalize all s = q
  obtain ⟨fs, r, e⟩ := q
  simp only
  by_cases he : e ≠ 0
  · rw [if_pos he, if_pos he]
    simp
  · rw [if_neg he, if_neg he]
def exF : Fm := ⟨1, 2, [97, 98]⟩
theorem ex_len : (Frm.bytes exF).length = 11 := bytes_length exF
theorem ex_one : all (Frm.bytes exF) = ([exF], [], 0) := by
  have := all_bytes [exF] (by simp [exF])
  simpa using this
theorem ex_two : all (Frm.bytes exF ++ (Frm.bytes exF).take 5) = ([exF], (Frm.bytes exF).take 5, 0) := by
  have hs : (parse ((Frm.bytes exF).take 5)).2.2 = 3 := by rw [parse_short exF 5 (by decide) (by decide)]
  have hp := parse_bytes exF ((Frm.bytes exF).take 5) (by decide)
  rw [all_cons (by rw [hp]), hp]
  simp only
  rw [List.drop_left' (bytes_length exF), all_short hs]
set_option maxRecDepth 100000 in
set_option maxHeartbeats 1000000 in
theorem awake_calls (w : World) (hT : Crc.Tab w) : Calls Tryd.prog 44 #[] w fun e w' => e = .returned (.bool true) ∧ Below w.heap.size w w' := by
  have HT := Lib.hid hT
  have HB := Lib.hid (fun W h => Bytes_calls exF (by decide) W h)
  have HT1 := Lib.hid (fun W h => Take_calls ([], 0) (Frm.bytes exF ++ (Frm.bytes exF).take 5) (by rw [List.length_append, List.length_take, ex_len]; decide) W h)
  have HT2 := Lib.hid (fun W h => Take_calls ((Frm.bytes exF).take 5, 0) ((Frm.bytes exF).drop 5) (by rw [List.length_drop, List.length_take, ex_len]; decide) W h)
  rw [show take ([], 0) (Frm.bytes exF ++ (Frm.bytes exF).take 5) = (((Frm.bytes exF).take 5, 0), [exF]) by unfold take; rw [if_neg (by simp), List.nil_append, ex_two]] at HT1
  rw [show take ((Frm.bytes exF).take 5, 0) ((Frm.bytes exF).drop 5) = (([], 0), [exF]) by unfold take; rw [if_neg (by simp), List.take_append_drop, ex_one]] at HT2
  have hz : (bs (Frm.bytes exF)).size = 11 := by rw [bs_size, ex_len]
  have hx1 : (bs (Frm.bytes exF)).extract 0 5 = bs ((Frm.bytes exF).take 5) := extract_to _ _
  have hx2 : (bs (Frm.bytes exF)).extract 5 11 = bs ((Frm.bytes exF).drop 5) := by
    have := extract_from (Frm.bytes exF) 5
    rwa [ex_len] at this
  have hz5 : (bs ((Frm.bytes exF).take 5)).size = 5 := by rw [bs_size, List.length_take, ex_len]; rfl
  have hap : bs (Frm.bytes exF) ++ bs ((Frm.bytes exF).take 5) = bs (Frm.bytes exF ++ (Frm.bytes exF).take 5) := bs_append _ _
  have HR := Lib.hid (fun W => Rest_calls ([], 0) W)
  have HE := Lib.hid (fun W => Err_calls ([], 0) W)
  have h0 := Sg.bs_eq_empty [] rfl
  clear hT
  unfold DV at HT1 HT2 HR HE
  simp only at HT1 HT2 HR HE
  generalize Frm.bytes exF ++ (Frm.bytes exF).take 5 = c1 at *
  generalize (Frm.bytes exF).take 5 = t5 at *
  generalize (Frm.bytes exF).drop 5 = d5 at *
  change Hid (∀ W, Crc.Tab W → Calls Tryd.prog 30 #[.agg #[.int .u8 1, .int .u8 2, .string ⟨#[97, 98]⟩]] W fun e w' => e = .returned (.tuple #[.string (bs (Frm.bytes exF)), .int .i64 0]) ∧ Below W.heap.size W w') at HB
  generalize bs (Frm.bytes exF) = s at *
  go_enter Tryd.func44, Tryd.ntmps44
  go_wp2_with fail
  refine (HB.out _ HT.out).mono ?_
  rintro e w1 ⟨rfl, b1⟩
  have HTa := Lib.hid (HT.out.below b1)
  have B1 := Lib.hid b1
  clear b1
  go_wp2_with fail
  refine (Awake7_calls _ HTa.out).mono ?_
  rintro e w2 ⟨rfl, b2⟩
  have HTb := Lib.hid (HTa.out.below b2)
  have B2 := Lib.hid (bthen B1.out b2)
  clear b2
  go_wp2_with fail
  refine (HT1.out _ HTb.out).mono ?_
  rintro e w3 ⟨v3, rfl, hv3, -, b3⟩
  have HTc := Lib.hid (HTb.out.below b3)
  have B3 := Lib.hid (bthen B2.out b3)
  obtain ⟨A3, n3, rfl, -⟩ := hv3
  clear b3
  simp only [List.length_cons, List.length_nil]
  go_wp2_with fail
  have HF4 := Lib.hid (Has.new w3 #[.string (bs t5), .int .i64 0] 67)
  have B4 := Lib.hid (B3.out.alloc B3.out.size (.cells #[.string (bs t5), .int .i64 0] 67))
  have HTd := Lib.hid (HTc.out.below ((Below.refl _ _).alloc (Nat.le_refl _) (.cells #[.string (bs t5), .int .i64 0] 67)))
  have hpw : w.heap.size ≤ w3.heap.size := B3.out.size
  generalize w3.alloc (.cells #[.string (bs t5), .int .i64 0] 67) = w4 at *
  generalize w3.heap.size = p at *
  have HD := Lib.hid HF4.out.drew
  have HTe : Hid (Crc.Tab w4.drew) := Lib.hid (HTd.out.below (Below.refl _ _).drew)
  have y0 : w4.drew.cell? ⟨p, 0, none⟩ = some (.string (bs t5)) := HD.out.cell 0
  have y1 : w4.drew.cell? ⟨p, 1, none⟩ = some (.int .i64 0) := HD.out.cell 1
  have g5 : ¬ (11 : Int) < 5 := by omega
  go_region_with (first
      | (go_at_call 46; refine (HT2.out _ HTe.out).mono ?_; rintro e w5 ⟨v5, rfl, hv5, n5, b5⟩; have H5 := HD.out.below b5; have c0 := H5.cell 0; have c1' := H5.cell 1; have cf := H5.frozen))
  obtain ⟨A5, q5, rfl, -, -, -, hs5⟩ := hv5
  obtain ⟨g, o, rfl, hg, hi⟩ := hs5 (by simp)
  have hgp : g ≠ p := by
    have h1 := n5 g rfl
    have h2 := HF4.out.lt
    have h3 : w4.heap.size ≤ g := h1
    omega
  obtain ⟨-, -, d2⟩ := hi 0 (by simp)
  have hD2 : ((w5.setCell ⟨p, 0, none⟩ (.string (bs []))).setCell ⟨p, 1, none⟩ (.int .i64 0)).cell? ⟨g, o + 2, none⟩ = some (.string ⟨#[97, 98]⟩) := by
    rw [World.cell?_of_block (Below.heap_setCell _ ⟨p, 1, none⟩ _ g hgp), World.cell?_of_block (Below.heap_setCell _ ⟨p, 0, none⟩ _ g hgp)]
    exact d2
  have H6 := Lib.hid (setTwo H5 (.string (bs [])) (.int .i64 0))
  have B6 := Lib.hid (((B4.out.trans (((after_drew b5)).mono B4.out.size)).setCell (p := ⟨p, 0, none⟩) hpw (.string (bs []))).setCell (p := ⟨p, 1, none⟩) hpw (.int .i64 0))
  simp only [List.length_cons, List.length_nil]
  clear d2 hi hs5 b5 c0 c1' cf H5 y0 y1 n5 HTe HTd
  generalize (w5.setCell ⟨p, 0, none⟩ (.string (bs []))).setCell ⟨p, 1, none⟩ (.int .i64 0) = w6 at *
  have y0 := H6.out.cell 0
  have y1 := H6.out.cell 1
  have hlt6 := H6.out.lt
  go_wp2_with fail
  refine (HR.out _).mono ?_
  rintro e w7 ⟨rfl, b7⟩
  have H7 := Lib.hid (H6.out.below b7)
  have B7 := Lib.hid (bthen B6.out b7)
  clear b7 y0 y1
  have y0 := H7.out.cell 0
  have y1 := H7.out.cell 1
  go_wp2_with fail
  refine (HE.out _).mono ?_
  rintro e w8 ⟨rfl, b8⟩
  have B8 := Lib.hid (bthen B7.out b8)
  clear b8
  go_wp2_with fail
  go_ret
  exact ⟨rfl, B8.out⟩
end Go.Proofs.YtopacbmdoognjaaDoor.Fd
