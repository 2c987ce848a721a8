/- Merged: SegScan, SegRef, SegRefB, SegRefC, SegNexts. -/
import Derived.Test.YtjnjcjildiadgaaDoorFrmB
import Derived.Test.YtjnjcjildiadgaaDoorSegRows
import Derived.Laws.AppendOwnNone
import Derived.Test.YtjnjcjildiadgaaDoorOctRef
import Derived.Deep.QuietTactic
import Derived.BigQuiet
/- The walks of seg.Bytes and seg.Scan. -/
namespace Go.Proofs.YtjnjcjildiadgaaDoor.Sg
open Go Go.RowKit Frame Oct Frm
theorem bs_empty (r : List UInt8) : ((bs r).toList == ([] : List UInt8)) = decide (r.length = 0) := by
  rw [ByteArray.toList_eq]
  cases r <;> rfl
theorem bs_ne_empty (r : List UInt8) (h : r.length ≠ 0) : ((bs r).toList == ([] : List UInt8)) = false := by rw [bs_empty]; simpa using h
theorem bs_eq_empty (r : List UInt8) (h : r.length = 0) : ((bs r).toList == ([] : List UInt8)) = true := by rw [bs_empty]; simpa using h
theorem err_take (l : List (List UInt8)) (k : Nat) (h : k < l.length) (he : err (l.take k) = 0) : err l = if bad (l.getD k []) ≠ 0 then bad (l.getD k []) else err (l.take k ++ l.getD k [] :: l.drop (k + 1)) := by
  have e : l = l.take k ++ l.getD k [] :: l.drop (k + 1) := by
    have : l.getD k [] = l[k] := by simp [List.getD_eq_getElem?_getD, h]
    rw [this, List.getElem_cons_drop, List.take_append_drop]
  split
  · rename_i hb
    conv => lhs; rw [e]
    exact err_snoc _ _ _ he hb
  · rw [← e]
theorem err_take_succ (l : List (List UInt8)) (k : Nat) (h : k < l.length) (he : err (l.take k) = 0) (hb : bad (l.getD k []) = 0) : err (l.take (k + 1)) = 0 := by
  rw [take_succ_getD l k h]
  refine err_of fun r hr => ?_
  rcases List.mem_append.1 hr with hr | hr
  · exact err_ok he r hr
  · rw [List.mem_singleton.1 hr]; exact hb
theorem cat_take_succ (l : List (List UInt8)) (k : Nat) (h : k < l.length) : cat (l.take (k + 1)) = cat (l.take k) ++ one (l.getD k []) := by
  rw [take_succ_getD l k h, cat_append]
  simp [cat]
theorem used_take_le (l : List (List UInt8)) (m : Nat) (hl : ∀ r ∈ l, r.length ≤ m) (k : Nat) : used (l.take k) ≤ k * (m + 9) := by
  induction l generalizing k with
  | nil => simp [used]
  | cons r l ih =>
    cases k with
    | zero => simp [used]
    | succ k =>
      rw [List.take_succ_cons, used]
      have h1 := hl r (by simp)
      have h2 := ih (fun x hx => hl x (by simp [hx])) k
      rw [Nat.succ_mul]
      omega
theorem at_below {B b : Nat} {p : Value} {xs : List Value} {w w' : World} (h : Lib.BuilderAt 74 5 B b p xs w) (hb : Below w.heap.size w w') : Lib.BuilderAt 74 5 B b p xs w' := by
  obtain ⟨h1, v, h2, h3, h4⟩ := h
  exact ⟨h1, v, (hb.block b (Has.lt h2)).trans h2, own_below h3 hb, h4⟩
theorem is_below {B b : Nat} {l : List UInt8} {w w' : World} (h : Bld.Is B b l w) (hb : Below w.heap.size w w') : Bld.Is B b l w' := h.elim (fun x => .inl (at_below x hb)) (fun x => .inr (at_below x hb))
theorem bad_le {r : List UInt8} (h : bad r = 0) : r.length ≤ 131072 := (bad_ok h).2
set_option maxRecDepth 100000 in
set_option maxHeartbeats 4000000 in
theorem Bytes_calls (A : Option Addr) (c : Nat) (l : List (List UInt8)) (hl : l.length ≤ 1000000) (w : World) (hT : Crc.Tab w) (hA : SS A l w) :
    Calls Tryd.prog 36 #[.slice A l.length c] w fun e w' => e = .returned (.tuple #[.string (bs (bytes l).1), .int .i64 (bytes l).2]) ∧ Below w.heap.size w w' := by
  have HT := Lib.hid hT
  have HA := Lib.hid hA
  clear hT hA
  go_enter Tryd.func36, Tryd.ntmps36
  go_wp2_with fail
  have HI := Lib.hid (Bld.Is.fresh w)
  go_loopw [9] (fun i wr => ∃ k : Nat, k ≤ l.length ∧ i = .int .i64 k ∧ Hid (Below w.heap.size w wr) ∧ Hid (Bld.Is w.heap.size w.heap.size (cat (l.take k)) wr) ∧ Hid (err (l.take k) = 0)) (fun i _ => l.length - (intOf i).toNat)
  case atStart => exact ⟨0, by omega, rfl, Lib.hid ((Below.refl _ _).alloc (Nat.le_refl _) _), HI, Lib.hid rfl⟩
  case round =>
    obtain ⟨k, hk, rfl, hB, hI, hE⟩ := hrel
    clear HI
    by_cases hlt : k < l.length
    · obtain ⟨b, off, rfl, hbl, hi⟩ := (HA.out.below hB.out) (by omega)
      have ck := hi k hlt
      have HC := Lib.hid (cat_take_succ l k hlt)
      have HER := Lib.hid (err_take l k hlt hE.out)
      have HES := Lib.hid (err_take_succ l k hlt hE.out)
      have HU := Lib.hid (used_take_le (l.take k) 131072 (fun r hr => bad_le (err_ok hE.out r hr)) k)
      rw [List.take_take, Nat.min_self, ← cat_length] at HU
      have hsz := hB.out.size
      clear hi
      generalize l.getD k [] = r at *
      have hzr : (bs r).size = r.length := bs_size _
      by_cases h0 : r.length = 0
      · have h0' := bs_eq_empty r h0
        have hb : bad r = 15 := by unfold bad; rw [if_pos h0]
        have HR := Lib.hid (show bytes l = ([], 15) by
          have := HER.out
          rw [hb, if_pos (by decide)] at this
          unfold bytes
          rw [this, if_pos (by decide)])
        clear hb
        go_wp2_with fail
        go_ret2
        rw [HR.out]
        exact ⟨rfl, hB.out⟩
      · have h0' := bs_ne_empty r h0
        by_cases h5 : 131072 < r.length
        · have hb : bad r = 5 := by unfold bad; rw [if_neg h0, if_pos h5]
          have HR := Lib.hid (show bytes l = ([], 5) by
            have := HER.out
            rw [hb, if_pos (by decide)] at this
            unfold bytes
            rw [this, if_pos (by decide)])
          clear hb h0
          go_wp2_with fail
          go_ret2
          rw [HR.out]
          exact ⟨rfl, hB.out⟩
        · have HB0 := Lib.hid (show bad r = 0 by unfold bad; rw [if_neg h0, if_neg h5])
          have HTr := Lib.hid (HT.out.below hB.out)
          clear h0
          go_wp2_with fail
          refine (one_calls r (by omega) _ HTr.out).mono ?_
          rintro e w1 ⟨rfl, b1⟩
          have HB1 := Lib.hid (bthen hB.out b1)
          have HI1 := Lib.hid (is_below hI.out b1)
          clear b1
          go_wp2_with fail
          refine (Bld.WriteString_calls w.heap.size w.heap.size (cat (l.take k)) (bs (one r)) w1 HI1.out ?_ HB1.out.size).mono ?_
          · have := HU.out
            rw [bs_size, one_length]
            omega
          rintro e w2 ⟨rfl, hI2, b2⟩
          have HB2 := Lib.hid (HB1.out.trans b2)
          rw [bs_toList, ← HC.out] at hI2
          have HI2 := Lib.hid hI2
          clear hI2 b2
          go_wp2_with fail
          exact ⟨⟨k + 1, by omega, by go_num, HB2, HI2, Lib.hid (HES.out HB0.out)⟩, by simp [intOf]; omega⟩
    · obtain rfl : k = l.length := by omega
      rw [List.take_length] at hI hE
      have HR := Lib.hid (show bytes l = (cat l, 0) by unfold bytes; rw [hE.out, if_neg (by decide)])
      have hsz := hB.out.size
      go_wp2_with fail
      refine (Bld.String_calls w.heap.size w.heap.size (cat l) _ hI.out hsz).mono ?_
      rintro e w1 ⟨rfl, b1⟩
      have HB1 := Lib.hid (hB.out.trans b1)
      clear b1
      go_wp2_with fail
      go_ret2
      rw [HR.out]
      exact ⟨rfl, HB1.out⟩
theorem scan_step (l : List UInt8) (u : Nat) (done : List (List UInt8)) (hu : u ≤ l.length) (hs : scan l = done ++ scan (l.drop u)) (he : (next (l.drop u)).2.2 = 0) :
    (next (l.drop u)).2.1 = (next (l.drop u)).1.length + 9 ∧ u + (next (l.drop u)).2.1 ≤ l.length ∧ scan l = (done ++ [(next (l.drop u)).1]) ++ scan (l.drop (u + (next (l.drop u)).2.1)) := by
  obtain ⟨h1, h2, h3⟩ := next_len he
  rw [List.length_drop] at h3
  refine ⟨h2, by omega, ?_⟩
  rw [hs, scan_cons he, List.drop_drop, List.append_assoc]
  rfl
theorem used_snoc (a : List (List UInt8)) (r : List UInt8) : used (a ++ [r]) = used a + (r.length + 9) := by rw [used_append]; simp [used]
theorem used_len (a : List (List UInt8)) : a.length * 9 ≤ used a := by
  induction a with
  | nil => simp
  | cons r a ih => rw [List.length_cons, Nat.succ_mul, used]; omega
set_option maxRecDepth 100000 in
set_option maxHeartbeats 4000000 in
theorem Scan_own (l : List UInt8) (hl : l.length ≤ 1000000000) (w : World) (hT : Crc.Tab w) :
    Calls Tryd.prog 47 #[.string (bs l)] w fun e w' => ∃ v, e = .returned (.tuple #[v, .int .i64 (used (scan l))]) ∧ w'.ownsRow w.heap.size 9 1 v (scan l).length (cells (scan l)) ∧ Below w.heap.size w w' := by
  have hzl : (bs l).size = l.length := bs_size _
  have HT := Lib.hid hT
  obtain ⟨i0, hi0, hz0, hz1, hz2⟩ := info_parts infoS
  clear hT
  go_enter Tryd.func47, Tryd.ntmps47
  go_wp2_with fail
  go_loopw [4, 5] (fun out i wr => ∃ done : List (List UInt8), used done ≤ l.length ∧ i = .int .i64 (used done : Nat) ∧ Hid (scan l = done ++ scan (l.drop (used done))) ∧ Hid (Below w.heap.size w wr) ∧ Hid (wr.ownsRow w.heap.size 9 1 out done.length (cells done))) (fun _ i _ => l.length + 1 - (intOf i).toNat)
  case atStart => exact ⟨[], Nat.zero_le _, rfl, Lib.hid rfl, Lib.hid (Below.refl _ _), Lib.hid (World.ownsRow_nil _ _ _ _)⟩
  case round =>
    obtain ⟨done, hu, rfl, hS, hB, hO⟩ := hrel
    have HTr := Lib.hid (HT.out.below hB.out)
    have hlen := used_len done
    have HUS := Lib.hid (used_snoc done)
    have hst := Lib.hid (scan_step l (used done) done hu hS.out)
    have hext : (bs l).extract (used done) l.length = bs (l.drop (used done)) := extract_from _ _
    have HN := Lib.hid (fun W h => Next_calls (l.drop (used done)) (by simp only [List.length_drop]; omega) W h)
    have HSt := Lib.hid (fun h : (next (l.drop (used done))).2.2 ≠ 0 => hS.out.trans (by rw [scan_stop h, List.append_nil]))
    generalize hnx : next (l.drop (used done)) = nx at *
    have HNX := Lib.hid hnx
    clear hnx
    obtain ⟨r, n, e⟩ := nx
    simp only at HN hst HSt
    have hs0 := hB.out.size
    by_cases he : e = 0
    · subst he
      obtain ⟨h1, h2, h3⟩ := hst.out rfl
      have H3 := Lib.hid h3
      subst h1
      clear h3 hst HSt hS
      generalize hud : used done = u at *
      have HUD := Lib.hid hud
      clear hud
      go_wp2_with fail
      refine (HN.out _ HTr.out).mono ?_
      rintro e w1 ⟨rfl, b1⟩
      have HB1 := Lib.hid (bthen hB.out b1)
      have HO1 := Lib.hid ((own_below hO.out b1).alloc (.cells #[.string (bs r)] 9))
      have hs1 := HB1.out.size
      clear b1
      have tok : True := trivial
      go_wp2_with (at_builtin; have _t := tok; refine wpList_append_own _ rfl _ _ 22 rfl w.heap.size 9 i0 _ 1 16 Tryd.underlying22 hi0 hz0 hz1 hz2 rfl (by decide) _ _ _ rfl HO1.out ⟨w1.heap.size, 0, none⟩ 1 1 [.string (bs r)] rfl rfl ?c1 ?c2 ?c3 ?c4 ?c5 ?_; clear _t tok)
      case c1 => exact cell_one_new _ _ _
      case c2 => intro u hu; simp at hu; subst hu; rfl
      case c3 => unfold maxLen; omega
      case c4 => omega
      case c5 => simp; omega
      intro v' w2 hown' hgrow _
      have HO2 := Lib.hid hown'
      have HB2 := Lib.hid (below_grown (HB1.out.alloc hs1 (.cells #[.string (bs r)] 9)) hgrow (by simp; omega) (fun g hg => (HO1.out.lt g hg).1))
      clear hown' hgrow
      go_wp2_with fail
      refine ⟨⟨done ++ [r], ?_, ?_, ?_, HB2, Lib.hid ?_⟩, ?_⟩
      · rw [HUS.out]; exact h2
      · rw [HUS.out]; go_num
      · rw [HUS.out]; exact H3
      · rw [List.length_append, cells_append, cells_one]; exact HO2.out
      · simp [intOf]; omega
    · have he' : (e != 0) = true := by simpa using he
      have HSE := Lib.hid (HSt.out he)
      clear he hst HSt hS
      go_wp2_with fail
      refine (HN.out _ HTr.out).mono ?_
      rintro e w1 ⟨rfl, b1⟩
      have HB1 := Lib.hid (bthen hB.out b1)
      have HO1 := Lib.hid (own_below hO.out b1)
      clear b1
      go_wp2_with fail
      go_ret2
      rw [HSE.out]
      exact ⟨_, rfl, HO1.out, HB1.out⟩
theorem Scan_calls (l : List UInt8) (hl : l.length ≤ 1000000000) (w : World) (hT : Crc.Tab w) :
    Calls Tryd.prog 47 #[.string (bs l)] w fun e w' => ∃ v, e = .returned (.tuple #[v, .int .i64 (used (scan l))]) ∧ SV v (scan l) w' ∧ Below w.heap.size w w' :=
  (Scan_own l hl w hT).mono fun _ _ ⟨v, he, ho, hb⟩ => ⟨v, he, SV.of_own ho, hb⟩
end Go.Proofs.YtjnjcjildiadgaaDoor.Sg
/- The walks of stairwellref16: One, Bytes, Next, Scan, Same. -/
namespace Go.Proofs.YtjnjcjildiadgaaDoor.Sg
open Go Go.RowKit Frame Oct Frm
set_option maxRecDepth 100000 in
set_option maxHeartbeats 2000000 in
theorem refOne_calls (r : List UInt8) (hr : r.length ≤ 1000000000) (w : World) :
    Calls Tryd.prog 78 #[.string (bs r)] w fun e w' => e = .returned (.string (bs (one r))) ∧ Below w.heap.size w w' := by
  have hz : (bs r).size = r.length := bs_size _
  have HN := Lib.hid (fun W => RefNum_any r.length 4 W (by omega))
  rw [show be (wid 4) r.length = be 4 r.length from rfl] at HN
  have hc1 : (bs (be 4 r.length)).size + r.length ≤ 9223372036854775807 := by rw [bs_size, be_length]; omega
  have hb1 : bs (be 4 r.length) ++ bs r = bs (head r) := bs_append _ _
  have hfl : (head r).length ≤ 2000000000 := by rw [head_length]; omega
  have hzh : (bs (head r)).size = (head r).length := bs_size _
  have HSM := Lib.hid (fun W => Crc.refSum_calls (bs (head r)) (by rw [bs_size]; unfold maxLen; omega) W)
  rw [bs_toList] at HSM
  have HO := Lib.hid (show one r = head r ++ (be 4 (Crc.sum (head r)) ++ [165]) from rfl)
  generalize head r = fr at *
  have hsl := Crc.sum_lt fr
  have g3 : IntKind.u64.wrap ((Crc.sum fr : Nat) : Int) = ((Crc.sum fr : Nat) : Int) := IntWalk.u64_in _ (by omega)
  have HM := Lib.hid (fun W => RefNum_any (Crc.sum fr) 4 W (by omega))
  rw [show be (wid 4) (Crc.sum fr) = be 4 (Crc.sum fr) from rfl] at HM
  have hc2 : fr.length + (bs (be 4 (Crc.sum fr))).size ≤ 9223372036854775807 := by rw [bs_size, be_length]; omega
  have hb2 : bs fr ++ bs (be 4 (Crc.sum fr)) = bs (fr ++ be 4 (Crc.sum fr)) := bs_append _ _
  have hc3 : (bs (fr ++ be 4 (Crc.sum fr))).size + 1 ≤ 9223372036854775807 := by rw [bs_size, List.length_append, be_length]; omega
  have hb3 : bs (fr ++ be 4 (Crc.sum fr)) ++ ⟨#[165]⟩ = bs (fr ++ (be 4 (Crc.sum fr) ++ [165])) := by rw [← List.append_assoc]; exact bs_append _ [165]
  go_enter Tryd.func78, Tryd.ntmps78
  go_wp2_with fail
  refine (HN.out _).mono ?_
  rintro e w1 ⟨rfl, b1⟩
  have B1 := Lib.hid b1
  clear b1
  go_wp2_with fail
  refine (HSM.out _).mono ?_
  rintro e w2 ⟨rfl, rfl⟩
  go_wp2_with fail
  refine (HM.out _).mono ?_
  rintro e w3 ⟨rfl, b3⟩
  have B3 := Lib.hid (bthen B1.out b3)
  clear b3
  go_wp2_with fail
  go_ret
  rw [HO.out]
  exact ⟨rfl, B3.out⟩
end Go.Proofs.YtjnjcjildiadgaaDoor.Sg
/- The walks of stairwellref16: Next, Scan, Same. -/
namespace Go.Proofs.YtjnjcjildiadgaaDoor.Sg
open Go Go.RowKit Frame Oct Frm
theorem num_take_succ (l : List UInt8) (k : Nat) (h : k < l.length) : num (l.take (k + 1)) = num (l.take k) * 256 + (l.getD k 0).toNat := by
  rw [List.take_succ_eq_append_getElem h, num_snoc]
  simp [List.getD_eq_getElem?_getD, h]
theorem num_take_lt (l : List UInt8) (k : Nat) (h : k < 4) : num (l.take k) < 16777216 := by
  have h1 := num_lt (l.take k)
  have h2 : (l.take k).length ≤ 3 := by simp; omega
  have h3 : 256 ^ (l.take k).length ≤ 256 ^ 3 := Nat.pow_le_pow_right (by decide) h2
  have : (256 : Nat) ^ 3 = 16777216 := by decide
  omega
set_option maxRecDepth 100000 in
set_option maxHeartbeats 4000000 in
theorem refNext_calls (l : List UInt8) (hl : l.length ≤ 1000000000) (w : World) :
    Calls Tryd.prog 66 #[.string (bs l)] w fun e w' => e = .returned (.tuple #[.string (bs (next l).1), .int .i64 (next l).2.1, .int .i64 (next l).2.2]) ∧ Below w.heap.size w w' := by
  have hzl : (bs l).size = l.length := bs_size _
  by_cases h4 : l.length < 4
  · have HE := Lib.hid (show next l = ([], 0, 3) by unfold next; rw [if_pos h4])
    go_enter Tryd.func66, Tryd.ntmps66
    go_wp2_with fail
    go_ret3
    rw [HE.out]
    exact ⟨rfl, Below.refl _ _⟩
  · go_enter Tryd.func66, Tryd.ntmps66
    go_wp2_with fail
    go_loop [5, 6] (fun n k => ∃ j : Nat, j ≤ 4 ∧ k = .int .i64 j ∧ n = .int .i64 (num (l.take j) : Nat)) (fun _ k => 4 - (intOf k).toNat)
    case atStart => exact ⟨0, by omega, rfl, rfl⟩
    case round =>
      obtain ⟨j, hj, rfl, rfl⟩ := hrel
      by_cases hlt : j < 4
      · have HS := Lib.hid (num_take_succ l j (by omega))
        have hb := num_take_lt l j hlt
        have q := idx l (j : Int) j rfl (by omega)
        have hu := (l.getD j 0).toNat_lt
        generalize (l.getD j 0).toNat = c at *
        generalize num (l.take j) = m at *
        go_wp2_with fail
        exact ⟨⟨j + 1, by omega, by go_num, by rw [HS.out]; go_num⟩, by simp [intOf]; omega⟩
      · obtain rfl : j = 4 := by omega
        have hnl := len_lt l
        have hp : next l = if len l = 0 then ([], 0, 15) else if 131072 < len l then ([], 0, 5) else if l.length < len l + 9 then ([], 0, 3)
          else if l.getD (len l + 8) 0 ≠ 165 then ([], 0, 4) else if (l.drop (len l + 4)).take 4 ≠ be 4 (Crc.sum (l.take (len l + 4))) then ([], 0, 14)
          else ((l.drop 4).take (len l), len l + 9, 0) := by unfold next; rw [if_neg h4]
        have HP := Lib.hid hp
        have HI := Lib.hid (one_eq_iff l)
        clear hp
        rw [show num (l.take 4) = len l from rfl]
        generalize len l = n at *
        by_cases h0 : n = 0
        · subst h0
          have HE := Lib.hid (HP.out.trans (if_pos rfl))
          go_wp2_with fail
          go_ret3
          rw [HE.out]
          exact ⟨rfl, Below.refl _ _⟩
        · have h0' : ((n : Int) == 0) = false := by simp; omega
          have HP1 := Lib.hid (HP.out.trans (if_neg h0))
          clear HP h0
          by_cases h5 : 131072 < n
          · have HE := Lib.hid (HP1.out.trans (if_pos h5))
            go_wp2_with fail
            go_ret3
            rw [HE.out]
            exact ⟨rfl, Below.refl _ _⟩
          · have HP2 := Lib.hid (HP1.out.trans (if_neg h5))
            clear HP1
            by_cases h9 : l.length < n + 9
            · have HE := Lib.hid (HP2.out.trans (if_pos h9))
              go_wp2_with fail
              go_ret3
              rw [HE.out]
              exact ⟨rfl, Below.refl _ _⟩
            · have HP3 := Lib.hid (HP2.out.trans (if_neg h9))
              clear HP2
              have q8 := idx l ((n : Int) + 8) (n + 8) (by omega) (by omega)
              by_cases h6 : l.getD (n + 8) 0 ≠ 165
              · have HE := Lib.hid (HP3.out.trans (if_pos h6))
                have h6' : (((l.getD (n + 8) 0).toNat : Int) != 165) = true := by
                  have : (l.getD (n + 8) 0).toNat ≠ 165 := fun e => h6 (UInt8.toNat_inj.1 e)
                  exact bne_iff_ne.2 (by omega)
                clear h6 HI
                generalize (l.getD (n + 8) 0).toNat = c8 at *
                go_wp2_with fail
                go_ret3
                rw [HE.out]
                exact ⟨rfl, Below.refl _ _⟩
              · have HP4 := Lib.hid (HP3.out.trans (if_neg h6))
                have h65 : l.getD (n + 8) 0 = 165 := by simpa using h6
                have hiff := Lib.hid (HI.out (by omega) h65)
                have h6' : (((l.getD (n + 8) 0).toNat : Int) != 165) = false := by
                  rw [h65]
                  decide
                clear h6 HP3 h65 HI
                generalize (l.getD (n + 8) 0).toNat = c8 at *
                have x1 : (bs l).extract 4 (n + 4) = bs ((l.drop 4).take n) := by rw [Nat.add_comm n 4]; exact ba_ext (by simp [bs])
                have x1' : (bs l).extract 4 (4 + n) = bs ((l.drop 4).take n) := ba_ext (by simp [bs])
                have x2 : (bs l).extract 0 (n + 9) = bs (l.take (n + 9)) := extract_to _ _
                have HO := Lib.hid (fun W => refOne_calls ((l.drop 4).take n) (by simp only [List.length_take, List.length_drop]; omega) W)
                have hlo : ((l.drop 4).take n).length = n := by simp; omega
                have g1 : (4 : Int) ≤ 4 + (n : Int) := by omega
                have g2 : 4 + (n : Int) ≤ (l.length : Int) := by omega
                have g3 : (4 + (n : Int)).toNat = 4 + n := by omega
                have g4 : IntKind.i64.wrap (4 + (n : Int)) = 4 + (n : Int) := IntWalk.i64_in _ (by omega)
                have g5 : (0 : Int) ≤ (n : Int) + 9 := by omega
                have g6 : (n : Int) + 9 ≤ (l.length : Int) := by omega
                have g7 : ((n : Int) + 9).toNat = n + 9 := by omega
                have g8 : IntKind.i64.wrap ((n : Int) + 9) = (n : Int) + 9 := IntWalk.i64_in _ (by omega)
                go_wp2_with fail
                by_cases hc : (l.drop (n + 4)).take 4 = be 4 (Crc.sum (l.take (n + 4)))
                · have HE := Lib.hid (HP4.out.trans (if_neg (fun h => h hc)))
                  have hc2 : ((bs (one ((l.drop 4).take n))).toList == (bs (l.take (n + 9))).toList) = true := by rw [bs_beq, hiff.out.2 hc]; simp
                  clear hc
                  go_region_held3 (fun _ => True) (trivial)
                    (first
                      | (go_at_call 78; refine (HO.out _).mono ?_; rintro e w2 ⟨rfl, b2⟩))
                  have HB2 := Lib.hid (after_drew b2)
                  clear b2
                  go_wp2_with fail
                  go_ret3
                  rw [HE.out]
                  exact ⟨rfl, HB2.out⟩
                · have HE := Lib.hid (HP4.out.trans (if_pos hc))
                  have hc2 : ((bs (one ((l.drop 4).take n))).toList == (bs (l.take (n + 9))).toList) = false := by
                    rw [bs_beq]
                    exact beq_eq_false_iff_ne.2 (fun e => hc (hiff.out.1 e))
                  clear hc
                  go_region_held3 (fun _ => True) (trivial)
                    (first
                      | (go_at_call 78; refine (HO.out _).mono ?_; rintro e w2 ⟨rfl, b2⟩))
                  have HB2 := Lib.hid (after_drew b2)
                  clear b2
                  go_wp2_with fail
                  go_ret3
                  rw [HE.out]
                  exact ⟨rfl, HB2.out⟩
end Go.Proofs.YtjnjcjildiadgaaDoor.Sg
/- The walks of stairwellref16: Scan, Same; of Light, total. -/
namespace Go.Proofs.YtjnjcjildiadgaaDoor.Sg
open Go Go.RowKit Frame Oct Frm
set_option maxRecDepth 100000 in
set_option maxHeartbeats 4000000 in
theorem refScan_own (l : List UInt8) (hl : l.length ≤ 1000000000) (w : World) :
    Calls Tryd.prog 50 #[.string (bs l)] w fun e w' => ∃ v, e = .returned (.tuple #[v, .int .i64 (used (scan l))]) ∧ w'.ownsRow w.heap.size 9 1 v (scan l).length (cells (scan l)) ∧ Below w.heap.size w w' := by
  have hzl : (bs l).size = l.length := bs_size _
  obtain ⟨i0, hi0, hz0, hz1, hz2⟩ := info_parts infoS
  have HN0 := Lib.hid (fun W => refNext_calls l hl W)
  go_enter Tryd.func50, Tryd.ntmps50
  go_wp2_with fail
  refine (HN0.out _).mono ?_
  rintro e w1 ⟨rfl, b1⟩
  have HB0 := Lib.hid b1
  clear b1
  go_wp2_with fail
  go_loopw [4, 5, 6, 7, 8] (fun out i r n e wr => ∃ done : List (List UInt8), used done ≤ l.length ∧ i = .int .i64 (used done : Nat) ∧ r = .string (bs (next (l.drop (used done))).1) ∧ n = .int .i64 ((next (l.drop (used done))).2.1 : Nat) ∧ e = .int .i64 (next (l.drop (used done))).2.2 ∧ Hid (scan l = done ++ scan (l.drop (used done))) ∧ Hid (Below w.heap.size w wr) ∧ Hid (wr.ownsRow w.heap.size 9 1 out done.length (cells done))) (fun _ i _ _ _ _ => l.length + 1 - (intOf i).toNat)
  case atStart => exact ⟨[], Nat.zero_le _, rfl, rfl, rfl, rfl, Lib.hid rfl, HB0, Lib.hid (World.ownsRow_nil _ _ _ _)⟩
  case round =>
    obtain ⟨done, hu, rfl, rfl, rfl, rfl, hS, hB, hO⟩ := hrel
    clear HB0
    have hlen := used_len done
    have HUS := Lib.hid (used_snoc done)
    have hst := Lib.hid (scan_step l (used done) done hu hS.out)
    have HSt := Lib.hid (fun h : (next (l.drop (used done))).2.2 ≠ 0 => hS.out.trans (by rw [scan_stop h, List.append_nil]))
    generalize hnx : next (l.drop (used done)) = nx at *
    have HNX := Lib.hid hnx
    clear hnx
    obtain ⟨r, n, e⟩ := nx
    simp only at hst HSt ⊢
    have hs0 := hB.out.size
    by_cases he : e = 0
    · subst he
      obtain ⟨h1, h2, h3⟩ := hst.out rfl
      have H3 := Lib.hid h3
      subst h1
      clear h3 hst HSt hS
      have HN := Lib.hid (fun W => refNext_calls (l.drop (used done + (r.length + 9))) (by simp only [List.length_drop]; omega) W)
      have hext : (bs l).extract (used done + (r.length + 9)) l.length = bs (l.drop (used done + (r.length + 9))) := extract_from _ _
      generalize hud : used done = u at *
      clear hud
      have HO1 := Lib.hid (hO.out.alloc (.cells #[.string (bs r)] 9))
      have tok : True := trivial
      go_wp2_with (at_builtin; have _t := tok; refine wpList_append_own _ rfl _ _ 22 rfl w.heap.size 9 i0 _ 1 16 Tryd.underlying22 hi0 hz0 hz1 hz2 rfl (by decide) _ _ _ rfl HO1.out ⟨wr.heap.size, 0, none⟩ 1 1 [.string (bs r)] rfl rfl ?c1 ?c2 ?c3 ?c4 ?c5 ?_; clear _t tok)
      case c1 => exact cell_one_new _ _ _
      case c2 => intro u hu; simp at hu; subst hu; rfl
      case c3 => unfold maxLen; omega
      case c4 => omega
      case c5 => simp; omega
      intro v' w2 hown' hgrow _
      have HO2 := Lib.hid hown'
      have HB2 := Lib.hid (below_grown (hB.out.alloc hs0 (.cells #[.string (bs r)] 9)) hgrow (by simp; omega) (fun g hg => (HO1.out.lt g hg).1))
      clear hown' hgrow
      go_wp2_with fail
      refine (HN.out _).mono ?_
      rintro e w3 ⟨rfl, b3⟩
      have HB3 := Lib.hid (bthen HB2.out b3)
      have HO3 := Lib.hid (own_below HO2.out b3)
      clear b3
      go_wp2_with fail
      refine ⟨⟨done ++ [r], ?_, ?_, ?_, ?_, ?_, ?_, HB3, Lib.hid ?_⟩, ?_⟩
      · rw [HUS.out]; exact h2
      · rw [HUS.out]; go_num
      · rw [HUS.out]
      · rw [HUS.out]
      · rw [HUS.out]
      · rw [HUS.out]; exact H3
      · rw [List.length_append, cells_append, cells_one]; exact HO3.out
      · simp [intOf]; omega
    · have he' : (e == 0) = false := by simpa using he
      have HSE := Lib.hid (HSt.out he)
      clear he hst HSt hS
      go_wp2_with fail
      go_ret2
      rw [HSE.out]
      exact ⟨_, rfl, hO.out, hB.out⟩
theorem refScan_calls (l : List UInt8) (hl : l.length ≤ 1000000000) (w : World) :
    Calls Tryd.prog 50 #[.string (bs l)] w fun e w' => ∃ v, e = .returned (.tuple #[v, .int .i64 (used (scan l))]) ∧ SV v (scan l) w' ∧ Below w.heap.size w w' :=
  (refScan_own l hl w).mono fun _ _ ⟨v, he, ho, hb⟩ => ⟨v, he, SV.of_own ho, hb⟩
theorem ext_getD (a b : List (List UInt8)) (h : a.length = b.length) (hi : ∀ i, i < a.length → a.getD i [] = b.getD i []) : a = b := by
  apply List.ext_getElem h
  intro i h1 h2
  have := hi i h1
  simpa [List.getD_eq_getElem?_getD, h1, h2] using this
set_option maxRecDepth 100000 in
set_option maxHeartbeats 4000000 in
theorem Same_calls (A B : Option Addr) (c d : Nat) (a b : List (List UInt8)) (ha : a.length ≤ maxLen) (hb : b.length ≤ maxLen) (w : World) (hA : SS A a w) (hB : SS B b w) :
    Calls Tryd.prog 16 #[.slice A a.length c, .slice B b.length d] w fun e w' => e = .returned (.bool (decide (a = b))) ∧ Below w.heap.size w w' := by
  unfold maxLen at ha hb
  have HA := Lib.hid hA
  have HBB := Lib.hid hB
  clear hA hB
  by_cases hlen : a.length = b.length
  · go_enter Tryd.func16, Tryd.ntmps16
    have hle' : ((a.length : Int) != (b.length : Int)) = false := by simp [hlen]
    have HL := Lib.hid hlen
    clear hlen
    go_wp2_with fail
    go_loopw [13] (fun i wr => ∃ k : Nat, k ≤ a.length ∧ i = .int .i64 k ∧ Hid (Below w.heap.size w wr) ∧ Hid (∀ i, i < k → a.getD i [] = b.getD i [])) (fun i _ => a.length - (intOf i).toNat)
    case atStart => exact ⟨0, by omega, rfl, Lib.hid (Below.refl _ _), Lib.hid (fun i h => absurd h (Nat.not_lt_zero i))⟩
    case round =>
      obtain ⟨k, hk, rfl, hW, hP⟩ := hrel
      by_cases hlt : k < a.length
      · have hlb : k < b.length := by have := HL.out; omega
        obtain ⟨g, o, rfl, hg, hi⟩ := (HA.out.below hW.out) (by omega)
        obtain ⟨g', o', rfl, hg', hi'⟩ := (HBB.out.below hW.out) (by omega)
        have c1 := hi k hlt
        have c2 := hi' k hlb
        clear hi hi'
        by_cases he : a.getD k [] = b.getD k []
        · have hP2 := Lib.hid (show ∀ i, i < k + 1 → a.getD i [] = b.getD i [] from fun i h => by
            rcases Nat.lt_succ_iff_lt_or_eq.1 h with h | rfl
            · exact hP.out i h
            · exact he)
          have hq : ((bs (a.getD k [])).toList == (bs (b.getD k [])).toList) = true := by rw [bs_beq, he]; simp
          have hq2 : ((bs (a.getD k [])).toList != (bs (b.getD k [])).toList) = false := by simp only [bne, hq]; rfl
          clear he
          generalize a.getD k [] = x at *
          generalize b.getD k [] = y at *
          go_wp2_with fail
          go_region
          go_wp2_with fail
          exact ⟨⟨k + 1, by omega, by go_num, Lib.hid hW.out.drew, hP2⟩, by simp [intOf]; omega⟩
        · have hE := Lib.hid (show decide (a = b) = false from decide_eq_false (fun e => he (by rw [e])))
          have hq : ((bs (a.getD k [])).toList == (bs (b.getD k [])).toList) = false := by rw [bs_beq]; simpa using he
          have hq2 : ((bs (a.getD k [])).toList != (bs (b.getD k [])).toList) = true := by simp only [bne, hq]; rfl
          clear he
          generalize a.getD k [] = x at *
          generalize b.getD k [] = y at *
          go_wp2_with fail
          go_region
          go_wp2_with fail
          go_ret
          rw [hE.out]
          exact ⟨rfl, hW.out.drew⟩
      · obtain rfl : k = a.length := by omega
        have hE := Lib.hid (show decide (a = b) = true from decide_eq_true (ext_getD a b HL.out hP.out))
        go_wp2_with fail
        go_ret
        rw [hE.out]
        exact ⟨rfl, hW.out⟩
  · have hE := Lib.hid (show decide (a = b) = false from decide_eq_false (fun e => hlen (by rw [e])))
    have hle' : ((a.length : Int) != (b.length : Int)) = true := by simp; omega
    go_enter Tryd.func16, Tryd.ntmps16
    go_wp2_with fail
    go_ret
    rw [hE.out]
    exact ⟨rfl, Below.refl _ _⟩
def lightB (l : List (List UInt8)) : Bool := (l.all fun x => decide (x.length ≤ 400)) && decide (l.length ≤ 12)
theorem light_iff {l : List (List UInt8)} (h : lightB l = true) : l.length ≤ 12 ∧ ∀ x ∈ l, x.length ≤ 400 := by
  unfold lightB at h
  simp at h
  exact ⟨h.2, h.1⟩
set_option maxRecDepth 100000 in
set_option maxHeartbeats 1000000 in
theorem Light_calls (A : Option Addr) (c : Nat) (l : List (List UInt8)) (w : World) (hA : SS A l w) (hl : l.length ≤ maxLen) :
    Calls Tryd.prog 17 #[.slice A l.length c] w fun e w' => e = .returned (.bool (lightB l)) ∧ Below w.heap.size w w' := by
  unfold maxLen at hl
  have HA := Lib.hid hA
  clear hA
  go_enter Tryd.func17, Tryd.ntmps17
  go_wp2
  go_loop [7] (fun i => ∃ k : Nat, k ≤ l.length ∧ i = .int .i64 k ∧ Hid ((l.take k).all (fun x => decide (x.length ≤ 400)) = true)) (fun i => l.length - (intOf i).toNat)
  case atStart => exact ⟨0, by omega, rfl, rfl⟩
  case round =>
    obtain ⟨k, hk, rfl, hP⟩ := hrel
    by_cases hlt : k < l.length
    · obtain ⟨b, off, rfl, hbl, hi⟩ := HA.out (by omega)
      have c0 := hi k hlt
      clear hi
      have HT := Lib.hid (take_succ_getD l k hlt)
      have HM := Lib.hid (getD_mem l k hlt)
      generalize l.getD k [] = x at *
      have hz : (bs x).size = x.length := bs_size _
      by_cases hx : 400 < x.length
      · have HE := Lib.hid (show lightB l = false by
          unfold lightB
          rw [Bool.and_eq_false_iff]
          left
          rw [List.all_eq_false]
          exact ⟨x, HM.out, by simp; omega⟩)
        go_wp2
        go_ret
        rw [HE.out]
        exact ⟨rfl, Below.refl _ _⟩
      · go_wp2
        refine ⟨⟨k + 1, by omega, by go_num, Lib.hid ?_⟩, by simp [intOf]; omega⟩
        rw [HT.out, List.all_append, hP.out]
        simp; omega
    · obtain rfl : k = l.length := by omega
      have HE := Lib.hid (show lightB l = decide (l.length ≤ 12) by
        have := hP.out
        rw [List.take_length] at this
        unfold lightB
        rw [this, Bool.true_and])
      go_wp2
      go_ret
      rw [HE.out]
      refine ⟨?_, Below.refl _ _⟩
      congr 2
      simp; omega
end Go.Proofs.YtjnjcjildiadgaaDoor.Sg
/- The walks of the chapter's example and of SegNexts. -/
namespace Go.Proofs.YtjnjcjildiadgaaDoor.Sg
open Go Go.RowKit Frame Oct Frm
theorem SS.one {p : Nat} {r : List UInt8} {t : TypeId} {w : World} (h : Has p #[.string (bs r)] t w) : SS (some ⟨p, 0, none⟩) [r] w := fun _ => by
  refine ⟨p, 0, rfl, h.lt, fun i hi => ?_⟩
  obtain rfl : i = 0 := by simpa using hi
  exact h.cell 0
theorem bytes_one (r : List UInt8) (h : bad r = 0) : bytes [r] = (one r, 0) := by
  unfold bytes
  rw [err_of (l := [r]) (fun x hx => by rw [List.mem_singleton.1 hx]; exact h), if_neg (by decide)]
  simp [cat]
theorem bytes_bad (r : List UInt8) (h : bad r ≠ 0) : bytes [r] = ([], bad r) := by
  have : err [r] = bad r := by unfold err; rw [if_pos h]
  unfold bytes
  rw [this, if_pos h]
theorem Bytes_one (p : Nat) (r : List UInt8) (w : World) (hT : Crc.Tab w) (h : SS (some ⟨p, 0, none⟩) [r] w) :
    Calls Tryd.prog 36 #[.slice (some ⟨p, 0, none⟩) 1 1] w fun e w' => e = .returned (.tuple #[.string (bs (bytes [r]).1), .int .i64 (bytes [r]).2]) ∧ Below w.heap.size w w' :=
  Bytes_calls (some ⟨p, 0, none⟩) 1 [r] (by simp) w hT h
def ab : List UInt8 := [97, 98]
theorem ab_len : (one ab).length = 11 := one_length _
theorem ab_front : (one ab).take 6 = [0, 0, 0, 2, 97, 98] := by decide +kernel
theorem ab_last : (one ab).getD 10 0 = 165 := by decide +kernel
theorem ab_next : next (one ab) = (ab, 11, 0) := by
  have := next_one ab [] (by decide)
  rwa [List.append_nil] at this
set_option maxRecDepth 100000 in
set_option maxHeartbeats 2000000 in
theorem awake_calls (w : World) (hT : Crc.Tab w) : Calls Tryd.prog 42 #[] w fun e w' => e = .returned (.bool true) ∧ Below w.heap.size w w' := by
  have HT := Lib.hid hT
  clear hT
  have hb0 := Lib.hid ((Below.refl w.heap.size w).alloc (Nat.le_refl _) (.cells #[.string (bs ab)] 9))
  have HT0 := Lib.hid (HT.out.below hb0.out)
  have HB := Lib.hid (Bytes_one w.heap.size ab (w.alloc (.cells #[.string (bs ab)] 9)) HT0.out (SS.one (Has.new w _ _)))
  rw [bytes_one ab (by decide)] at HB
  have HN := Lib.hid (fun W h => Next_calls (one ab) (by rw [ab_len]; decide) W h)
  rw [ab_next] at HN
  have HZ := Lib.hid (fun W => Size_calls ab (by decide) W)
  have hx := idx (one ab) 10 10 rfl (by rw [ab_len]; decide)
  rw [ab_last, show ((165 : UInt8).toNat : Int) = 165 from by decide] at hx
  have hz : (bs (one ab)).size = 11 := by rw [bs_size, ab_len]
  have hext : (bs (one ab)).extract 0 6 = ⟨#[0, 0, 0, 2, 97, 98]⟩ := by rw [extract_to, ab_front]; rfl
  rw [show (ab.length + 9 : Nat) = 11 from rfl] at HZ
  change Hid (∀ W, Calls Tryd.prog 61 #[.string ⟨#[97, 98]⟩] W _) at HZ
  change Hid (∀ W, Crc.Tab W → Calls Tryd.prog 59 #[.string (bs (one ab))] W fun e w' => e = .returned (.tuple #[.string ⟨#[97, 98]⟩, .int .i64 11, .int .i64 0]) ∧ Below W.heap.size W w') at HN
  generalize bs (one ab) = s at *
  unfold ab bs at hb0 HT0 HB
  simp only at HB
  go_enter Tryd.func42, Tryd.ntmps42
  go_wp2_with fail
  refine HB.out.mono ?_
  rintro e w1 ⟨rfl, b1⟩
  have B1 := Lib.hid (bthen hb0.out b1)
  have HT1 := Lib.hid (HT0.out.below b1)
  clear b1
  go_wp2_with fail
  refine (HN.out _ HT1.out).mono ?_
  rintro e w2 ⟨rfl, b2⟩
  have B2 := Lib.hid (bthen B1.out b2)
  have HT2 := Lib.hid (HT1.out.below b2)
  clear b2
  go_wp2_with fail
  refine (Frm.Awake2_calls _ HT2.out).mono ?_
  rintro e w3 ⟨rfl, b3⟩
  have B3 := Lib.hid (bthen B2.out b3)
  clear b3
  go_wp2_with fail
  refine (HZ.out _).mono ?_
  rintro e w4 ⟨rfl, rfl⟩
  go_wp2_with fail
  go_ret
  exact ⟨rfl, B3.out⟩
end Go.Proofs.YtjnjcjildiadgaaDoor.Sg
