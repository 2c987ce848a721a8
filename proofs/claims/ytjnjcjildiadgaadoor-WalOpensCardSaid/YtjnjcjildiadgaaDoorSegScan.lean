/- The walks of seg.Bytes and seg.Scan. -/
import Derived.Test.YtjnjcjildiadgaaDoorSegWalk
import Derived.Test.YtjnjcjildiadgaaDoorSegRows
import Derived.Laws.AppendOwnNone
namespace Go.Proofs.YtjnjcjildiadgaaDoor.Sg
open Go Go.RowKit Frame Oct Frm
theorem bs_empty (r : List UInt8) : ((bs r).toList == ([] : List UInt8)) = decide (r.length = 0) := by
  rw [ByteArray.toList_eq]
  cases r <;> rfl
theorem bs_ne_empty (r : List UInt8) (h : r.length ≠ 0) : ((bs r).toList == ([] : List UInt8)) = false := by rw [bs_empty]; simpa using h
theorem bs_eq_empty (r : List UInt8) (h : r.length = 0) : ((bs r).toList == ([] : List UInt8)) = true := by rw [bs_empty]; simpa using h
theorem err_take (l : List (List UInt8)) (k : Nat) (h : k < l.length) (he : err (l.take k) = 0) : err l = if bad (l.getD k []) ≠ 0 then bad (l.getD k []) else err (l.take k ++ l.getD k [] :: l.drop (k + 1)) := by
  have e : l = l.take k ++ l.getD k [] :: l.drop (k + 1) := by
    have : l.getD k [] = l[k] := by simp [List.getD_eq_getElem?_getD, h]
    rw [this, List.getElem_cons_drop, List.take_append_drop]
  split
  · rename_i hb
    conv => lhs; rw [e]
    exact err_snoc _ _ _ he hb
  · rw [← e]
theorem err_take_succ (l : List (List UInt8)) (k : Nat) (h : k < l.length) (he : err (l.take k) = 0) (hb : bad (l.getD k []) = 0) : err (l.take (k + 1)) = 0 := by
  rw [take_succ_getD l k h]
  refine err_of fun r hr => ?_
  rcases List.mem_append.1 hr with hr | hr
  · exact err_ok he r hr
  · rw [List.mem_singleton.1 hr]; exact hb
theorem cat_take_succ (l : List (List UInt8)) (k : Nat) (h : k < l.length) : cat (l.take (k + 1)) = cat (l.take k) ++ one (l.getD k []) := by
  rw [take_succ_getD l k h, cat_append]
  simp [cat]
theorem used_take_le (l : List (List UInt8)) (m : Nat) (hl : ∀ r ∈ l, r.length ≤ m) (k : Nat) : used (l.take k) ≤ k * (m + 9) := by
  induction l generalizing k with
  | nil => simp [used]
  | cons r l ih =>
    cases k with
    | zero => simp [used]
    | succ k =>
      rw [List.take_succ_cons, used]
      have h1 := hl r (by simp)
      have h2 := ih (fun x hx => hl x (by simp [hx])) k
      rw [Nat.succ_mul]
      omega
theorem at_below {B b : Nat} {p : Value} {xs : List Value} {w w' : World} (h : Lib.BuilderAt 74 5 B b p xs w) (hb : Below w.heap.size w w') : Lib.BuilderAt 74 5 B b p xs w' := by
  obtain ⟨h1, v, h2, h3, h4⟩ := h
  exact ⟨h1, v, (hb.block b (Has.lt h2)).trans h2, own_below h3 hb, h4⟩
theorem is_below {B b : Nat} {l : List UInt8} {w w' : World} (h : Bld.Is B b l w) (hb : Below w.heap.size w w') : Bld.Is B b l w' := h.elim (fun x => .inl (at_below x hb)) (fun x => .inr (at_below x hb))
theorem bad_le {r : List UInt8} (h : bad r = 0) : r.length ≤ 131072 := (bad_ok h).2
set_option maxRecDepth 100000 in
set_option maxHeartbeats 4000000 in
theorem Bytes_calls (A : Option Addr) (c : Nat) (l : List (List UInt8)) (hl : l.length ≤ 1000000) (w : World) (hT : Crc.Tab w) (hA : SS A l w) :
    Calls Tryd.prog 36 #[.slice A l.length c] w fun e w' => e = .returned (.tuple #[.string (bs (bytes l).1), .int .i64 (bytes l).2]) ∧ Below w.heap.size w w' := by
  have HT := Lib.hid hT
  have HA := Lib.hid hA
  clear hT hA
  go_enter Tryd.func36, Tryd.ntmps36
  go_wp2_with fail
  have HI := Lib.hid (Bld.Is.fresh w)
  go_loopw [9] (fun i wr => ∃ k : Nat, k ≤ l.length ∧ i = .int .i64 k ∧ Hid (Below w.heap.size w wr) ∧ Hid (Bld.Is w.heap.size w.heap.size (cat (l.take k)) wr) ∧ Hid (err (l.take k) = 0)) (fun i _ => l.length - (intOf i).toNat)
  case atStart => exact ⟨0, by omega, rfl, Lib.hid ((Below.refl _ _).alloc (Nat.le_refl _) _), HI, Lib.hid rfl⟩
  case round =>
    obtain ⟨k, hk, rfl, hB, hI, hE⟩ := hrel
    clear HI
    by_cases hlt : k < l.length
    · obtain ⟨b, off, rfl, hbl, hi⟩ := (HA.out.below hB.out) (by omega)
      have ck := hi k hlt
      have HC := Lib.hid (cat_take_succ l k hlt)
      have HER := Lib.hid (err_take l k hlt hE.out)
      have HES := Lib.hid (err_take_succ l k hlt hE.out)
      have HU := Lib.hid (used_take_le (l.take k) 131072 (fun r hr => bad_le (err_ok hE.out r hr)) k)
      rw [List.take_take, Nat.min_self, ← cat_length] at HU
      have hsz := hB.out.size
      clear hi
      generalize l.getD k [] = r at *
      have hzr : (bs r).size = r.length := bs_size _
      by_cases h0 : r.length = 0
      · have h0' := bs_eq_empty r h0
        have hb : bad r = 15 := by unfold bad; rw [if_pos h0]
        have HR := Lib.hid (show bytes l = ([], 15) by
          have := HER.out
          rw [hb, if_pos (by decide)] at this
          unfold bytes
          rw [this, if_pos (by decide)])
        clear hb
        go_wp2_with fail
        go_ret2
        rw [HR.out]
        exact ⟨rfl, hB.out⟩
      · have h0' := bs_ne_empty r h0
        by_cases h5 : 131072 < r.length
        · have hb : bad r = 5 := by unfold bad; rw [if_neg h0, if_pos h5]
          have HR := Lib.hid (show bytes l = ([], 5) by
            have := HER.out
            rw [hb, if_pos (by decide)] at this
            unfold bytes
            rw [this, if_pos (by decide)])
          clear hb h0
          go_wp2_with fail
          go_ret2
          rw [HR.out]
          exact ⟨rfl, hB.out⟩
        · have HB0 := Lib.hid (show bad r = 0 by unfold bad; rw [if_neg h0, if_neg h5])
          have HTr := Lib.hid (HT.out.below hB.out)
          clear h0
          go_wp2_with fail
          refine (one_calls r (by omega) _ HTr.out).mono ?_
          rintro e w1 ⟨rfl, b1⟩
          have HB1 := Lib.hid (bthen hB.out b1)
          have HI1 := Lib.hid (is_below hI.out b1)
          clear b1
          go_wp2_with fail
          refine (Bld.WriteString_calls w.heap.size w.heap.size (cat (l.take k)) (bs (one r)) w1 HI1.out ?_ HB1.out.size).mono ?_
          · have := HU.out
            rw [bs_size, one_length]
            omega
          rintro e w2 ⟨rfl, hI2, b2⟩
          have HB2 := Lib.hid (HB1.out.trans b2)
          rw [bs_toList, ← HC.out] at hI2
          have HI2 := Lib.hid hI2
          clear hI2 b2
          go_wp2_with fail
          exact ⟨⟨k + 1, by omega, by go_num, HB2, HI2, Lib.hid (HES.out HB0.out)⟩, by simp [intOf]; omega⟩
    · obtain rfl : k = l.length := by omega
      rw [List.take_length] at hI hE
      have HR := Lib.hid (show bytes l = (cat l, 0) by unfold bytes; rw [hE.out, if_neg (by decide)])
      have hsz := hB.out.size
      go_wp2_with fail
      refine (Bld.String_calls w.heap.size w.heap.size (cat l) _ hI.out hsz).mono ?_
      rintro e w1 ⟨rfl, b1⟩
      have HB1 := Lib.hid (hB.out.trans b1)
      clear b1
      go_wp2_with fail
      go_ret2
      rw [HR.out]
      exact ⟨rfl, HB1.out⟩
theorem scan_step (l : List UInt8) (u : Nat) (done : List (List UInt8)) (hu : u ≤ l.length) (hs : scan l = done ++ scan (l.drop u)) (he : (next (l.drop u)).2.2 = 0) :
    (next (l.drop u)).2.1 = (next (l.drop u)).1.length + 9 ∧ u + (next (l.drop u)).2.1 ≤ l.length ∧ scan l = (done ++ [(next (l.drop u)).1]) ++ scan (l.drop (u + (next (l.drop u)).2.1)) := by
  obtain ⟨h1, h2, h3⟩ := next_len he
  rw [List.length_drop] at h3
  refine ⟨h2, by omega, ?_⟩
  rw [hs, scan_cons he, List.drop_drop, List.append_assoc]
  rfl
theorem used_snoc (a : List (List UInt8)) (r : List UInt8) : used (a ++ [r]) = used a + (r.length + 9) := by rw [used_append]; simp [used]
theorem used_len (a : List (List UInt8)) : a.length * 9 ≤ used a := by
  induction a with
  | nil => simp
  | cons r a ih => rw [List.length_cons, Nat.succ_mul, used]; omega
set_option maxRecDepth 100000 in
set_option maxHeartbeats 4000000 in
theorem Scan_own (l : List UInt8) (hl : l.length ≤ 1000000000) (w : World) (hT : Crc.Tab w) :
    Calls Tryd.prog 47 #[.string (bs l)] w fun e w' => ∃ v, e = .returned (.tuple #[v, .int .i64 (used (scan l))]) ∧ w'.ownsRow w.heap.size 9 1 v (scan l).length (cells (scan l)) ∧ Below w.heap.size w w' := by
  have hzl : (bs l).size = l.length := bs_size _
  have HT := Lib.hid hT
  obtain ⟨i0, hi0, hz0, hz1, hz2⟩ := info_parts infoS
  clear hT
  go_enter Tryd.func47, Tryd.ntmps47
  go_wp2_with fail
  go_loopw [4, 5] (fun out i wr => ∃ done : List (List UInt8), used done ≤ l.length ∧ i = .int .i64 (used done : Nat) ∧ Hid (scan l = done ++ scan (l.drop (used done))) ∧ Hid (Below w.heap.size w wr) ∧ Hid (wr.ownsRow w.heap.size 9 1 out done.length (cells done))) (fun _ i _ => l.length + 1 - (intOf i).toNat)
  case atStart => exact ⟨[], Nat.zero_le _, rfl, Lib.hid rfl, Lib.hid (Below.refl _ _), Lib.hid (World.ownsRow_nil _ _ _ _)⟩
  case round =>
    obtain ⟨done, hu, rfl, hS, hB, hO⟩ := hrel
    have HTr := Lib.hid (HT.out.below hB.out)
    have hlen := used_len done
    have HUS := Lib.hid (used_snoc done)
    have hst := Lib.hid (scan_step l (used done) done hu hS.out)
    have hext : (bs l).extract (used done) l.length = bs (l.drop (used done)) := extract_from _ _
    have HN := Lib.hid (fun W h => Next_calls (l.drop (used done)) (by simp only [List.length_drop]; omega) W h)
    have HSt := Lib.hid (fun h : (next (l.drop (used done))).2.2 ≠ 0 => hS.out.trans (by rw [scan_stop h, List.append_nil]))
    generalize hnx : next (l.drop (used done)) = nx at *
    have HNX := Lib.hid hnx
    clear hnx
    obtain ⟨r, n, e⟩ := nx
    simp only at HN hst HSt
    have hs0 := hB.out.size
    by_cases he : e = 0
    · subst he
      obtain ⟨h1, h2, h3⟩ := hst.out rfl
      have H3 := Lib.hid h3
      subst h1
      clear h3 hst HSt hS
      generalize hud : used done = u at *
      have HUD := Lib.hid hud
      clear hud
      go_wp2_with fail
      refine (HN.out _ HTr.out).mono ?_
      rintro e w1 ⟨rfl, b1⟩
      have HB1 := Lib.hid (bthen hB.out b1)
      have HO1 := Lib.hid ((own_below hO.out b1).alloc (.cells #[.string (bs r)] 9))
      have hs1 := HB1.out.size
      clear b1
      have tok : True := trivial
      go_wp2_with (at_builtin; have _t := tok; refine wpList_append_own _ rfl _ _ 22 rfl w.heap.size 9 i0 _ 1 16 Tryd.underlying22 hi0 hz0 hz1 hz2 rfl (by decide) _ _ _ rfl HO1.out ⟨w1.heap.size, 0, none⟩ 1 1 [.string (bs r)] rfl rfl ?c1 ?c2 ?c3 ?c4 ?c5 ?_; clear _t tok)
      case c1 => exact cell_one_new _ _ _
      case c2 => intro u hu; simp at hu; subst hu; rfl
      case c3 => unfold maxLen; omega
      case c4 => omega
      case c5 => simp; omega
      intro v' w2 hown' hgrow _
      have HO2 := Lib.hid hown'
      have HB2 := Lib.hid (below_grown (HB1.out.alloc hs1 (.cells #[.string (bs r)] 9)) hgrow (by simp; omega) (fun g hg => (HO1.out.lt g hg).1))
      clear hown' hgrow
      go_wp2_with fail
      refine ⟨⟨done ++ [r], ?_, ?_, ?_, HB2, Lib.hid ?_⟩, ?_⟩
      · rw [HUS.out]; exact h2
      · rw [HUS.out]; go_num
      · rw [HUS.out]; exact H3
      · rw [List.length_append, cells_append, cells_one]; exact HO2.out
      · simp [intOf]; omega
    · have he' : (e != 0) = true := by simpa using he
      have HSE := Lib.hid (HSt.out he)
      clear he hst HSt hS
      go_wp2_with fail
      refine (HN.out _ HTr.out).mono ?_
      rintro e w1 ⟨rfl, b1⟩
      have HB1 := Lib.hid (bthen hB.out b1)
      have HO1 := Lib.hid (own_below hO.out b1)
      clear b1
      go_wp2_with fail
      go_ret2
      rw [HSE.out]
      exact ⟨_, rfl, HO1.out, HB1.out⟩
theorem Scan_calls (l : List UInt8) (hl : l.length ≤ 1000000000) (w : World) (hT : Crc.Tab w) :
    Calls Tryd.prog 47 #[.string (bs l)] w fun e w' => ∃ v, e = .returned (.tuple #[v, .int .i64 (used (scan l))]) ∧ SV v (scan l) w' ∧ Below w.heap.size w w' :=
  (Scan_own l hl w hT).mono fun _ _ ⟨v, he, ho, hb⟩ => ⟨v, he, SV.of_own ho, hb⟩
end Go.Proofs.YtjnjcjildiadgaaDoor.Sg
