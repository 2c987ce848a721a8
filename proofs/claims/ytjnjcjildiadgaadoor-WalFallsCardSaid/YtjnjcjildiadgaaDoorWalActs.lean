/- Acts of stairwelllaw17: how they lie, opened; Light, first. -/
import Derived.Test.YtjnjcjildiadgaaDoorWalRoom
namespace Go.Proofs.YtjnjcjildiadgaaDoor.Wl
open Go Go.RowKit Go.ChangeShapes Go.WideShapes Frame Oct Disk
structure WAct where
  kind : UInt8
  ad : Option Addr
  recs : List (List UInt8)
  cap : Nat
  at_ : Int
  cut : Int
instance : Inhabited WAct := ⟨⟨0, none, [], 0, 0, 0⟩⟩
def WAct.Ok (x : WAct) : Prop := (-9223372036854775808 ≤ x.at_ ∧ x.at_ ≤ 9223372036854775807) ∧ (-9223372036854775808 ≤ x.cut ∧ x.cut ≤ 9223372036854775807) ∧ x.recs.length ≤ x.cap ∧ x.cap ≤ maxLen ∧ (x.ad = none → x.cap = 0)
def aCells (x : WAct) : Array Value := #[.int .u8 x.kind.toNat, .slice x.ad x.recs.length x.cap, .int .i64 x.at_, .int .i64 x.cut]
def ActAt (b o : Nat) (x : WAct) (w : World) : Prop :=
  w.cell? ⟨b, o, none⟩ = some (.int .u8 x.kind.toNat) ∧ w.cell? ⟨b, o + 1, none⟩ = some (.slice x.ad x.recs.length x.cap) ∧ w.cell? ⟨b, o + 2, none⟩ = some (.int .i64 x.at_) ∧ w.cell? ⟨b, o + 3, none⟩ = some (.int .i64 x.cut)
/-- A slice of acts, in a block below B, their records too. -/
def Acts (B : Nat) (A : Option Addr) (l : List WAct) (w : World) : Prop :=
  0 < l.length → ∃ b off, A = some ⟨b, off, none⟩ ∧ b < B ∧ ∀ i, i < l.length → ActAt b (off + i * 4) (l.getD i default) w ∧ Sg.SS (l.getD i default).ad (l.getD i default).recs w ∧ (∀ b' off', (l.getD i default).ad = some ⟨b', off', none⟩ → 0 < (l.getD i default).recs.length → b' < B)
theorem ss_belowB {B : Nat} {A : Option Addr} {l : List (List UInt8)} {w w' : World} (h : Sg.SS A l w) (hB : ∀ b' off', A = some ⟨b', off', none⟩ → 0 < l.length → b' < B) (hb : Below B w w') (hz : w.heap.size ≤ w'.heap.size) : Sg.SS A l w' := fun h0 => by
  obtain ⟨b, off, hA, hlt, hi⟩ := h h0
  exact ⟨b, off, hA, by omega, fun i hil => (hb.cell (p := ⟨b, off + i, none⟩) (hB b off hA h0)).trans (hi i hil)⟩
theorem Acts.below {B : Nat} {A : Option Addr} {l : List WAct} {w w' : World} (h : Acts B A l w) (hb : Below B w w') : Acts B A l w' := fun h0 => by
  obtain ⟨b, off, hA, hlt, hi⟩ := h h0
  refine ⟨b, off, hA, hlt, fun i hil => ?_⟩
  obtain ⟨⟨c0, c1, c2, c3⟩, hs, hbb⟩ := hi i hil
  have hc := fun o => hb.cell (p := ⟨b, o, none⟩) hlt
  exact ⟨⟨by rw [hc]; exact c0, by rw [hc]; exact c1, by rw [hc]; exact c2, by rw [hc]; exact c3⟩, ss_belowB hs hbb hb hb.size, hbb⟩
theorem take_succ_getD {α : Type} [Inhabited α] (l : List α) (k : Nat) (h : k < l.length) : l.take (k + 1) = l.take k ++ [l.getD k default] := by
  rw [List.take_succ_eq_append_getElem h]; simp [List.getD_eq_getElem?_getD, h]
theorem getD_mem {α : Type} [Inhabited α] (l : List α) (k : Nat) (h : k < l.length) : l.getD k default ∈ l := by
  simp [List.getD_eq_getElem?_getD, h]
theorem mem_getD {α : Type} [Inhabited α] {l : List α} {x : α} (h : x ∈ l) : ∃ i, i < l.length ∧ l.getD i default = x := by
  obtain ⟨i, hi, rfl⟩ := List.getElem_of_mem h
  exact ⟨i, hi, by simp [List.getD_eq_getElem?_getD, hi]⟩
def lightB (l : List WAct) : Bool := (l.all fun x => Sg.lightB x.recs) && decide (l.length ≤ 40)
theorem light_iff {l : List WAct} (h : lightB l = true) : l.length ≤ 40 ∧ ∀ x ∈ l, Sg.lightB x.recs = true := by
  unfold lightB at h
  simp at h
  exact ⟨h.2, h.1⟩
set_option maxRecDepth 100000 in
set_option maxHeartbeats 1000000 in
theorem Light_calls (A : Option Addr) (c : Nat) (l : List WAct) (w : World) (hA : Acts w.heap.size A l w) (hO : ∀ x ∈ l, x.Ok) (hl : l.length ≤ maxLen) :
    Calls Tryd.prog 22 #[.slice A l.length c] w fun e w' => e = .returned (.bool (lightB l)) ∧ Below w.heap.size w w' := by
  unfold maxLen at hl
  have HA := Lib.hid hA
  have HO := Lib.hid hO
  clear hA hO
  go_enter Tryd.func22, Tryd.ntmps22
  go_wp2
  go_loopw [7] (fun i wr => ∃ k : Nat, k ≤ l.length ∧ i = .int .i64 k ∧ Hid (Below w.heap.size w wr) ∧ Hid ((l.take k).all (fun x => Sg.lightB x.recs) = true)) (fun i _ => l.length - (intOf i).toNat)
  case atStart => exact ⟨0, by omega, rfl, Lib.hid (Below.refl _ _), rfl⟩
  case round =>
    obtain ⟨k, hk, rfl, hB, hP⟩ := hrel
    by_cases hlt : k < l.length
    · obtain ⟨b, off, rfl, hbl, hi⟩ := (HA.out.below hB.out) (by omega)
      obtain ⟨⟨c0, c1, c2, c3⟩, hs, -⟩ := hi k hlt
      clear hi
      have HT := Lib.hid (take_succ_getD l k hlt)
      have HM := Lib.hid (getD_mem l k hlt)
      have hok := HO.out _ HM.out
      generalize l.getD k default = x at *
      have HS := Lib.hid (hs.below ((Below.refl _ _).alloc (Nat.le_refl _) (.cells #[.int .u8 x.kind.toNat, .slice x.ad x.recs.length x.cap, .int .i64 x.at_, .int .i64 x.cut] 49)))
      have HBa := Lib.hid (hB.out.alloc hB.out.size (.cells #[.int .u8 x.kind.toNat, .slice x.ad x.recs.length x.cap, .int .i64 x.at_, .int .i64 x.cut] 49))
      obtain ⟨-, -, hc1, hc2, -⟩ := hok
      have HL := Lib.hid (show x.recs.length ≤ maxLen by omega)
      clear hs hc1 hc2
      go_wp2_with fail
      refine (Sg.Light_calls x.ad x.cap x.recs _ HS.out HL.out).mono ?_
      rintro e w2 ⟨rfl, b2⟩
      have HB2 := Lib.hid (bthen HBa.out b2)
      clear b2
      rcases Bool.eq_false_or_eq_true (Sg.lightB x.recs) with hx | hx
      · rw [hx]
        have HX := Lib.hid hx
        clear hx
        go_wp2_with fail
        refine ⟨⟨k + 1, by omega, by go_num, HB2, Lib.hid ?_⟩, by simp [intOf]; omega⟩
        rw [HT.out, List.all_append, hP.out]
        simp [HX.out]
      · rw [hx]
        have HE := Lib.hid (show lightB l = false by
          unfold lightB
          rw [Bool.and_eq_false_iff]
          left
          rw [List.all_eq_false]
          exact ⟨x, HM.out, by rw [hx]; decide⟩)
        clear hx
        go_wp2_with fail
        go_ret
        rw [HE.out]
        exact ⟨rfl, HB2.out⟩
    · obtain rfl : k = l.length := by omega
      have HE := Lib.hid (show lightB l = decide (l.length ≤ 40) by
        have := hP.out
        rw [List.take_length] at this
        unfold lightB
        rw [this, Bool.true_and])
      go_wp2
      go_ret
      rw [HE.out]
      refine ⟨?_, hB.out⟩
      congr 2
      simp; omega
/-- A slice of strings in one cell. -/
theorem strs_cell {H : Type} {enc : TypeId × Value → H} {w : World} {base : Nat} {spare : Nat → Bool} {held : Bool} {m : Nat} {x : Value} {y : DataW H × List MemPlace}
    (hf : DataW.trod enc Tryd.prog w base spare held m 22 [x] = some y) :
    ∃ (A : Option Addr) (c : Nat) (l : List (List UInt8)), x = .slice A l.length c ∧ l.length ≤ c ∧ c ≤ maxLen ∧ (A = none → c = 0) ∧ Sg.SS A l w := by
  rcases open_strings Tryd.underlying22 Tryd.underlying9 (by kernel_rfl) hf with ⟨hcs, _⟩ | ⟨a, len', cap', ss, hcs, _, hl, hm, hz, _, hcell, hsz⟩
  · simp at hcs
    subst hcs
    exact ⟨none, 0, [], rfl, Nat.le_refl _, Nat.zero_le _, (fun _ => rfl), Sg.SS.nil _ _⟩
  · simp at hcs
    subst hcs
    have hle : len' ≤ ss.length := by split at hz <;> omega
    have hln : ((ss.take len').map fun s => s.data.toList).length = len' := by simp; omega
    refine ⟨some a, cap', (ss.take len').map fun s => s.data.toList, by rw [hln], by omega, hm, (fun h => by cases h), ?_⟩
    intro h0
    rw [hln] at h0 ⊢
    obtain ⟨b, off, spot⟩ := a
    have hspot : spot = none := by
      have h1 := hcell 0 (by omega)
      have := World.cell?_spot h1
      simpa [Addr.add] using this
    subst hspot
    refine ⟨b, off, rfl, (Sg.cell_lt (hcell 0 (by omega)) : _), fun i hi => ?_⟩
    have h1 := hcell i (by omega)
    rw [Addr.add_lit] at h1
    rw [h1]
    congr 2
    simp only [List.getD_eq_getElem?_getD, List.getElem?_map, List.getElem?_take, if_pos hi, List.getElem?_eq_getElem (show i < ss.length by omega), Option.map_some, Option.getD_some]
    exact (bs_self _).symm
set_option maxRecDepth 100000 in
theorem open_acts {H : Type} {enc : TypeId × Value → H} {w : World} {base : Nat} {spare : Nat → Bool} {held : Bool} {r : Reach} {b0 : Nat} {v : Value} {d : DataW H} {p : List MemPlace}
    (hv : Value.okWide Tryd.prog w r b0 46 v) (h : DataW.Trod enc Tryd.prog w base spare held 46 v d p) :
    ∃ (A : Option Addr) (c : Nat) (l : List WAct), v = .slice A l.length c ∧ l.length ≤ maxLen ∧ Acts w.heap.size A l w ∧ ∀ x ∈ l, x.Ok := by
  obtain ⟨A, len, cap, rfl, hlen, hrow⟩ := Open.open_rows Tryd.underlying46 Tryd.underlying49 (by kernel_rfl) (by kernel_rfl) (by decide) hv h
  by_cases h0 : 0 < len
  · obtain ⟨b, off, rfl, hr⟩ := hrow h0
    have hex : ∀ i, i < len → ∃ x : WAct, (ActAt b (off + i * 4) x w ∧ Sg.SS x.ad x.recs w) ∧ x.Ok := fun i hi => by
      obtain ⟨x0, y0, m0, c0, t0⟩ := hr i hi 0 _ rfl
      obtain ⟨x1, y1, m1, c1, t1⟩ := hr i hi 1 _ rfl
      obtain ⟨x2, y2, m2, c2, t2⟩ := hr i hi 2 _ rfl
      obtain ⟨x3, y3, m3, c3, t3⟩ := hr i hi 3 _ rfl
      obtain ⟨k, rfl⟩ := Open.byte_cell Tryd.underlying5 t0
      obtain ⟨ad, cp, rs, rfl, q1, q2, q3, q4⟩ := strs_cell t1
      obtain ⟨n, rfl, hn⟩ := Open.i64_cell Tryd.underlying3 t2
      obtain ⟨z, rfl, hz⟩ := Open.i64_cell Tryd.underlying3 t3
      exact ⟨⟨k, ad, rs, cp, n, z⟩, ⟨⟨c0, c1, c2, c3⟩, q4⟩, hn, hz, q1, q2, q3⟩
    obtain ⟨l, rfl, hl⟩ := Open.list_of len _ hex
    refine ⟨_, cap, l, rfl, hlen, fun _ => ⟨b, off, rfl, Sg.cell_lt (hl 0 h0).1.1.1, fun i hi => ⟨(hl i hi).1.1, (hl i hi).1.2, fun b' off' e hp => ?_⟩⟩, fun x hx => ?_⟩
    · obtain ⟨b2, off2, e2, hlt, -⟩ := (hl i hi).1.2 hp
      rw [e] at e2
      injection e2 with e2
      injection e2 with e2
      omega
    · obtain ⟨i, hi, rfl⟩ := mem_getD hx
      exact (hl i hi).2
  · obtain rfl : len = 0 := by omega
    exact ⟨A, cap, [], rfl, Nat.zero_le _, fun h => absurd h (Nat.lt_irrefl 0), fun x hx => by cases hx⟩
theorem getD_one (r : List UInt8) (l : List (List UInt8)) : (r :: l).getD 0 [] = r := rfl
set_option maxHeartbeats 1000000 in
/-- The first record of an act. -/
theorem first_calls (x : WAct) (w : World) (hS : Sg.SS x.ad x.recs w) (hl : x.recs.length ≤ maxLen) :
    Calls Tryd.prog 23 #[.agg (aCells x)] w fun e w' => e = .returned (.string (bs (x.recs.getD 0 []))) ∧ Below w.heap.size w w' := by
  unfold maxLen at hl
  have HB := Lib.hid ((Below.refl w.heap.size w).alloc (Nat.le_refl _) (.cells (aCells x) 49))
  unfold aCells at HB ⊢
  by_cases h0 : x.recs.length = 0
  · have he : x.recs.getD 0 [] = [] := by rw [List.length_eq_zero_iff.1 h0]; rfl
    rw [he]
    rw [h0] at HB ⊢
    clear h0 he hS hl
    go_enter Tryd.func23, Tryd.ntmps23
    go_wp2_with fail
    go_ret
    exact ⟨rfl, HB.out⟩
  · obtain ⟨b, off, ha, hbl, hi⟩ := hS (by omega)
    have i0 := hi 0 (by omega)
    rw [Nat.add_zero] at i0
    rw [ha] at HB ⊢
    have hp : 0 < x.recs.length := by omega
    have hne : ((x.recs.length : Int) == 0) = false := beq_eq_false_iff_ne.2 (by omega)
    clear h0 hS hi ha
    generalize hxx : x.recs.getD 0 [] = r at *
    clear hxx
    go_enter Tryd.func23, Tryd.ntmps23
    go_wp2_with fail
    go_ret
    exact ⟨rfl, HB.out⟩
end Go.Proofs.YtjnjcjildiadgaaDoor.Wl
