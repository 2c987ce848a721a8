/- Notes' bytes, plainly; the walk of stairwellref19.Bytes. -/
import Derived.Test.YtopacbmdoognjaaNotesRefB
import Derived.Test.YtopacbmdoognjaaOctRef
import Derived.Deep.RegionHeld3
namespace Go.Proofs.Ytopacbmdoognjaa.Not
open Go Go.RowKit Frame Oct
def ent (x : Nt) : List UInt8 := be 8 x.tick ++ (be 1 x.kind.toNat ++ txt x.text.data.toList)
def pre (tot n : Nat) (l : List Nt) : List UInt8 := be 8 tot ++ (be 1 n ++ l.flatMap ent)
theorem pre_snoc (tot n : Nat) (l : List Nt) (x : Nt) : pre tot n (l ++ [x]) = pre tot n l ++ ent x := by
  unfold pre
  rw [List.flatMap_append, List.append_assoc, List.append_assoc]
  simp
theorem pre_length (tot n : Nat) (l : List Nt) (h : ∀ x ∈ l, x.text.size ≤ 100) : (pre tot n l).length ≤ 9 + l.length * 111 := by
  unfold pre
  have : (l.flatMap ent).length ≤ l.length * 111 := by
    induction l with
    | nil => simp
    | cons x l ih =>
      have h1 := h x (by simp)
      have h2 := ih fun y hy => h y (by simp [hy])
      rw [List.flatMap_cons, List.length_append, List.length_cons, Nat.succ_mul]
      have : (ent x).length ≤ 111 := by
        unfold ent txt
        simp only [List.length_append, be_length]
        have h3 : x.text.data.toList.length = x.text.size := by simp
        omega
      omega
  rw [List.length_append, List.length_append, be_length, be_length]
  omega
theorem four2 {b : Nat} {a0 a1 a2 : Value} {t : TypeId} {w : World} (h : Has b #[a0, a1, a2] t w) : w.cell? ⟨b, 0, none⟩ = some a0 ∧ w.cell? ⟨b, 1, none⟩ = some a1 ∧ w.cell? ⟨b, 2, none⟩ = some a2 := ⟨h.cell 0, h.cell 1, h.cell 2⟩
theorem after_drew {w w2 : World} (h : Below w.drew.heap.size w.drew w2) : Below w.heap.size w w2 := ⟨h.os, h.tape, h.output, h.size, h.block⟩
set_option maxRecDepth 100000 in
set_option maxHeartbeats 1000000 in
theorem RBytes_calls (tot : Nat) (ht : tot < 18446744073709551616) (l : List Nt) (hl : l.length ≤ 100) (hx : ∀ x ∈ l, x.text.size ≤ 100 ∧ x.tick < 18446744073709551616) (v : Value) (w : World) (h : NS v l w) :
    Calls Try.prog 69 #[.agg #[.int .u64 (tot : Int), v]] w fun e w' => e = .returned (.string (bs (pre tot l.length l))) ∧ Below w.heap.size w w' := by
  obtain ⟨A, c, rfl, hA, hN⟩ := h
  have hb0 := (Below.refl w.heap.size w).alloc (by simp) (.cells #[.int .u64 (tot : Int), .slice A l.length c] 87)
  have H0 := Lib.hid (Has.new w #[.int .u64 (tot : Int), .slice A l.length c] 87)
  have B0 := Lib.hid hb0
  have N0 := Lib.hid (hN.below hb0)
  have HX := Lib.hid hx
  have HN1 := Lib.hid (fun W => RefNum_any tot 8 W ht)
  have HN2 := Lib.hid (fun W => RefNum_any l.length 1 W (by omega))
  rw [show be (wid 8) tot = be 8 tot from rfl] at HN1
  rw [show be (wid 1) l.length = be 1 l.length from rfl] at HN2
  have hz1 : (bs (be 8 tot)).size = 8 := by rw [bs_size, be_length]
  have hz2 : (bs (be 1 l.length)).size = 1 := by rw [bs_size, be_length]
  have hap : bs (be 8 tot) ++ bs (be 1 l.length) = bs (pre tot l.length []) := by rw [bs_append]; simp [pre]
  have g1 : IntKind.u64.wrap (l.length : Int) = (l.length : Int) := IntWalk.u64_in _ (by omega)
  have hcc : ¬ (9223372036854775807 < 8 + 1) := by decide
  clear hb0 hN hx
  go_enter Try.func69, Try.ntmps69
  go_wp2_with fail
  generalize w.alloc (.cells #[.int .u64 (tot : Int), .slice A l.length c] 87) = w0 at *
  have y0 : w0.drew.cell? ⟨w.heap.size, 0, none⟩ = some (.int .u64 (tot : Int)) := H0.out.cell 0
  have y1 : w0.drew.cell? ⟨w.heap.size, 1, none⟩ = some (.slice A l.length c) := H0.out.cell 1
  go_region_held3 (fun w' => (w'.cell? ⟨w.heap.size, 0, none⟩ = some (.int .u64 (tot : Int)) ∧ w'.cell? ⟨w.heap.size, 1, none⟩ = some (.slice A l.length c)) ∧ Below w0.heap.size w0 w')
    ((refine ⟨two2' (t := 87) ?_, ?_⟩ <;> repeat (first | (with_reducible exact H0.out) | (with_reducible exact Below.refl _ _) | (with_reducible refine Has.drew ?_) | (with_reducible refine Has.below ?_ (by with_reducible assumption)) | (with_reducible refine Below.drew ?_) | (with_reducible refine bthen ?_ (by with_reducible assumption)))))
    (first
      | (go_at_call 18; with_reducible refine Calls.mono (HN1.out _) ?_; rintro e w1 ⟨rfl, b1⟩)
      | (go_at_call 18; with_reducible refine Calls.mono (HN2.out _) ?_; rintro e w1 ⟨rfl, b1⟩))
  have hS := ‹(_ ∧ _) ∧ Below w0.heap.size w0 _›
  obtain ⟨⟨z0, z1⟩, hB⟩ := hS
  have HB := Lib.hid hB
  have hsB := hB.size
  have hl0 := H0.out.lt
  clear hB y0 y1 HN1 HN2 hap hcc hz1 hz2
  go_wp2_with fail
  go_loopw [3, 18] (fun s i wr => ∃ k : Nat, k ≤ l.length ∧ i = .int .i64 k ∧ s = .string (bs (pre tot l.length (l.take k))) ∧ Hid (Below w0.heap.size w0 wr)) (fun _ i _ => l.length - (intOf i).toNat)
  case atStart => exact ⟨0, by omega, rfl, rfl, HB⟩
  case round =>
    obtain ⟨k, hk, rfl, rfl, hW⟩ := hrel
    clear HB
    by_cases hlt : k < l.length
    · obtain ⟨b, off, rfl, hb, hi⟩ := (N0.out.below hW.out) (by omega)
      obtain ⟨c0, c1, c2⟩ := hi k hlt
      clear hi
      have HP := Lib.hid (pre_snoc tot l.length (l.take k) (l.getD k default))
      rw [← take_succ_getD l k hlt] at HP
      have hxx := HX.out _ (getD_mem l k hlt)
      have hPl := pre_length tot l.length (l.take k) (fun y hy => (HX.out y (List.mem_of_mem_take hy)).1)
      rw [List.length_take, Nat.min_eq_left hk] at hPl
      generalize l.getD k default = x at *
      generalize pre tot l.length (l.take k) = P at *
      obtain ⟨hx1, hx2⟩ := hxx
      have hkd := x.kind.toNat_lt
      have HM1 := Lib.hid (fun W => RefNum_any x.tick 8 W hx2)
      have HM2 := Lib.hid (fun W => RefNum_any x.kind.toNat 1 W (by omega))
      have HM3 := Lib.hid (fun W => RefText_calls x.text (by omega) W)
      rw [show be (wid 8) x.tick = be 8 x.tick from rfl] at HM1
      rw [show be (wid 1) x.kind.toNat = be 1 x.kind.toNat from rfl] at HM2
      have hu : IntKind.u64.wrap (x.kind.toNat : Int) = (x.kind.toNat : Int) := IntWalk.u64_in _ (by omega)
      have htl : (txt x.text.data.toList).length = 2 + x.text.size := by unfold txt; rw [List.length_append, be_length]; simp
      have HE := Lib.hid (show ent x = be 8 x.tick ++ (be 1 x.kind.toNat ++ txt x.text.data.toList) from rfl)
      have hn8 : (be 8 x.tick).length = 8 := be_length _ _
      have hn1 : (be 1 x.kind.toNat).length = 1 := be_length _ _
      generalize be 8 x.tick = n8 at *
      generalize be 1 x.kind.toNat = n1 at *
      generalize txt x.text.data.toList = tx at *
      obtain ⟨P1, hP1⟩ : ∃ P1, P1 = P ++ n8 := ⟨_, rfl⟩
      obtain ⟨P2, hP2⟩ : ∃ P2, P2 = P1 ++ n1 := ⟨_, rfl⟩
      have e1 : bs P ++ bs n8 = bs P1 := by rw [hP1]; exact bs_append _ _
      have e2 : bs P1 ++ bs n1 = bs P2 := by rw [hP2]; exact bs_append _ _
      have e3 : bs P2 ++ bs tx = bs (pre tot l.length (l.take (k + 1))) := by rw [HP.out, HE.out, bs_append, hP2, hP1]; simp
      have z1' : (bs P).size = P.length := bs_size _
      have z2' : (bs P1).size = P1.length := bs_size _
      have z3' : (bs P2).size = P2.length := bs_size _
      have z4' : (bs n8).size = 8 := by rw [bs_size, hn8]
      have z5' : (bs n1).size = 1 := by rw [bs_size, hn1]
      have z6' : (bs tx).size = 2 + x.text.size := by rw [bs_size, htl]
      have l1 : P1.length = P.length + 8 := by rw [hP1, List.length_append, hn8]
      have l2 : P2.length = P1.length + 1 := by rw [hP2, List.length_append, hn1]
      have f1 : ¬ (9223372036854775807 < P.length + 8) := by omega
      have f2 : ¬ (9223372036854775807 < P1.length + 1) := by omega
      have f3 : ¬ (9223372036854775807 < P2.length + (2 + x.text.size)) := by omega
      have Hx := Lib.hid (Has.new wr #[.int .u64 x.tick, .int .u8 x.kind.toNat, .string x.text] 93)
      have hW2 := Lib.hid (hW.out.alloc hW.out.size (.cells #[.int .u64 x.tick, .int .u8 x.kind.toNat, .string x.text] 93))
      clear hP1 hP2 l1 l2
      go_wp2_with fail
      generalize wr.alloc (.cells #[.int .u64 x.tick, .int .u8 x.kind.toNat, .string x.text] 93) = w3 at *
      generalize wr.heap.size = G at *
      have y0 : w3.drew.cell? ⟨G, 0, none⟩ = some (.int .u64 x.tick) := Hx.out.cell 0
      have y1 : w3.drew.cell? ⟨G, 1, none⟩ = some (.int .u8 x.kind.toNat) := Hx.out.cell 1
      have y2 : w3.drew.cell? ⟨G, 2, none⟩ = some (.string x.text) := Hx.out.cell 2
      go_region_held3 (fun w' => (w'.cell? ⟨G, 0, none⟩ = some (.int .u64 x.tick) ∧ w'.cell? ⟨G, 1, none⟩ = some (.int .u8 x.kind.toNat) ∧ w'.cell? ⟨G, 2, none⟩ = some (.string x.text)) ∧ Below w3.heap.size w3 w')
        ((refine ⟨four2 (t := 93) ?_, ?_⟩ <;> repeat (first | (with_reducible exact Hx.out) | (with_reducible exact Below.refl _ _) | (with_reducible refine Has.drew ?_) | (with_reducible refine Has.below ?_ (by with_reducible assumption)) | (with_reducible refine Below.drew ?_) | (with_reducible refine bthen ?_ (by with_reducible assumption)))))
        (first
          | (go_at_call 18; with_reducible refine Calls.mono (HM1.out _) ?_; rintro e w1 ⟨rfl, b1⟩)
          | (go_at_call 18; with_reducible refine Calls.mono (HM2.out _) ?_; rintro e w1 ⟨rfl, b1⟩)
          | (go_at_call 19; with_reducible refine Calls.mono (HM3.out _) ?_; rintro e w1 ⟨rfl, b1⟩))
      all_goals
        have hS := ‹(_ ∧ _) ∧ Below w3.heap.size w3 _›
        obtain ⟨-, hB⟩ := hS
        have HB := Lib.hid (bthen hW2.out hB)
        clear hB y0 y1 y2
        go_wp2_with fail
        exact ⟨⟨k + 1, by omega, by go_num, rfl, HB⟩, by simp [intOf]; omega⟩
    · obtain rfl : k = l.length := by omega
      rw [List.take_length]
      go_wp2_with fail
      go_ret
      exact ⟨rfl, bthen B0.out hW.out⟩
end Go.Proofs.Ytopacbmdoognjaa.Not
