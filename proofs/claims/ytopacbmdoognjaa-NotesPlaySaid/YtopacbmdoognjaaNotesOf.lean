/- The walk of stairwelllaw19.Of. -/
import Derived.Test.YtopacbmdoognjaaNotesEq
namespace Go.Proofs.Ytopacbmdoognjaa.Not
open Go Go.RowKit Frame
theorem infoM : (Try.prog.info? 93).map (fun i => (i.zero, i.size, i.bytes)) = some (some (.agg #[.int .u64 0, .int .u8 0, .string ⟨#[]⟩]), 3, 32) := by kernel_rfl
theorem own_below {w w' : World} {B e size n : Nat} {v : Value} {xs : List Value} (h : w.ownsRow B e size v n xs) (hb : Below w.heap.size w w') : w'.ownsRow B e size v n xs := by
  obtain ⟨hlen, hv⟩ := h
  refine ⟨hlen, ?_⟩
  rcases hv with hv | ⟨g, cap, cur, rfl, hb', hg, hr⟩
  · exact .inl hv
  · exact .inr ⟨g, cap, cur, rfl, hb', (hb.block g (Has.lt (cs := cur) hg)).trans hg, hr⟩
theorem own_form {w : World} {B e size n : Nat} {v : Value} {xs : List Value} (h : w.ownsRow B e size v n xs) : ∃ A m c, v = .slice A m c := by
  rcases h.2 with ⟨hv, _⟩ | ⟨g, cap, cur, hv, _⟩
  · exact ⟨_, _, _, hv⟩
  · exact ⟨_, _, _, hv⟩
theorem two2' {b : Nat} {a0 a1 : Value} {t : TypeId} {w : World} (h : Has b #[a0, a1] t w) : w.cell? ⟨b, 0, none⟩ = some a0 ∧ w.cell? ⟨b, 1, none⟩ = some a1 := ⟨h.cell 0, h.cell 1⟩
theorem setOne1 {p : Nat} {x y : Value} {t : TypeId} {w : World} (h : Has p #[x, y] t w) (b : Value) : Has p #[x, b] t (w.setCell ⟨p, 1, none⟩ b) := by
  have := h.set (i := 1) b
  simpa using this
theorem setTwo {p : Nat} {x y : Value} {t : TypeId} {w : World} (h : Has p #[x, y] t w) (a b : Value) : Has p #[a, b] t ((w.setCell ⟨p, 0, none⟩ a).setCell ⟨p, 1, none⟩ b) := by
  have := (h.set (i := 0) a).set (i := 1) b
  simpa using this
set_option maxRecDepth 100000 in
set_option maxHeartbeats 1000000 in
theorem Clone_new (v : Value) (l : List Nt) (hl : l.length ≤ 1000) (w : World) (h : NS v l w) :
    Calls Try.prog 86 #[v] w fun e w' => ∃ v', e = .returned v' ∧ NS v' l w' ∧ Below w.heap.size w w' ∧ ∀ g, v'.ownBlock = some g → w.heap.size ≤ g := by
  obtain ⟨i0, hi0, hz0, hz1, hz2⟩ := info_parts infoN
  obtain ⟨A, c, rfl, hA, hN⟩ := h
  have hcm := fun W => Lib.run_eql_slice_nil (P := Try.prog) W 71 76 A l.length c 0 0 Try.underlying71
  cases A with
  | none =>
    obtain ⟨h0, rfl⟩ := hA rfl
    obtain rfl := List.length_eq_zero_iff.1 h0
    replace hcm := fun W => (hcm W).trans (show _ = .ok (.bool true) W from rfl)
    simp only [List.length_nil] at hcm ⊢
    go_enter Try.func86, Try.ntmps86
    go_wp2
    go_ret
    exact ⟨_, rfl, NS.nil _, Below.refl _ _, fun g h => by simp [Value.ownBlock] at h⟩
  | some ad =>
    replace hcm := fun W => (hcm W).trans (show _ = .ok (.bool false) W from rfl)
    have hN1 := Lib.hid (hN.below ((Below.refl w.heap.size w).alloc (Nat.le_refl _) (.cells #[] 76)))
    have hB1 := Lib.hid ((Below.refl w.heap.size w).alloc (Nat.le_refl _) (.cells #[] 76))
    have hO1 := Lib.hid (World.ownsRow_made (base := w.heap.size) (e := 76) (size := 3) w #[] 0 (Nat.le_refl _) (by unfold maxLen; omega) (by simp))
    go_enter Try.func86, Try.ntmps86
    go_wp2_with (at_builtin; refine wpList_append_own _ rfl _ _ _ rfl w.heap.size 76 i0 _ 3 32 Try.underlying71 hi0 hz0 hz1 hz2 rfl (by omega) (.slice (some ⟨w.heap.size, 0, none⟩) 0 0) 0 [] rfl hO1.out ad l.length c (css l) rfl (css_length l) (fun j u hu => hN1.out.cells ad rfl j u hu) (css_oneCell l) (by unfold maxLen; omega) (by omega) (by simp) ?_; intro v3 w3 hown3 hgrow3 hnil3; have O3 := Lib.hid hown3; have B3 := Lib.hid (below_grown hB1.out hgrow3 (by simp) (fun g hg => by simp [Value.ownBlock] at hg; omega)); have N3 := Lib.hid hnil3; clear hown3 hgrow3 hnil3)
    go_ret
    refine ⟨v3, rfl, ?_, B3.out, fun g h => (O3.out.lt g h).1⟩
    have h3 := O3.out
    rw [Nat.zero_add, List.nil_append] at h3
    exact NS.of_own h3
theorem All_new (tot : Nat) (v : Value) (l : List Nt) (hl : l.length ≤ 1000) (w : World) (h : NS v l w) :
    Calls Try.prog 58 #[.agg #[.int .u64 (tot : Int), v]] w fun e w' => ∃ v', e = .returned v' ∧ NS v' l w' ∧ Below w.heap.size w w' ∧ ∀ g, v'.ownBlock = some g → w.heap.size ≤ g := by
  have hb := (Below.refl w.heap.size w).alloc (Nat.le_refl _) (.cells #[.int .u64 (tot : Int), v] 74)
  have HC := Lib.hid (Clone_new v l hl _ (h.below hb))
  have HB := Lib.hid hb
  clear h hb
  go_enter Try.func58, Try.ntmps58
  go_wp2_with fail
  refine HC.out.mono ?_
  rintro e w1 ⟨v1, rfl, h1, b1, n1⟩
  have F := Lib.hid (And.intro h1 (And.intro (bthen HB.out b1) (fun g h => Nat.le_trans (by simp) (n1 g h) : ∀ g, v1.ownBlock = some g → w.heap.size ≤ g)))
  clear h1 b1 n1
  go_wp2_with fail
  go_ret
  exact ⟨v1, rfl, F.out.1, F.out.2.1, F.out.2.2⟩
structure OfI (W : World) (tot : Nat) (l : List Nt) (p B : Nat) (sv : Value) (k : Nat) (out : Value) (w : World) : Prop where
  below : Below W.heap.size W w
  res : Has (W.heap.size + 1) #[.int .u64 0, .slice none 0 0] 87 w
  h : Has p #[.int .u64 (tot : Int), out] 87 w
  size : p < B ∧ B ≤ w.heap.size
  own : w.ownsRow B 93 3 out k (css (l.take k))
  src : NS sv l w
  apart : sv.ownBlock ≠ some p
  low : 0 < l.length → ∀ g, sv.ownBlock = some g → g < B
theorem OfI.below' {W w w' : World} {tot p B k : Nat} {l : List Nt} {sv out : Value} (h : OfI W tot l p B sv k out w) (hb : Below w.heap.size w w') : OfI W tot l p B sv k out w' :=
  ⟨bthen h.below hb, h.res.below hb, h.h.below hb, ⟨h.size.1, Nat.le_trans h.size.2 hb.size⟩, own_below h.own hb, h.src.below hb, h.apart, h.low⟩
theorem NS.grown' {v : Value} {l : List Nt} {w w' : World} {row : Option Nat} (h : NS v l w) (hg : w.grownBy w' row) (hne : 0 < l.length → ∀ g, v.ownBlock = some g → some g ≠ row) : NS v l w' := by
  obtain ⟨A, c, rfl, hA, hn⟩ := h
  refine ⟨A, c, rfl, hA, fun h0 => ?_⟩
  obtain ⟨g, off, rfl, hlt, hi⟩ := hn h0
  have hb := hne h0 g rfl
  refine ⟨g, off, rfl, Nat.lt_of_lt_of_le hlt hg.size, fun j hj => ?_⟩
  obtain ⟨c0, c1, c2⟩ := hi j hj
  exact ⟨hg.cell c0 hb, hg.cell c1 hb, hg.cell c2 hb⟩
set_option maxRecDepth 100000 in
set_option maxHeartbeats 1000000 in
theorem Of_calls (tot : Nat) (l : List Nt) (hl : l.length ≤ 100) (v : Value) (w : World) (h : NS v l w) :
    Calls Try.prog 64 #[.agg #[.int .u64 (tot : Int), v]] w fun e w' => ∃ v', e = .returned (.agg #[.int .u64 (tot : Int), v']) ∧ NS v' l w' ∧ Below w.heap.size w w' ∧ ∀ g, v'.ownBlock = some g → w.heap.size ≤ g := by
  obtain ⟨i0, hi0, hz0, hz1, hz2⟩ := info_parts infoM
  have hb0 := (((Below.refl w.heap.size w).alloc (by simp) (.cells #[.int .u64 (tot : Int), v] 74)).alloc (by simp) (.cells #[.int .u64 0, .slice none 0 0] 87))
  have H0 := Lib.hid ((Has.new w #[.int .u64 (tot : Int), v] 74).alloc (.cells #[.int .u64 0, .slice none 0 0] 87))
  have H1 := Has.new (w.alloc (.cells #[.int .u64 (tot : Int), v] 74)) #[.int .u64 0, .slice none 0 0] 87
  rw [show (w.alloc (.cells #[.int .u64 (tot : Int), v] 74)).heap.size = w.heap.size + 1 by simp] at H1
  have H1 := Lib.hid H1
  have B0 := Lib.hid hb0
  have N0 := Lib.hid (h.below hb0)
  have HT := Lib.hid (fun W => Total_calls tot v W)
  have HAl := Lib.hid (fun W h => All_new tot v l (by omega) W h)
  clear h hb0
  go_enter Try.func64, Try.ntmps64
  go_wp2_with fail
  generalize (w.alloc (.cells #[.int .u64 (tot : Int), v] 74)).alloc (.cells #[.int .u64 0, .slice none 0 0] 87) = w0 at *
  refine (HT.out _).mono ?_
  rintro e w1 ⟨rfl, b1⟩
  have b2 := bthen b1 ((Below.refl w1.heap.size w1).alloc (Nat.le_refl _) (.cells #[.int .u64 (tot : Int), .slice none 0 0] 87))
  have H2 := Lib.hid (H0.out.below b2)
  have G2 := Lib.hid (H1.out.below b2)
  have B2 := Lib.hid (bthen B0.out b2)
  have N2 := Lib.hid (N0.out.below b2)
  have P2 := Lib.hid (Has.new w1 #[.int .u64 (tot : Int), .slice none 0 0] 87)
  have hw1 := H1.out.lt
  have hb1s := b1.size
  have h0c := H2.out.cell 0
  have h1c := H2.out.cell 1
  have h2l := H2.out.lt
  clear b1 b2 H0 H1 B0 N0
  go_wp2_with fail
  generalize w1.alloc (.cells #[.int .u64 (tot : Int), .slice none 0 0] 87) = w2 at *
  obtain ⟨p, hp⟩ : ∃ p, p = w1.heap.size := ⟨_, rfl⟩
  rw [← hp] at P2 ⊢
  have hpw : w.heap.size + 1 < p := by omega
  clear hp hb1s hw1
  have hpl := P2.out.lt
  refine (HAl.out _ N2.out).mono ?_
  rintro e w3 ⟨v3, rfl, h3, b3, n3⟩
  have HI0 : Hid (OfI w tot l p w3.heap.size v3 0 (.slice none 0 0) w3) := Lib.hid ⟨bthen B2.out b3, G2.out.below b3, P2.out.below b3, ⟨(P2.out.below b3).lt, Nat.le_refl _⟩, World.ownsRow_nil _ _ _ _, h3, (fun e => by have := n3 p e; omega), (fun h0 g hg => by
    obtain ⟨A, c, rfl, -, hn⟩ := h3
    obtain ⟨g', off, rfl, hlt, -⟩ := hn h0
    simp [Value.ownBlock] at hg
    omega)⟩
  obtain ⟨A3, c3, rfl, hA3, -⟩ := h3
  clear n3 b3 h0c h1c B2 G2 P2 H2 N2 HT HAl hpl h2l
  go_wp2_with fail
  go_loopw [12] (fun i wr => ∃ (k : Nat) (out : Value), k ≤ l.length ∧ i = .int .i64 k ∧ Hid (OfI w tot l p w3.heap.size (.slice A3 l.length c3) k out wr)) (fun i _ => l.length - (intOf i).toNat)
  case atStart => exact ⟨0, _, by omega, rfl, HI0⟩
  case round =>
    obtain ⟨k, out, hk, rfl, hI⟩ := hrel
    clear HI0
    have p0 := hI.out.h.cell 0
    have p1 := hI.out.h.cell 1
    have pl := hI.out.h.lt
    by_cases hlt : k < l.length
    · obtain ⟨b, off, rfl, hb, c0, c1, c2⟩ := NS.at hI.out.src k hlt
      have HTS := Lib.hid (take_succ_getD l k hlt)
      generalize l.getD k default = x at *
      have hb1 := (Below.refl wr.heap.size wr).alloc (Nat.le_refl _) (.cells #[.int .u64 x.tick, .int .u8 x.kind.toNat, .string x.text] 76)
      have HI1 := Lib.hid (hI.out.below' hb1)
      have hb2 := hb1.alloc (by simp) (.cells #[.int .u64 x.tick, .int .u8 x.kind.toNat, .string x.text] 93)
      have HI2 := Lib.hid (hI.out.below' hb2)
      have HX := Has.new (wr.alloc (.cells #[.int .u64 x.tick, .int .u8 x.kind.toNat, .string x.text] 76)) #[.int .u64 x.tick, .int .u8 x.kind.toNat, .string x.text] 93
      rw [show (wr.alloc (.cells #[.int .u64 x.tick, .int .u8 x.kind.toNat, .string x.text] 76)).heap.size = wr.heap.size + 1 by simp] at HX
      have HX1 := Lib.hid (Nts.one HX)
      obtain ⟨A4, m4, c4, rfl⟩ := own_form hI.out.own
      have hlb := HI2.out.below.size
      clear hb1 hb2 HX
      have tok : True := trivial
      go_wp2_with (at_builtin; have _t := tok; refine wpList_append_own _ rfl _ _ 85 rfl w3.heap.size 93 i0 _ 3 32 Try.underlying85 hi0 hz0 hz1 hz2 rfl (by decide) _ k (css (l.take k)) rfl HI2.out.own ⟨wr.heap.size + 1, 0, none⟩ 1 1 (css [x]) rfl (css_length [x]) ?c1 ?c2 ?c3 ?c4 ?c5 ?_; clear _t tok)
      case c1 => exact HX1.out.cells _ rfl
      case c2 => exact css_oneCell [x]
      case c3 => unfold maxLen; omega
      case c4 => omega
      case c5 => exact HI2.out.size.2
      intro v' w5 hown' hgrow _
      obtain ⟨A5, m5, c5, rfl⟩ := own_form hown'
      have hrow : ∀ g, (Value.slice A4 m4 c4).ownBlock = some g → w3.heap.size ≤ g := fun g hg => (HI2.out.own.lt g hg).1
      have hpB := HI2.out.size.1
      have P5 := Lib.hid (has_grown HI2.out.h hgrow (fun e => by have := hrow _ e.symm; omega))
      have R5 := Lib.hid (has_grown HI2.out.res hgrow (fun e => by have := hrow _ e.symm; omega))
      have B5 := Lib.hid (below_grown HI2.out.below hgrow hlb (fun g hg => by have := hrow _ hg; omega))
      have O5 := Lib.hid hown'
      have N5 : Hid (NS (.slice (some ⟨b, off, none⟩) l.length c3) l w5) := Lib.hid (HI2.out.src.grown' hgrow (fun h0 g hg e => by have := HI2.out.low h0 g hg; have := hrow g e.symm; omega))
      have hB5 := hgrow.size
      clear hown' hgrow p0 p1
      have p0 := P5.out.cell 0
      have p1 := P5.out.cell 1
      have pf := P5.out.frozen
      have pl5 := P5.out.lt
      go_wp2_with fail
      refine ⟨⟨k + 1, _, by omega, by go_num, Lib.hid ⟨B5.out.setCell (p := ⟨p, 1, none⟩) (by dsimp only; omega) _, R5.out.set_other (by dsimp only; omega) _, setOne1 P5.out _, ⟨hpB, by have := HI2.out.size.2; simp [World.setCell]; omega⟩, ?_, N5.out.set hI.out.apart _, hI.out.apart, hI.out.low⟩⟩, by simp [intOf]; omega⟩
      rw [HTS.out, css_append]
      exact ownsRow_setCell_other O5.out (a := ⟨p, 1, none⟩) (fun e => by have := (O5.out.lt _ e).1; simp at this; omega) _
    · obtain rfl : k = l.length := by omega
      obtain ⟨A4, m4, c4, rfl⟩ := own_form hI.out.own
      have r0 := hI.out.res.cell 0
      have r1 := hI.out.res.cell 1
      have rf := hI.out.res.frozen
      have hpB := hI.out.size
      go_wp2_with fail
      refine bodyPost_ret (v := .agg #[.int .u64 (tot : Int), .slice A4 m4 c4]) (by simp [results, Try.results64, go_sem, r0, r1]) rfl ?_
      have hne : (Value.slice A4 m4 c4).ownBlock ≠ some (w.heap.size + 1) := fun e => by have := (hI.out.own.lt _ e).1; omega
      have hO := ownsRow_setCell_other (ownsRow_setCell_other hI.out.own (a := ⟨w.heap.size + 1, 0, none⟩) hne (.int .u64 (tot : Int))) (a := ⟨w.heap.size + 1, 1, none⟩) hne (.slice A4 m4 c4)
      rw [List.take_length] at hO
      refine ⟨_, rfl, NS.of_own hO, (hI.out.below.setCell (p := ⟨w.heap.size + 1, 0, none⟩) (by simp) _).setCell (p := ⟨w.heap.size + 1, 1, none⟩) (by simp) _, fun g hg => ?_⟩
      have := (hI.out.own.lt g hg).1
      omega
end Go.Proofs.Ytopacbmdoognjaa.Not
