/- NotesLast: the walk. -/
import Derived.Test.YtopacbmdoognjaaNotesOpen2
import Derived.Test.YtopacbmdoognjaaNotesNumbers
import Derived.Deep.AppendLies
namespace Go.Proofs.Ytopacbmdoognjaa.Not
open Go Go.RowKit Frame
theorem Nts.grown {A : Option Addr} {l : List Nt} {w w' : World} {row : Option Nat} (h : Nts A l w) (hg : w.grownBy w' row) (hne : ∀ a, A = some a → some a.block ≠ row) : Nts A l w' := fun h0 => by
  obtain ⟨g, off, hA, hlt, hi⟩ := h h0
  have hb := hne _ hA
  refine ⟨g, off, hA, Nat.lt_of_lt_of_le hlt hg.size, fun j hj => ?_⟩
  obtain ⟨c0, c1, c2⟩ := hi j hj
  exact ⟨hg.cell c0 hb, hg.cell c1 hb, hg.cell c2 hb⟩
theorem NS.grown {v : Value} {l : List Nt} {w w' : World} {row : Option Nat} (h : NS v l w) (hg : w.grownBy w' row) (hne : ∀ g, v.ownBlock = some g → some g ≠ row) : NS v l w' := by
  obtain ⟨A, c, rfl, hA, hn⟩ := h
  exact ⟨A, c, rfl, hA, hn.grown hg (fun a ha => hne _ (by subst ha; rfl))⟩
theorem own_below {w w' : World} {B e size n : Nat} {v : Value} {xs : List Value} (h : w.ownsRow B e size v n xs) (hb : Below w.heap.size w w') : w'.ownsRow B e size v n xs := by
  obtain ⟨hlen, hv⟩ := h
  refine ⟨hlen, ?_⟩
  rcases hv with hv | ⟨g, cap, cur, rfl, hb', hg, hr⟩
  · exact .inl hv
  · exact .inr ⟨g, cap, cur, rfl, hb', (hb.block g (Has.lt (cs := cur) hg)).trans hg, hr⟩
/-- What holds ahead of a round: n (its block N), what it keeps, all that was taken. -/
structure LastI (W : World) (N B : Nat) (A : Option Addr) (L : List Nt) (k : Nat) (v all : Value) (w : World) : Prop where
  below : Below W.heap.size W w
  size : B ≤ w.heap.size
  n : Has N #[.int .u64 ((acc (L.take k)).length : Int), v] 74 w
  ns : NS v (kept (acc (L.take k))) w
  apart : v.ownBlock ≠ some N
  src : Nts A L w
  own : w.ownsRow B 76 3 all (acc (L.take k)).length (css (acc (L.take k)))
  apart2 : ∀ g, v.ownBlock = some g → ∀ h, all.ownBlock = some h → g ≠ h
theorem LastI.below' {W w w' : World} {N B k : Nat} {A : Option Addr} {L : List Nt} {v all : Value} (h : LastI W N B A L k v all w) (hb : Below w.heap.size w w') : LastI W N B A L k v all w' :=
  ⟨bthen h.below hb, Nat.le_trans h.size hb.size, h.n.below hb, h.ns.below hb, h.apart, h.src.below hb, own_below h.own hb, h.apart2⟩
theorem LastI.alloc {W w : World} {N B k : Nat} {A : Option Addr} {L : List Nt} {v all : Value} (h : LastI W N B A L k v all w) (o : Obj) : LastI W N B A L k v all (w.alloc o) := h.below' ((Below.refl _ _).alloc (Nat.le_refl _) o)
/-- Behind the round's stores. -/
theorem LastI.step {W w8 : World} {N B k : Nat} {A : Option Addr} {L : List Nt} {v v1 all2 : Value} (hW : W.heap.size ≤ N)
    (b8 : Below W.heap.size W w8) (n8 : Has N #[.int .u64 ((acc (L.take k)).length : Int), v] 74 w8) (S8 : NS v1 (kept (acc (L.take (k + 1)))) w8) (hap : v1.ownBlock ≠ some N) (src8 : Nts A L w8)
    (ho : w8.ownsRow B 76 3 all2 (acc (L.take (k + 1))).length (css (acc (L.take (k + 1)))))
    (hN : N < B) (hs : B ≤ w8.heap.size) (hd : ∀ g, v1.ownBlock = some g → ∀ h, all2.ownBlock = some h → g ≠ h) (hA : ∀ a, A = some a → a.block ≠ N) (x y : Value)
    (hcs : (#[.int .u64 ((acc (L.take k)).length : Int), v].setIfInBounds 0 x).setIfInBounds 1 y = #[.int .u64 ((acc (L.take (k + 1))).length : Int), v1]) :
    LastI W N B A L (k + 1) v1 all2 ((w8.setCell ⟨N, 0, none⟩ x).setCell ⟨N, 1, none⟩ y) := by
  have hal : all2.ownBlock ≠ some N := fun e => by have := (ho.lt N e).1; omega
  refine ⟨?_, by simp [World.setCell]; omega, ?_, ?_, hap, ?_, ?_, hd⟩
  · exact (b8.setCell (p := ⟨N, 0, none⟩) hW x |>.setCell (p := ⟨N, 1, none⟩) hW y)
  · rw [← hcs]
    exact (n8.set (i := 0) x).set (i := 1) y
  · exact (S8.set hap x).set hap y
  · exact (src8.set hA x).set hA y
  · exact ownsRow_setCell_other (ownsRow_setCell_other ho (a := ⟨N, 0, none⟩) hal x) (a := ⟨N, 1, none⟩) hal y
set_option maxRecDepth 100000 in
set_option maxHeartbeats 2000000 in
theorem NotesLast_walk (A A' : Option Addr) (c c' : Nat) (l l' : List Nt) (w : World) (hA : Nts A l w) (hA' : Nts A' l' w) (hl : l.length ≤ maxLen) (hl' : l'.length ≤ maxLen) (hx : ∀ x ∈ l, x.Ok) (hx' : ∀ x ∈ l', x.Ok)
    (hn : A = none → l.length = 0 ∧ c = 0) (hn' : A' = none → l'.length = 0 ∧ c' = 0) :
    Calls Try.prog 11 #[.slice A l.length c, .slice A' l'.length c'] w fun e w' => e = .returned (.bool true) ∧ Below w.heap.size w w' := by
  obtain ⟨i0, hi0, hz0, hz1, hz2⟩ := info_parts infoN
  have HA := Lib.hid hA
  have HA' := Lib.hid hA'
  have HX := Lib.hid hx
  have HX' := Lib.hid hx'
  have HN := Lib.hid hn
  have HN' := Lib.hid hn'
  clear hA hx hA' hx' hn hn'
  go_enter Try.func11, Try.ntmps11
  go_wp2_with fail
  refine (Awake_calls _).mono ?_
  rintro e w1 ⟨rfl, b1⟩
  have A1 := Lib.hid (HA.out.below b1)
  have A1' := Lib.hid (HA'.out.below b1)
  have B1 := Lib.hid b1
  clear b1 HA HA'
  go_wp2_with fail
  refine (Light_calls A c l _ A1.out hl).mono ?_
  rintro e w2 ⟨rfl, b2⟩
  have A2 := Lib.hid (A1.out.below b2)
  have A2' := Lib.hid (A1'.out.below b2)
  have B2 := Lib.hid (bthen B1.out b2)
  clear b2 A1 B1 A1'
  rcases Bool.eq_false_or_eq_true (lightB l) with hL | hL
  · rw [hL]
    obtain ⟨h80, -⟩ := light_iff hL
    go_wp2_with fail
    refine (Light_calls A' c' l' _ A2'.out hl').mono ?_
    rintro e w3 ⟨rfl, b3⟩
    have A3 := Lib.hid (A2.out.below b3)
    have A3' := Lib.hid (A2'.out.below b3)
    have B3 := Lib.hid (bthen B2.out b3)
    clear b3 A2 B2 A2'
    rcases Bool.eq_false_or_eq_true (lightB l') with hL' | hL'
    · rw [hL']
      obtain ⟨h80', -⟩ := light_iff hL'
      have hB := Lib.hid (((Below.refl w3.heap.size w3).alloc (Nat.le_refl _) (.cells #[.int .u64 0, .slice none 0 0] 74)).alloc (by simp) (.cells #[] 76))
      have hH := Lib.hid ((Has.new w3 #[.int .u64 0, .slice none 0 0] 74).alloc (.cells #[] 76))
      have hO := World.ownsRow_made (base := w3.heap.size + 1) (e := 76) (size := 3) (w3.alloc (.cells #[.int .u64 0, .slice none 0 0] 74)) #[] 0 (by simp) (by unfold maxLen; omega) (by simp)
      rw [show (w3.alloc (.cells #[.int .u64 0, .slice none 0 0] 74)).heap.size = w3.heap.size + 1 by simp] at hO
      have hO := Lib.hid hO
      have A4 := Lib.hid (A3.out.below hB.out)
      go_wp2_with (first
        | (at_builtin; refine append_any _ rfl (.tmp 24) (.tmp 25) _ rfl (w3.heap.size + 1) 76 i0 _ 3 32 Try.underlying71 hi0 hz0 hz1 hz2 rfl (by omega) (.slice (some ⟨w3.heap.size + 1, 0, none⟩) 0 0) 0 [] rfl hO.out A l.length c (css l) rfl (css_length l) HN.out A4.out.cells (css_oneCell l) (by unfold maxLen; omega) (by omega) (by simp) ?_;
            intro v5 w5 hown5 hgrow5;
            have O5 := Lib.hid hown5;
            have B5 := Lib.hid (below_grown hB.out hgrow5 (by simp; omega) (fun g hg => by simp [Value.ownBlock] at hg; omega));
            have H5 := Lib.hid (has_grown hH.out hgrow5 (by simp [Value.ownBlock]));
            have A5' := Lib.hid (A3'.out.below B5.out);
            clear hown5 hgrow5)
        | (at_builtin; refine append_any _ rfl (.tmp 26) (.tmp 27) _ rfl (w3.heap.size + 1) 76 i0 _ 3 32 Try.underlying71 hi0 hz0 hz1 hz2 rfl (by omega) v5 (0 + l.length) ([] ++ css l) rfl O5.out A' l'.length c' (css l') rfl (css_length l') HN'.out A5'.out.cells (css_oneCell l') (by unfold maxLen; omega) (by omega) H5.out.lt ?_;
            intro v6 w6 hown6 hgrow6;
            have O6 := Lib.hid hown6;
            have B6 := Lib.hid (below_grown B5.out hgrow6 (Nat.le_of_lt H5.out.lt) (fun g hg => by have := (O5.out.lt g hg).1; omega));
            have H6 := Lib.hid (has_grown H5.out hgrow6 (fun hg => by have := (O5.out.lt _ hg.symm).1; omega));
            have L6 := Lib.hid (fun g hg => (O6.out.lt g hg).1);
            have N6 : NS v6 (l ++ l') w6 := NS.of_own (by have h := O6.out; rw [List.nil_append, ← css_append] at h; exact h);
            clear O6;
            obtain ⟨A6, c6, hv6, -, K6⟩ := N6;
            subst hv6;
            have K6 := Lib.hid K6;
            clear hown6 hgrow6))
      have HOK := Lib.hid (show ∀ x ∈ l ++ l', x.Ok from fun x hx => (List.mem_append.1 hx).elim (HX.out x) (HX'.out x))
      have hll : (l ++ l').length ≤ 160 := by rw [List.length_append]; omega
      clear O5 A5' hO HX HX' A4 hH hB A3' A3 H5 B5 HN HN'
      have hLL : (l ++ l').length = l.length + l'.length := List.length_append
      generalize l ++ l' = L at *
      have n0 := H6.out.cell 0
      have n1 := H6.out.cell 1
      have hlt6 := H6.out.lt
      go_wp2_with fail
      have HSB := Lib.hid (show ∀ a, A6 = some a → L.length = 0 ∨ a.block < w6.heap.size from fun a ha => by
        rcases Nat.eq_zero_or_pos L.length with h | h
        · exact .inl h
        · obtain ⟨b, off, hA, hb, _⟩ := K6.out h
          rw [hA] at ha
          cases ha
          exact .inr hb)
      go_loopw [6, 30] (fun all i wr => ∃ (k : Nat) (v : Value), k ≤ L.length ∧ i = .int .i64 k ∧ Hid (LastI w3 w3.heap.size w6.heap.size A6 L k v all wr)) (fun _ i _ => L.length - (intOf i).toNat)
      case atStart => exact ⟨0, .slice none 0 0, by omega, rfl, Lib.hid ⟨B6.out, Nat.le_refl _, H6.out, NS.nil _, by simp [Value.ownBlock], K6.out, World.ownsRow_nil _ _ _ _, by simp [Value.ownBlock]⟩⟩
      case round =>
        rename_i wr _ _
        obtain ⟨k, v, hk, rfl, hI⟩ := hrel
        clear n0 n1 K6 H6 B6
        have n0 := hI.out.n.cell 0
        have n1 := hI.out.n.cell 1
        have nf := hI.out.n.frozen
        have hltn := hI.out.n.lt
        by_cases hlt : k < L.length
        · obtain ⟨b, off, rfl, hbl, hi⟩ := hI.out.src (by omega)
          obtain ⟨c0, c1, c2⟩ := hi k hlt
          clear hi
          have HK := Lib.hid (take_succ_getD L k hlt)
          have HM := Lib.hid (getD_mem L k hlt)
          have HE := Lib.hid (addN_acc (L.take k) (L.getD k default) (by simp; omega))
          have HAS := Lib.hid (acc_snoc (L.take k) (L.getD k default))
          rw [← HK.out] at HE HAS
          have hle := Lib.hid (Nat.le_trans (acc_le (L.take k)) (by simp; omega : (L.take k).length ≤ 160))
          generalize L.getD k default = x at *
          have HC := Lib.hid (fun W h => Add_calls (acc (L.take k)).length (by have := hle.out; omega) (kept (acc (L.take k))) (kept_le _) v x (HOK.out x HM.out).2 W h)
          rw [HE.out] at HC
          simp only [NV] at HC
          have hX := Lib.hid (Has.new wr #[.int .u64 x.tick, .int .u8 x.kind.toNat, .string x.text] 76)
          have hb1 := Lib.hid ((Below.refl wr.heap.size wr).alloc (Nat.le_refl _) (.cells #[.int .u64 x.tick, .int .u8 x.kind.toNat, .string x.text] 76))
          go_wp2_with fail
          refine (HC.out _ (hI.out.ns.below hb1.out)).mono ?_
          rintro e w7 ⟨v1, rfl, h1, b1, o1⟩
          have b7 := Lib.hid (bthen hb1.out b1)
          have S7 := Lib.hid h1
          have X7 := Lib.hid (hX.out.below b1)
          have O7 := Lib.hid o1
          have N7 := Lib.hid (hI.out.n.below b7.out)
          obtain ⟨A7, c7, rfl, -, -⟩ := h1
          clear b1 o1 n0 n1 nf hX hb1
          have n0 := N7.out.cell 0
          have n1 := N7.out.cell 1
          have nf := N7.out.frozen
          have x0 := X7.out.cell 0
          have x1 := X7.out.cell 1
          have x2 := X7.out.cell 2
          have hlt7 := N7.out.lt
          have hltx := X7.out.lt
          by_cases hlong : 64 < x.text.size
          · simp only [if_pos hlong] at HAS ⊢
            go_wp2_with fail
            refine ⟨⟨k + 1, _, by omega, by go_num, Lib.hid (LastI.alloc (LastI.step (Nat.le_refl _) (bthen hI.out.below b7.out) N7.out S7.out (own_apart O7.out hI.out.apart (by simp; omega)) (hI.out.src.below b7.out) (by rw [HAS.out]; exact own_below hI.out.own b7.out) ?_ (Nat.le_trans hI.out.size b7.out.size) ?_ ?_ _ _ rfl) _)⟩, by simp [intOf]; omega⟩
            · exact hlt6
            · intro g hg h hh
              rcases O7.out with e | e
              · exact hI.out.apart2 g (by rw [← e]; exact hg) h hh
              · have h1 := e g hg
                have h2 := (hI.out.own.lt h hh).2
                simp at h1
                omega
            · intro a ha e
              have := L6.out a.block (by rw [ha]; rfl)
              omega
          · simp only [if_neg hlong] at HAS ⊢
            have hdc : decide ((x.text.size : Int) ≤ 64) = true := decide_eq_true (by omega)
            have hb9 := Lib.hid (fun o p => ((Below.refl w7.heap.size w7).alloc (Nat.le_refl _) o).alloc (by simp) p)
            have hO7 := Lib.hid (own_below hI.out.own b7.out)
            have hx9 := Lib.hid (fun o => Nts.one (q := w7.heap.size + 1) (x := x) (t := 76) (w := (w7.alloc o).alloc (.cells #[.int .u64 x.tick, .int .u8 x.kind.toNat, .string x.text] 76)) (by have := Has.new (w7.alloc o) #[.int .u64 x.tick, .int .u8 x.kind.toNat, .string x.text] 76; rw [show (w7.alloc o).heap.size = w7.heap.size + 1 by simp] at this; exact this))
            go_wp2_with
             (at_builtin; refine wpList_append_lies _ rfl (.tmp 49) (.tmp 51) _ rfl w6.heap.size 76 i0 _ 3 32 Try.underlying71 hi0 hz0 hz1 hz2 rfl (by omega) u6 (acc (L.take k)).length (css (acc (L.take k))) rfl (own_below hO7.out (hb9.out _ _)) ⟨w7.heap.size + 1, 0, none⟩ 1 1 (css [x]) rfl (css_length [x]) ((hx9.out _).cells _ rfl) (css_oneCell [x]) (by omega) (by have := hle.out; unfold maxLen; omega) (by have := hle.out; omega) (by have := hI.out.size; have := b7.out.size; simp; omega) (w7.heap.size + 1 + 1) (by simp) ?_; intro g9 cap9 w9 hown9 hgrow9 hat9 hlt9; have AT9 := Lib.hid hat9; clear hat9; have O9 := Lib.hid hown9; have G9 := Lib.hid hgrow9;
              have M9 := Lib.hid (has_grown ((Has.new w7 #[.int .u64 ((acc (L.take (k + 1))).length : Int), .slice A7 (kept (acc (L.take (k + 1)))).length c7] 74).alloc _) hgrow9 (fun e => by have := (hO7.out.lt _ e.symm).2; omega));
              have N9 := Lib.hid (has_grown ((N7.out.alloc _).alloc _) hgrow9 (fun e => by have := (hO7.out.lt _ e.symm).1; omega));
              clear n0 n1 nf;
              have n0 := N9.out.cell 0; have n1 := N9.out.cell 1; have nf := N9.out.frozen; have m0 := M9.out.cell 0; have m1 := M9.out.cell 1;
              clear hown9 hgrow9)
            refine ⟨⟨k + 1, _, by omega, by go_num, Lib.hid (LastI.step (Nat.le_refl _) ?_ N9.out ?_ (own_apart O7.out hI.out.apart (by simp; omega)) ?_ (by rw [HAS.out, css_append, List.length_append]; exact O9.out) hlt6 ?_ ?_ ?_ _ _ rfl)⟩, by simp [intOf]; omega⟩
            · exact below_grown ((bthen hI.out.below b7.out).trans ((hb9.out _ _).mono (by have := hI.out.below.size; have := b7.out.size; omega))) G9.out (by have := hI.out.below.size; have := b7.out.size; simp; omega) (fun g hg => by have := (hO7.out.lt g hg).1; omega)
            · refine (S7.out.below (hb9.out _ _)).grown G9.out (fun g hg e => ?_)
              have h1 := hO7.out.lt g e.symm
              have h2 := hI.out.own.lt g e.symm
              rcases O7.out with e1 | e1
              · exact hI.out.apart2 g (by rw [← e1]; exact hg) g e.symm rfl
              · have := e1 g hg
                simp at this
                omega
            · refine ((hI.out.src.below b7.out).below (hb9.out _ _)).grown G9.out (fun a ha e => ?_)
              have h1 := (hI.out.own.lt _ e.symm).1
              rcases HSB.out a ha with h | h
              · omega
              · omega
            · have := hI.out.size; have := b7.out.size; have := G9.out.size; simp at this; omega
            · intro g hg h hh
              simp only [Value.ownBlock, Option.some.injEq] at hh
              have hS := S7.out
              rcases AT9.out with e | e
              · subst hh
                have h2 := hI.out.own.lt _ e
                rcases O7.out with e1 | e1
                · exact hI.out.apart2 g (by rw [← e1]; exact hg) _ e
                · have := e1 g hg
                  simp at this
                  omega
              · have h3 : g < w7.heap.size := by
                  obtain ⟨A', c', hv', hA', hn'⟩ := hS
                  cases hv'
                  rcases Nat.eq_zero_or_pos (kept (acc (L.take (k + 1)))).length with h0 | h0
                  · have h5 := kept_length (acc (L.take (k + 1)))
                    have h6 : (acc (L.take (k + 1))).length = (acc (L.take k)).length + 1 := by rw [HAS.out]; simp
                    omega
                  · obtain ⟨b', off', hb', hlt', _⟩ := hn' h0
                    subst hb'
                    simp [Value.ownBlock] at hg
                    omega
                omega
            · intro a ha e
              have := L6.out a.block (by rw [ha]; rfl)
              omega
        · obtain rfl : k = L.length := by omega
          have H := Lib.hid hI.out.n
          have S := Lib.hid hI.out.ns
          have O := hI.out.own
          have BL := Lib.hid hI.out.below
          rw [List.take_length] at H S O n0 n1
          have K := Lib.hid (NS.of_own O)
          clear O hI HOK hk hlt HSB L6
          have hxs := acc_le L
          generalize acc L = xs at *
          have hkl := kept_length xs
          have hkl2 := kept_le' xs
          have HG := Lib.hid (kept_getD xs)
          have HAll := Lib.hid (fun W h => All_calls xs.length v (kept xs) (by omega) W h)
          have HTot := Lib.hid (fun W => Total_calls xs.length v W)
          have hmin : min (xs.length : Int) 32 = ((kept xs).length : Int) := by omega
          have hcv : IntKind.u64.wrap (xs.length : Int) = (xs.length : Int) := by rw [IntKind.wrap_u64]; omega
          obtain ⟨A8, c8, hall, -, -⟩ := K.out
          subst hall
          clear hkl hlt6
          go_wp2_with fail
          refine (HAll.out _ S.out).mono ?_
          rintro e w7 ⟨v9, rfl, h9, b7⟩
          have H7 := Lib.hid (H.out.below b7)
          have B7 := Lib.hid (bthen BL.out b7)
          have K7 := Lib.hid (K.out.below b7)
          have E7 := Lib.hid h9
          obtain ⟨A9, c9, rfl, -, -⟩ := h9
          clear b7 n0 n1 nf hltn H K BL S
          have n0 := H7.out.cell 0
          have n1 := H7.out.cell 1
          have hlt7 := H7.out.lt
          go_wp2_with fail
          refine (HTot.out _).mono ?_
          rintro e w8 ⟨rfl, b8⟩
          have B8 := Lib.hid (bthen B7.out b8)
          have K8 := Lib.hid (K7.out.below b8)
          have E8 := Lib.hid (E7.out.below b8)
          clear b8 n0 n1 hlt7 H7 B7 K7 E7 HAll HTot hmin
          go_wp2_with fail
          go_loopw [73] (fun i wr' => ∃ k : Nat, k ≤ (kept xs).length ∧ i = .int .i64 k ∧ Hid (Below w3.heap.size w3 wr') ∧ Hid (NS (.slice A8 xs.length c8) xs wr') ∧ Hid (NS (.slice A9 (kept xs).length c9) (kept xs) wr')) (fun i _ => (kept xs).length - (intOf i).toNat)
          case atStart => exact ⟨0, by omega, rfl, B8, K8, E8⟩
          case round =>
            obtain ⟨k, hk, rfl, hB, hK, hE⟩ := hrel
            clear B8 K8 E8
            by_cases hlt : k < (kept xs).length
            · obtain ⟨m, hm⟩ : ∃ m, xs.length = (kept xs).length + m := ⟨xs.length - (kept xs).length, by omega⟩
              obtain ⟨b, off, rfl, hb, c0, c1, c2⟩ := NS.at hE.out k hlt
              obtain ⟨b', off', rfl, hb', d0, d1, d2⟩ := NS.at hK.out (m + k) (by omega)
              have hg := HG.out k
              rw [show xs.length - (kept xs).length + k = m + k by omega] at hg
              rw [← hg] at d0 d1 d2
              have hB2 := Lib.hid (fun o => hB.out.alloc hB.out.size o)
              have hK2 := Lib.hid (fun o => hK.out.below ((Below.refl wr.heap.size wr).alloc (Nat.le_refl _) o))
              have hE2 := Lib.hid (fun o => hE.out.below ((Below.refl wr.heap.size wr).alloc (Nat.le_refl _) o))
              clear hg HG
              generalize (kept xs).getD k default = x at *
              have hi1 : (xs.length : Int) - ((kept xs).length : Int) = (m : Int) := by omega
              have hi2 : ((m : Int) + (k : Int)).toNat = m + k := by omega
              go_wp2_with fail
              go_region
              go_wp2_with fail
              exact ⟨⟨k + 1, by omega, by go_num, Lib.hid (hB2.out _).drew, Lib.hid (NS.drew (hK2.out _)), Lib.hid (NS.drew (hE2.out _))⟩, by simp [intOf]; omega⟩
            · obtain rfl : k = (kept xs).length := by omega
              go_wp2_with fail
              go_ret
              exact ⟨rfl, bthen B3.out hB.out⟩
    · rw [hL']
      go_wp2_with fail
      go_ret
      exact ⟨rfl, B3.out⟩
  · rw [hL]
    go_wp2_with fail
    go_ret
    exact ⟨rfl, B2.out⟩
end Go.Proofs.Ytopacbmdoognjaa.Not
