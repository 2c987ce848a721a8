/- The walk of WalFalls. -/
import Derived.Test.YtjnjcjildiadgaaDoorWalC
import Derived.Test.YtjnjcjildiadgaaDoorFeedRows
import Derived.Deep.AppendLies
import Derived.Laws.AppendOwnNone
namespace Go.Proofs.YtjnjcjildiadgaaDoor.Wl
open Go Go.RowKit Frame Oct Disk
/-- An append of a source that may be nil, at a step of a region that draws its order. -/
theorem step_append_any {P : Program} (w : World) {ops : Array Oper} {o : Oper} {a : Act} {K : Act → World → Prop} {Q : Exit → Act → World → Prop} {E : Prop} (hgd : o.guard = none) (s x : Operand) (t : TypeId)
    (ho : o.op = .call { callee := .builtin .append, args := #[s, x], argTypes := #[t, t] })
    (base : Nat) (e : TypeId) (i : TypeInfo) (z : Value) (size bytes : Nat) (ht : P.underlying t = some (.slice e)) (hi : P.info? e = some i) (hz : i.zero = some z)
    (hsize : i.size = size) (hby : i.bytes = bytes) (hzs : z.cells.size = size) (hsz : 0 < size)
    (v : Value) (n : Nat) (xs : List Value) (hs : a.eval s = v) (hown : w.ownsRow base e size v n xs)
    (ao : Option Addr) (m c : Nat) (news : List Value) (hx : a.eval x = .slice ao m c) (hl : news.length = m * size) (hnone : ao = none → m = 0 ∧ c = 0) (hnews : ∀ ad, ao = some ad → ∀ j u, news[j]? = some u → w.cell? (ad.add j) = some u) (h1 : ∀ u ∈ news, u.oneCell' = true)
    (h63 : n + m ≤ maxLen) (hbytes : (n + m) * bytes ≤ 140737488355328) (hbase : base ≤ w.heap.size)
    (h : ∀ v' w', w'.ownsRow base e size v' (n + m) (xs ++ news) → w.grownBy w' v.ownBlock → K (a.put o.dst v') w') :
    if Region.wanted o (yielded ops a.tmps) = true then Oper.wp P o a w K Q else E := by
  have hw : Region.wanted o (yielded ops a.tmps) = true := by simp [Region.wanted, hgd]
  rw [if_pos hw]
  cases ao with
  | some ad => exact wp_append_own w s x t ho base e i z size bytes ht hi hz hsize hby hzs hsz v n xs hs hown ad m c news hx hl (hnews ad rfl) h1 h63 hbytes hbase (fun v' w' a b _ => h v' w' a b)
  | none =>
    obtain ⟨rfl, rfl⟩ := hnone rfl
    have hn : news = [] := List.eq_nil_of_length_eq_zero (by simpa using hl)
    subst hn
    have hrun := run_append_owned_none (P := P) (w := w) base t o.type e i size ht hi v n xs hown
    unfold Oper.wp
    simp [execOp, ho, resolve, invoke, builtin, hs, hx, hrun, Result.andThen]
    exact h v w (by simpa using hown) (World.grownBy.refl _ _)
/-- A box that holds an act. -/
def Box (b : Nat) (x : WAct) (w : World) : Prop := Has b (aCells x) 49 w
section
variable {b : Nat} {x : WAct} {w : World}
theorem Box.c0 (h : Box b x w) : w.cell? ⟨b, 0, none⟩ = some (.int .u8 x.kind.toNat) := Has.cell h 0
theorem Box.c1 (h : Box b x w) : w.cell? ⟨b, 1, none⟩ = some (.slice x.ad x.recs.length x.cap) := Has.cell h 1
theorem Box.c2 (h : Box b x w) : w.cell? ⟨b, 2, none⟩ = some (.int .i64 x.at_) := Has.cell h 2
theorem Box.c3 (h : Box b x w) : w.cell? ⟨b, 3, none⟩ = some (.int .i64 x.cut) := Has.cell h 3
end
theorem ST.ss {A : Option Addr} {n c : Nat} {l : List (List UInt8)} {w : World} (h : ST (.slice A n c) l w) : Sg.SS A l w := by
  obtain ⟨A', c', e, -, -, -, -, hs⟩ := h.sv
  injection e with e1
  subst e1
  exact hs
theorem used_le_len (a : List (List UInt8)) : a.length * 9 ≤ Sg.used a := Sg.used_len a
set_option maxRecDepth 100000 in
set_option maxHeartbeats 8000000 in
theorem WalFalls_walk (A : Option Addr) (c : Nat) (l : List WAct) (W : World) (hT : Crc.Tab W) (hA : Acts W.heap.size A l W) (hO : ∀ x ∈ l, x.Ok) (hl : l.length ≤ maxLen) :
    Calls Tryd.prog 5 #[.slice A l.length c] W fun e w' => e = .returned (.bool true) ∧ Below W.heap.size W w' := by
  have HTS := Lib.hid (Crc.Tab.size hT)
  have HT := Lib.hid hT
  have HA := Lib.hid hA
  have HO := Lib.hid hO
  have HLM := Lib.hid hl
  unfold maxLen at hl
  clear hT hA hO
  go_enter Tryd.func5, Tryd.ntmps5
  go_wp2_with fail
  refine (awake_calls W HT.out).mono ?_
  rintro e w1 ⟨rfl, b1⟩
  have B1 := Lib.hid b1
  clear b1
  go_wp2_with fail
  refine (Light_calls A c l _ (fun h0 => by
    obtain ⟨b, off, e1, e2, e3⟩ := HA.out.below B1.out h0
    exact ⟨b, off, e1, Nat.lt_of_lt_of_le e2 B1.out.size, fun i hi => ⟨(e3 i hi).1, (e3 i hi).2.1, fun b' off' q1 q2 => Nat.lt_of_lt_of_le ((e3 i hi).2.2 b' off' q1 q2) B1.out.size⟩⟩) HO.out HLM.out).mono ?_
  rintro e w2 ⟨rfl, b2⟩
  have B2 := Lib.hid (bthen B1.out b2)
  clear b2 B1
  have hli : lightB l = true → l.length ≤ 40 ∧ ∀ x ∈ l, Sg.lightB x.recs = true := light_iff
  have HLI := Lib.hid hli
  clear hli
  generalize lightB l = lb at *
  cases lb with
  | false =>
    go_wp2_with fail
    go_ret
    exact ⟨rfl, B2.out⟩
  | true =>
    obtain ⟨hl40, hlr⟩ := HLI.out rfl
    have HLR := Lib.hid hlr
    clear hlr
    go_wp2_with fail
    refine (New_one 20 (by decide) w2).mono ?_
    rintro e w3 ⟨rfl, h3, b3⟩
    have H3 := Lib.hid (One.base h3 B2.out.size)
    have B3 := Lib.hid (bthen B2.out b3)
    clear h3 b3
    generalize w2.heap.size + 1 = d at *
    generalize w2.heap.size = L at *
    go_wp2_with fail
    refine (Open_calls W.heap.size _ _ 20 (fresh 20) (Good.fresh 20 (by decide)) rfl rfl (by decide) W w3 HT.out HTS.out B3.out (Kept2.of_below B3.out) H3.out).mono ?_
    intro e w4 hop
    obtain ⟨A2, c2, rfl, hl4, b4⟩ := hop.fresh
    clear hop
    have HST := Lib.hid (show FI W.heap.size w3.heap.size d L (fresh 20) l0 [] [] [] 0 W w4 from ⟨⟨H3.out.below b4, hl4, bthen B3.out b4, B3.out.size⟩, LInv.fresh 20 (by decide) (by decide), fun _ => rfl, fun _ => by
        have := Live.fresh 10 (64 * 20)
        rw [show noughts (64 * 20) = (fresh 20).last from rfl, openL_fresh] at this
        exact this, (fun h => by cases h), Nat.zero_le _, Nat.le_refl _⟩)
    clear hl4 b4 H3 B3 B2
    generalize w3.heap.size = p0 at *
    obtain ⟨i0, hi0, hz0, hz1, hz2⟩ := info_parts Sg.infoS
    go_wp2_with fail
    go_loopw [4, 8, 9, 10, 11, 36] (fun pv im my va sf i wr => ∃ (k p : Nat) (s : DSt) (lg : LSt) (image may : List UInt8) (all : List (List UInt8)) (safe : Nat), k ≤ l.length ∧ pv = .pointer (some ⟨p, 0, none⟩) ∧ im = .string (bs image) ∧ my = .string (bs may) ∧ sf = .int .i64 (safe : Int) ∧ i = .int .i64 k ∧ Hid (FI W.heap.size p d L s lg image may all safe W wr) ∧ Hid (ST va all wr)) (fun _ _ _ _ _ i _ => l.length - (intOf i).toNat)
    case atStart => exact ⟨0, p0, fresh 20, l0, [], [], [], 0, by omega, rfl, rfl, rfl, rfl, rfl, HST, Lib.hid (ST.nil _)⟩
    case round =>
      obtain ⟨k, p, s, lg, image, may, all, safe, hk, rfl, rfl, rfl, rfl, rfl, hP, hV⟩ := hrel
      clear HST
      by_cases hlt : k < l.length
      · obtain ⟨b, off, rfl, hbl, hi⟩ := (HA.out.below hP.out.i.bel) (by omega)
        obtain ⟨⟨c0, c1, c2, c3⟩, hs, hsb⟩ := hi k hlt
        clear hi
        have HM := Lib.hid (getD_mem l k hlt)
        have hok := HO.out _ HM.out
        have hrl := Sg.light_iff (HLR.out _ HM.out)
        generalize hxx : l.getD k default = x at *
        have HXX := Lib.hid hxx
        clear hxx
        have hb4 := (Below.refl wr.heap.size wr).alloc (Nat.le_refl _) (.cells (aCells x) 49)
        have HBX := Lib.hid (show Box wr.heap.size x (wr.alloc (.cells (aCells x) 49)) from Has.new wr _ _)
        have HP4 := Lib.hid (hP.out.below hb4)
        have HV4 := Lib.hid (hV.out.below hb4)
        have HS4 := Lib.hid (hs.below hb4)
        have HSB := Lib.hid hsb
        have HRL := Lib.hid hrl
        have HOK := Lib.hid hok
        clear hs hsb hrl hok hb4 hP hV HM
        have hk6 : x.kind.toNat % 6 < 6 := Nat.mod_lt _ (by decide)
        unfold aCells at HP4 HV4 HS4 HBX
        have hc : x.kind.toNat % 6 = 2 ∨ x.kind.toNat % 6 = 3 ∨ x.kind.toNat % 6 = 4 ∨ x.kind.toNat % 6 = 5 ∨ x.kind.toNat % 6 < 2 := by omega
        have HSS := Lib.hid (show ∀ W', Below W.heap.size W W' → Sg.SS x.ad x.recs W' from fun W' hb => by
          obtain ⟨b', off', e1, -, e3⟩ := HA.out.below hb (by omega)
          injection e1 with e1
          injection e1 with e1 e2
          subst e1; subst e2
          have := (e3 k hlt).2.1
          rw [HXX.out] at this
          exact this)
        rcases hc with hc | hc | hc | hc | hc
        · -- Commit
          have hc' : (x.kind.toNat : Int) % 6 = 2 := by omega
          clear hc hk6
          go_wp2_with fail
          refine (Commit_calls W.heap.size p d L 20 s lg HP4.out.inv _ _ HP4.out.i.wd).mono ?_
          intro e w6 hap
          obtain ⟨y, s', l', rfl, k6, hor⟩ := HP4.out.commits hap
          have HV6 := Lib.hid (HV4.out.kept k6)
          clear hap k6
          rcases hor with ⟨rfl, h6⟩ | ⟨hy, h6⟩
          · obtain ⟨Av, cv, rfl, -⟩ := HV6.out
            have HF := Lib.hid h6
            clear h6
            go_wp2_with fail
            exact ⟨⟨k + 1, p, s', l', image, may, all, all.length, by omega, rfl, rfl, rfl, rfl, by go_num, HF, HV6⟩, by simp [intOf]; omega⟩
          · have hy' : (y == 0) = false := by simpa using hy
            have HF := Lib.hid h6
            clear h6 hy
            go_wp2_with fail
            exact ⟨⟨k + 1, p, s', l', image, may, all, safe, by omega, rfl, rfl, rfl, rfl, by go_num, HF, HV6⟩, by simp [intOf]; omega⟩
        · -- Begin
          have hc' : (x.kind.toNat : Int) % 6 = 3 := by omega
          clear hc hk6
          have HFI := Lib.hid (fun W' (k1 : Sg.SS x.ad x.recs W') => first_calls x W' k1 (by have := HOK.out.2.2.1; have := HOK.out.2.2.2.1; omega))
          unfold aCells at HFI
          go_wp2_with fail
          refine (HFI.out _ HS4.out).mono ?_
          rintro e w6 ⟨rfl, b6⟩
          have HP6 := Lib.hid (HP4.out.below b6)
          have HV6 := Lib.hid (HV4.out.below b6)
          have HB6 := Lib.hid (Has.below HBX.out b6)
          have HS6 := Lib.hid (HS4.out.below b6)
          clear b6 HP4 HV4 HBX HS4
          go_wp2_with fail
          refine (Begin_calls W.heap.size p d L 20 s lg HP6.out.inv (x.recs.getD 0 []) _ _ (HP6.out.i.tab HT.out HTS.out) HTS.out HP6.out.i.wd).mono ?_
          intro e w7 hap
          obtain ⟨y, s', l', rfl, k7, hor⟩ := HP6.out.begins _ hap
          have HV7 := Lib.hid (HV6.out.kept k7)
          have HB7 := Lib.hid (show Box wr.heap.size x w7 from k7 _ _ _ (by decide) (by decide) (by decide) (by decide) HB6.out)
          clear hap k7
          have k0 := HB7.out.c0
          have k1 := HB7.out.c1
          have k2 := HB7.out.c2
          have k3 := HB7.out.c3
          rcases hor with ⟨rfl, h7⟩ | ⟨rfl, h7⟩ | ⟨hy, hy2, h7⟩
          · have HF := Lib.hid h7
            clear h7
            go_wp2_with fail
            refine (HFI.out _ (HSS.out _ HF.out.i.bel)).mono ?_
            rintro e w8 ⟨rfl, b8⟩
            have HF8 := Lib.hid (HF.out.below b8)
            clear b8
            go_wp2_with fail
            exact ⟨⟨k + 1, p, s', l', _, may, [], 0, by omega, rfl, rfl, rfl, rfl, by go_num, HF8, Lib.hid (ST.nil _)⟩, by simp [intOf]; omega⟩
          · have HF := Lib.hid h7
            clear h7
            go_wp2_with fail
            refine (HFI.out _ (HSS.out _ HF.out.i.bel)).mono ?_
            rintro e w8 ⟨rfl, b8⟩
            have HF8 := Lib.hid (HF.out.below b8)
            have HV8 := Lib.hid (HV7.out.below b8)
            clear b8
            go_wp2_with fail
            exact ⟨⟨k + 1, p, s', l', image, _, all, safe, by omega, rfl, rfl, rfl, rfl, by go_num, HF8, HV8⟩, by simp [intOf]; omega⟩
          · have hy' : (y == 0) = false := by simpa using hy
            have hy2' : (y == 16) = false := by simpa using hy2
            have HF := Lib.hid h7
            clear h7 hy hy2
            go_wp2_with fail
            exact ⟨⟨k + 1, p, s', l', image, may, all, safe, by omega, rfl, rfl, rfl, rfl, by go_num, HF, HV7⟩, by simp [intOf]; omega⟩
        · -- Arm
          have hc' : (x.kind.toNat : Int) % 6 = 4 := by omega
          clear hc hk6
          go_wp2_with fail
          refine (HP4.out.i.one.calls fun v hd => (Arm_calls W.heap.size d L v s x.at_ x.cut _ hd).mono fun e w' hq => post_of_only hq.1 hq.2.1 hq.2.2).mono ?_
          rintro e w6 ⟨rfl, o6, b6, k6⟩
          have HF := Lib.hid (HP4.out.arms x.at_ x.cut HOK.out.1.2 HOK.out.2.1.2 o6 b6 k6)
          have HV6 := Lib.hid (HV4.out.kept (Kept2.of_kept k6))
          clear o6 b6 k6
          go_wp2_with fail
          exact ⟨⟨k + 1, p, _, lg, image, may, all, safe, by omega, rfl, rfl, rfl, rfl, by go_num, HF, HV6⟩, by simp [intOf]; omega⟩
        · -- the power goes and comes
          have hc' : (x.kind.toNat : Int) % 6 = 5 := by omega
          clear hc hk6
          go_wp2_with fail
          refine (HP4.out.i.one.calls fun v hd => Down_calls W.heap.size d L 20 v s x.cut HOK.out.2.1 HP4.out.inv.good _ hd).mono ?_
          rintro e w6 ⟨rfl, o6, b6, k6⟩
          have HO6 := Lib.hid o6
          have B6 := Lib.hid b6
          have HV6 := Lib.hid (HV4.out.kept (Kept2.of_kept k6))
          clear o6 b6 k6
          go_wp2_with fail
          refine (HO6.out.calls fun v hd => (Up_calls W.heap.size d L v (down s x.cut) _ hd).mono fun e w' hq => post_of_only hq.1 hq.2.1 hq.2.2).mono ?_
          rintro e w7 ⟨rfl, o7, b7, k7⟩
          have HO7 := Lib.hid (show One W.heap.size d L (anew s x.cut) w7 from o7)
          have B7 := Lib.hid (B6.out.trans b7)
          have BW7 := Lib.hid (HP4.out.i.bel.trans B7.out)
          have HV7 := Lib.hid (HV6.out.kept (Kept2.of_kept k7))
          clear o7 b7 k7 HO6 B6 HV6
          obtain ⟨g1, g2, g3, g4, g5⟩ := anew_out HP4.out.inv.good HP4.out.inv.wait x.cut
          have HOPN := Lib.hid (Open_calls W.heap.size d L 20 (anew s x.cut) g2 g3 g4 (by decide) w7 w7 (tab_bel HT.out HTS.out BW7.out) HTS.out (Below.refl _ _) (Kept2.refl _) HO7.out)
          clear g1 g2 g3 g4 g5
          have hle7 := One.base_le HO7.out
          go_wp2_with fail
          refine HOPN.out.mono ?_
          intro e w8 hop
          unfold OpenPost at hop
          rw [show (20 : Nat) / 2 = 10 from rfl] at hop
          obtain ⟨v8, rfl, hv8, hl8, b8⟩ := hop
          obtain ⟨htold, hf8⟩ := HP4.out.opens x.cut (HO7.out.below b8) (B7.out.trans (b8.mono hle7)) hle7 hl8
          have HF := Lib.hid hf8
          have HVR := Lib.hid (show ST v8 ((opened 10 (anew s x.cut).last).best.drop 1) w8 from hv8)
          have HV8 := Lib.hid (HV7.out.below b8)
          clear hv8 hl8 b8 hf8 HOPN
          generalize (opened 10 (anew s x.cut).last).best.drop 1 = recs at *
          generalize (opened 10 (anew s x.cut).last).best.getD 0 [] = img at *
          generalize anew s x.cut = s8 at *
          generalize openL 10 s8.last = lg8 at *
          generalize w7.heap.size = p8 at *
          have hsfl := HP4.out.sf
          clear HP4 HV4 HBX HS4 HV7 HO7 B7 BW7 hle7
          obtain ⟨Ar, cr, rfl, hrc, hrm, -, -, -⟩ := id HVR.out
          obtain ⟨Av, cv, rfl, hvc, hvm, hvn, hva, -⟩ := id HV8.out
          have hssr := HVR.out.ss
          have hssv := HV8.out.ss
          unfold maxLen at hrm hvm
          have hfin : Told img recs image may all safe → (img = image ∧ safe ≤ recs.length ∧ recs.length ≤ all.length ∧ recs = all.take recs.length) ∨ (may ≠ [] ∧ img = may ∧ recs = [] ∧ (img ≠ image ∨ (img = image ∧ 0 < safe))) := fun h => by
            by_cases hL : img = image ∧ safe ≤ recs.length ∧ recs.length ≤ all.length ∧ recs = all.take recs.length
            · exact .inl hL
            · rcases h with h | ⟨h1, h2, h3⟩
              · exact absurd h hL
              · refine .inr ⟨h1, h2, h3, ?_⟩
                by_cases hi : img = image
                · refine .inr ⟨hi, ?_⟩
                  rcases Nat.eq_zero_or_pos safe with h0 | h0
                  · exfalso
                    refine hL ⟨hi, by omega, by rw [h3]; exact Nat.zero_le _, by rw [h3]; rfl⟩
                  · exact h0
                · exact .inl hi
          rcases hfin htold with ⟨h1, h2, h3, h4⟩ | ⟨h1, h2, h3, h4⟩
          · subst h1
            have HSM := Lib.hid (Sg.Same_calls Ar Av cr cv recs recs (by unfold maxLen; omega) (by unfold maxLen; omega) w8 hssr (by have := hssv.take recs.length; rw [← h4] at this; exact this))
            rw [show decide (recs = recs) = true by simp] at HSM
            have hmin : min (recs.length : Int) (all.length : Int) = (recs.length : Int) := by omega
            have hge : (safe : Int) ≤ (recs.length : Int) := by omega
            have hle : (recs.length : Int) ≤ (all.length : Int) := by omega
            have hle2 : (recs.length : Int) ≤ (cv : Int) := by omega
            have hp0 : (0 : Int) ≤ (recs.length : Int) := by omega
            have h4' := Lib.hid h4
            have hm : (((bs may).toList == ([] : List UInt8)) = true) ∨ (((bs may).toList == ([] : List UInt8)) = false ∧ ((bs img).toList == (bs may).toList) = true) ∨ (((bs may).toList == ([] : List UInt8)) = false ∧ ((bs img).toList == (bs may).toList) = false) := by
              rcases Bool.eq_false_or_eq_true ((bs may).toList == ([] : List UInt8)) with q | q
              · exact .inl q
              · rcases Bool.eq_false_or_eq_true ((bs img).toList == (bs may).toList) with r | r
                · exact .inr (.inl ⟨q, r⟩)
                · exact .inr (.inr ⟨q, r⟩)
            clear h4 hssr hssv hfin htold
            have hvc2 : Av = none ∨ ∃ b' off', Av = some ⟨b', off', none⟩ := by
              cases Av with
              | none => exact .inl rfl
              | some a =>
                obtain ⟨b', off', e⟩ := hva a rfl
                exact .inr ⟨b', off', by rw [e]⟩
            rcases hvc2 with rfl | ⟨b', off', rfl⟩
            · obtain rfl : cv = 0 := hvn rfl
              obtain rfl : all = [] := List.length_eq_zero_iff.1 (by omega)
              obtain rfl : recs = [] := List.length_eq_zero_iff.1 (by simpa using h3)
              simp only [List.length_nil] at HSM hmin hge hle hle2 hp0 h2 h3 HF
              have hs0 : safe = 0 := by omega
              subst hs0
              clear h2 h3 hle hle2 hp0 hge hmin h4'
              rcases hm with hm1 | ⟨hm1, hm2⟩ | ⟨hm1, hm2⟩
              all_goals
                go_wp2_with fail
                refine HSM.out.mono ?_
                rintro e w9 ⟨rfl, b9⟩
                have HF9 := Lib.hid (HF.out.below b9)
                have HV9 := Lib.hid (HVR.out.below b9)
                clear b9
                go_wp2_with fail
                exact ⟨⟨k + 1, p8, s8, lg8, img, [], [], 0, by omega, rfl, rfl, rfl, rfl, by go_num, HF9, HV9⟩, by simp [intOf]; omega⟩
            · rcases hm with hm1 | ⟨hm1, hm2⟩ | ⟨hm1, hm2⟩
              all_goals
                go_wp2_with fail
                refine HSM.out.mono ?_
                rintro e w9 ⟨rfl, b9⟩
                have HF9 := Lib.hid (HF.out.below b9)
                have HV9 := Lib.hid (HVR.out.below b9)
                clear b9
                go_wp2_with fail
                exact ⟨⟨k + 1, p8, s8, lg8, img, [], recs, recs.length, by omega, rfl, rfl, rfl, rfl, by go_num, HF9, HV9⟩, by simp [intOf]; omega⟩
          · subst h3
            subst h2
            have hm1 := Sg.bs_ne_empty img (fun e => h1 (List.length_eq_zero_iff.1 e))
            simp only [List.length_nil] at HF
            clear hfin htold hssr hssv h1
            rcases h4 with h4 | ⟨rfl, h4⟩
            · have hq : ((bs img).toList == (bs image).toList) = false := by rw [Frm.bs_beq]; simpa using h4
              clear h4
              go_wp2_with fail
              exact ⟨⟨k + 1, p8, s8, lg8, img, [], [], 0, by omega, rfl, rfl, rfl, rfl, by go_num, HF, HVR⟩, by simp [intOf]; omega⟩
            · have hq : ¬ ((safe : Int) ≤ 0) := by omega
              have hq2 : ((safe : Int) == 0) = false := beq_eq_false_iff_ne.2 (by omega)
              go_wp2_with fail
              exact ⟨⟨k + 1, p8, s8, lg8, _, [], [], 0, by omega, rfl, rfl, rfl, rfl, by go_num, HF, HVR⟩, by simp [intOf]; omega⟩
        · -- Append
          have t2 : ((x.kind.toNat : Int) % 6 == 2) = false := beq_eq_false_iff_ne.2 (by omega)
          have t3 : ((x.kind.toNat : Int) % 6 == 3) = false := beq_eq_false_iff_ne.2 (by omega)
          have t4 : ((x.kind.toNat : Int) % 6 == 4) = false := beq_eq_false_iff_ne.2 (by omega)
          have t5 : ((x.kind.toNat : Int) % 6 == 5) = false := beq_eq_false_iff_ne.2 (by omega)
          have hr12 := HRL.out.1
          have hnx := HOK.out.2.2.2.2
          have hlx := HOK.out.2.2.1
          have HNX := Lib.hid (show x.ad = none → x.recs.length = 0 ∧ x.cap = 0 from fun h => ⟨by have := hnx h; omega, hnx h⟩)
          clear hc hk6 hnx hlx
          go_wp2_with fail
          refine (Append_calls W.heap.size p d L 20 s lg HP4.out.inv x.ad x.cap x.recs (by omega) _ _ (HP4.out.i.tab HT.out HTS.out) HTS.out HP4.out.i.wd HS4.out).mono ?_
          intro e w6 hap
          obtain ⟨y, l', rfl, k6, hor⟩ := HP4.out.appends _ hap
          have HV6 := Lib.hid (HV4.out.kept k6)
          have HB6 := Lib.hid (show Box wr.heap.size x w6 from k6 _ _ _ (by decide) (by decide) (by decide) (by decide) HBX.out)
          have hsm := HP4.out.small
          have hal := used_le_len all
          clear hap k6 HP4 HV4 HBX HS4
          rcases hor with ⟨rfl, h6⟩ | ⟨hy, h6⟩
          · have HF := Lib.hid h6
            clear h6
            obtain ⟨Av, cv, rfl, hvc, hvm, hvn, -, -⟩ := id HV6.out
            have HSV := Lib.hid HV6.out.ss
            have HNV := Lib.hid (show Av = none → all.length = 0 ∧ cv = 0 from fun h => ⟨by have := hvn h; omega, hvn h⟩)
            have HSX := Lib.hid (HSS.out _ HF.out.i.bel)
            have hb7 := ((Below.refl w6.heap.size w6).alloc (Nat.le_refl _) (.cells #[] 9)).drew
            have hO := World.ownsRow_made (base := w6.heap.size) (e := 9) (size := 1) w6 #[] 0 (by simp) (by unfold maxLen; omega) (by simp)
            have HO7 := Lib.hid (show ((w6.alloc (.cells #[] 9)).drew).ownsRow w6.heap.size 9 1 (.slice (some ⟨w6.heap.size, 0, none⟩) 0 0) 0 [] from hO)
            have HB7 := Lib.hid (Has.below HB6.out hb7)
            have BB7 := Lib.hid hb7
            have SV7 := Lib.hid (HSV.out.below hb7)
            have c1 := HB7.out.cell 1
            have hlt6 : wr.heap.size < w6.heap.size := HB6.out.lt
            have g1 : (aCells x)[1]? = some (.slice x.ad x.recs.length x.cap) := rfl
            rw [g1] at c1
            have k1 := HB6.out.c1
            clear hO hb7 g1 hvc hvm hvn
            go_wp2_with fail
            go_region_law (first
              | (refine step_append_any _ rfl (.tmp 48) (.tmp 49) 22 rfl w6.heap.size 9 i0 _ 1 16 Tryd.underlying22 hi0 hz0 hz1 hz2 rfl (by decide) (.slice (some ⟨w6.heap.size, 0, none⟩) 0 0) 0 [] (by simp [Act.eval]) HO7.out Av all.length cv (Sg.cells all) (by simp [Act.eval]) (by rw [Sg.cells_length, Nat.mul_one]) HNV.out SV7.out.cells (Sg.cells_oneCell all) (by unfold maxLen; omega) (by omega) (by simp) ?_;
                 intro v8 w8 hown8 hgrow8;
                 have O8 := Lib.hid hown8;
                 have B8 := Lib.hid (Sg.below_grown BB7.out hgrow8 (by simp) (fun g hg => by simp [Value.ownBlock] at hg; omega));
                 have X8 := Lib.hid (HSX.out.below B8.out);
                 have Z8 := Lib.hid (HB6.out.below B8.out);
                 have c8 := Box.c1 Z8.out)
              | (refine step_append_any _ rfl (.tmp 50) (.tmp 52) 22 rfl w6.heap.size 9 i0 _ 1 16 Tryd.underlying22 hi0 hz0 hz1 hz2 rfl (by decide) v8 (0 + all.length) ([] ++ Sg.cells all) (by simp [Act.eval]) O8.out x.ad x.recs.length x.cap (Sg.cells x.recs) (by simp [Act.eval]) (by rw [Sg.cells_length, Nat.mul_one]) HNX.out X8.out.cells (Sg.cells_oneCell x.recs) (by unfold maxLen; omega) (by omega) B8.out.size ?_;
                 intro v9 w9 hown9 hgrow9;
                 have O9 := Lib.hid hown9;
                 have B9 := Lib.hid (Sg.below_grown B8.out hgrow9 B8.out.size (fun g hg => (O8.out.lt g hg).1))))
            all_goals
              have HF9 := Lib.hid (HF.out.below B9.out)
              have HV9 := Lib.hid (show ST v9 (all ++ x.recs) w9 from by
                have h := O9.out
                rw [List.nil_append, ← Sg.cells_append] at h
                exact ST.of_own h)
              clear O9 B9
              go_wp2_with fail
              exact ⟨⟨k + 1, p, s, l', image, may, all ++ x.recs, safe, by omega, rfl, rfl, rfl, rfl, by go_num, HF9, HV9⟩, by simp [intOf]; omega⟩
          · have hy' : (y == 0) = false := by simpa using hy
            have HF := Lib.hid h6
            clear h6 hy
            go_wp2_with fail
            exact ⟨⟨k + 1, p, s, l', image, may, all, safe, by omega, rfl, rfl, rfl, rfl, by go_num, HF, HV6⟩, by simp [intOf]; omega⟩
      · obtain rfl : k = l.length := by omega
        go_wp2_with fail
        go_ret
        exact ⟨rfl, hP.out.i.bel⟩
end Go.Proofs.YtjnjcjildiadgaaDoor.Wl
