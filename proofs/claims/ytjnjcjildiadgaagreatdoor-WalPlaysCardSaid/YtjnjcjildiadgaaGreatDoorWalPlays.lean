/- The walk of WalPlays: the acts joined, the nil log, the law's loop. -/
import Derived.Test.YtjnjcjildiadgaaGreatDoorWalPlayDoC
import Derived.Test.YtjnjcjildiadgaaGreatDoorWalPlayDoA
import Derived.Test.YtjnjcjildiadgaaGreatDoorWalPlayDoR
import Derived.Test.YtjnjcjildiadgaaGreatDoorWalPlayDoD
import Derived.Test.YtjnjcjildiadgaaGreatDoorWalPlayDoB
namespace Go.Proofs.YtjnjcjildiadgaaGreatDoor.Wl
open Go Go.RowKit Frame Oct Disk
theorem WDo_calls (B p d L b n : Nat) (s : DSt) (l : LSt) (x : WAct) (W w : World) (hok : x.Ok) (hrs : x.recs.length ≤ 1000000) (hss : ∀ W', Below B W W' → Sg.SS x.ad x.recs W') (hi : LInv n s l) (hv : Inv s) (hT : Crc.Tab W) (hTB : 0 < B) (H : PC B p d L b s l (WCells d p n (canon s) l) W w) :
    Calls Tryz.prog 9 #[.pointer (some ⟨b, 0, none⟩), .agg (aCells x)] w (WDo B d L b n s l x W) := by
  have hk6 : x.kind.toNat % 6 < 6 := Nat.mod_lt _ (by decide)
  have hc : x.kind.toNat % 6 = 2 ∨ x.kind.toNat % 6 = 3 ∨ x.kind.toNat % 6 = 4 ∨ x.kind.toNat % 6 = 5 ∨ x.kind.toNat % 6 < 2 := by omega
  rcases hc with hc | hc | hc | hc | hc
  · exact WDo_commit B p d L b n s l x W w hc hi hv hT hTB H
  · exact WDo_begin B p d L b n s l x W w hc hrs hss hi hv hT hTB H
  · exact WDo_arm B p d L b n s l x W w hc hok hi hv hT hTB H
  · exact WDo_down B p d L b n s l x W w hc hok hi hv hT hTB H
  · exact WDo_append B p d L b n s l x W w hc hrs hss hi hv hT hTB H
set_option maxHeartbeats 1000000 in
theorem check_nil (w : World) : Calls Tryz.prog 42 #[.pointer none] w fun e w' => e = .returned (.int .i64 1) ∧ w = w' := by
  go_enter Tryz.func42, Tryz.ntmps42
  go_wp2
  go_ret
  exact ⟨rfl, rfl⟩
set_option maxHeartbeats 1000000 in
theorem Begin_nil (w : World) : Calls Tryz.prog 16 #[.pointer none, .string ⟨#[97]⟩] w fun e w' => e = .returned (.int .i64 1) ∧ w = w' := by
  go_enter Tryz.func16, Tryz.ntmps16
  go_wp2
  go_ret
  exact ⟨rfl, rfl⟩
set_option maxHeartbeats 1000000 in
theorem Append_nil (w : World) : Calls Tryz.prog 17 #[.pointer none, .slice none 0 0] w fun e w' => e = .returned (.int .i64 1) ∧ w = w' := by
  go_enter Tryz.func17, Tryz.ntmps17
  go_wp2_with fail
  refine (check_nil _).mono ?_
  rintro e w1 ⟨rfl, rfl⟩
  go_wp2_with fail
  go_ret
  exact ⟨rfl, rfl⟩
set_option maxHeartbeats 1000000 in
theorem Commit_nil (w : World) : Calls Tryz.prog 18 #[.pointer none] w fun e w' => e = .returned (.int .i64 1) ∧ w = w' := by
  go_enter Tryz.func18, Tryz.ntmps18
  go_wp2_with fail
  refine (check_nil _).mono ?_
  rintro e w1 ⟨rfl, rfl⟩
  go_wp2_with fail
  go_ret
  exact ⟨rfl, rfl⟩
set_option maxHeartbeats 1000000 in
theorem Ready_nil (w : World) : Calls Tryz.prog 12 #[.pointer none] w fun e w' => e = .returned (.bool false) ∧ w = w' := by
  go_enter Tryz.func12, Tryz.ntmps12
  go_wp2
  go_ret
  exact ⟨rfl, rfl⟩
set_option maxHeartbeats 1000000 in
theorem Room_nil (w : World) : Calls Tryz.prog 13 #[.pointer none] w fun e w' => e = .returned (.int .i64 0) ∧ w = w' := by
  go_enter Tryz.func13, Tryz.ntmps13
  go_wp2_with fail
  refine (Ready_nil _).mono ?_
  rintro e w1 ⟨rfl, rfl⟩
  go_wp2_with fail
  go_ret
  exact ⟨rfl, rfl⟩
set_option maxHeartbeats 1000000 in
theorem Gen_nil (w : World) : Calls Tryz.prog 15 #[.pointer none] w fun e w' => e = .returned (.int .u64 0) ∧ w = w' := by
  go_enter Tryz.func15, Tryz.ntmps15
  go_wp2
  go_ret
  exact ⟨rfl, rfl⟩
theorem wpAnyH_mono {P : Program} {ops : Array Oper} {Q : Exit → Act → World → Prop} {md : Region.Mode} {S S' : World → Prop} (hs : ∀ w, S' w → S w) : ∀ (fuel : Nat) (listed : Array Bool) (a : Act) (w : World), wpAnyH P md ops Q S' fuel listed a w → wpAnyH P md ops Q S fuel listed a w
  | 0, _, _, _, h => h
  | fuel + 1, _, _, _, h => ⟨h.1, fun i hi => wpOp_mono (fun a' w' h' => ⟨hs _ h'.1, wpAnyH_mono hs fuel _ a' w' h'.2⟩) (h.2 i hi)⟩
theorem takeH {P : Program} {ops : Array Oper} {Q : Exit → Act → World → Prop} {md : Region.Mode} {S : World → Prop} {i : Nat} {oi : Oper} {d : Option Tmp} {v : Value} {fuel : Nat} {listed : Array Bool} {a : Act} {w : World} (hi : ops[i]? = some oi)
    (hs : Region.noSelect ops = true) (hf : Region.free md ops listed i = true) (hr : (Region.ready md ops listed).contains i = true)
    (hQ : ∀ c a w, Q (.panic c) (a.put oi.dst v) w → Q (.panic c) a w) (hd : oi.dst = d) (hy : YieldsIf P ops S oi v a) (hS : S w)
    (h : wpAnyH P md ops Q S fuel (listed.setIfInBounds i true) (a.put d v) w) : wpAnyH P md ops Q S (fuel + 1) listed a w := by
  subst hd
  exact wpAnyH_take hi hs hf hr hQ hy hS h
/-- What holds between two acts. -/
structure PI (B d L b n : Nat) (s : DSt) (l : LSt) (W w : World) : Prop where
  inv : LInv n s l
  arm : Inv s
  pc : ∃ p, PC B p d L b s l (WCells d p n (canon s) l) W w
set_option maxRecDepth 100000 in
set_option maxHeartbeats 4000000 in
theorem WalPlays_walk (more : UInt8) (A : Option Addr) (c : Nat) (l : List WAct) (W : World) (hT : Crc.Tab W) (hA : Acts W.heap.size A l W) (hO : ∀ x ∈ l, x.Ok) (hl : l.length ≤ maxLen) :
    Calls Tryz.prog 3 #[.int .u8 more.toNat, .slice A l.length c] W fun e w' => e = .returned (.bool true) ∧ Below W.heap.size W w' := by
  have HTS := Lib.hid (Crc.Tab.size hT)
  have HT := Lib.hid hT
  have HA := Lib.hid hA
  have HO := Lib.hid hO
  have HLM := Lib.hid hl
  unfold maxLen at hl
  clear hT hA hO
  obtain ⟨m, hm⟩ : ∃ m, m = more.toNat % 17 := ⟨_, rfl⟩
  have h17 : (more.toNat : Int) % 17 = (m : Int) := by omega
  have hm17 : m < 17 := by omega
  have g1 : IntKind.i64.wrap (m : Int) = (m : Int) := IntWalk.i64_in _ (by omega)
  obtain ⟨n, hn⟩ : ∃ n, n = 4 + m := ⟨_, rfl⟩
  have g2 : IntKind.i64.wrap (4 + (m : Int)) = (n : Int) := by rw [IntWalk.i64_in _ (by omega)]; omega
  have hn4 : 4 ≤ n := by omega
  have hn20 : n ≤ 20 := by omega
  clear hm hn
  go_enter Tryz.func3, Tryz.ntmps3
  go_wp2_with fail
  refine (awake_calls W HT.out).mono ?_
  rintro e w1 ⟨rfl, b1⟩
  have B1 := Lib.hid b1
  clear b1
  go_wp2_with fail
  refine (Light_calls A c l _ (fun h0 => by
    obtain ⟨b, off, e1, e2, e3⟩ := HA.out.below B1.out h0
    exact ⟨b, off, e1, Nat.lt_of_lt_of_le e2 B1.out.size, fun i hi => ⟨(e3 i hi).1, (e3 i hi).2.1, fun b' off' q1 q2 => Nat.lt_of_lt_of_le ((e3 i hi).2.2 b' off' q1 q2) B1.out.size⟩⟩) HO.out HLM.out).mono ?_
  rintro e w2 ⟨rfl, b2⟩
  have B2 := Lib.hid (bthen B1.out b2)
  clear b2 B1
  have hli : lightB l = true → l.length ≤ 40 ∧ ∀ x ∈ l, Sg.lightB x.recs = true := light_iff
  have HLI := Lib.hid hli
  clear hli
  generalize lightB l = lb at *
  cases lb with
  | false =>
    go_wp2_with fail
    go_ret
    exact ⟨rfl, B2.out⟩
  | true =>
    obtain ⟨hl40, hlr⟩ := HLI.out rfl
    have HLR := Lib.hid hlr
    clear hlr
    go_wp2_with fail
    refine (New_one n (by omega) w2).mono ?_
    rintro e w3 ⟨rfl, h3, b3⟩
    have H3 := Lib.hid (One.base h3 B2.out.size)
    have B3 := Lib.hid (bthen B2.out b3)
    clear h3 b3
    generalize w2.heap.size + 1 = d at *
    generalize w2.heap.size = L at *
    go_wp2_with fail
    refine (rNew_calls n (by omega) _).mono ?_
    rintro e w4 ⟨rfl, b4⟩
    have HC0 := Lib.hid (show canon (fresh n) = fresh n from rfl)
    have HG0 := Lib.hid (Good.fresh n (by omega))
    have HON := Lib.hid (show (fresh n).on = true from rfl)
    have HWT := Lib.hid (show (fresh n).wait = [] from rfl)
    have HIV := Lib.hid (show Inv (fresh n) from ⟨fun e => by simp [fresh] at e, fun _ _ => rfl⟩)
    generalize fresh n = s0 at *
    have B5 := Lib.hid ((bthen B3.out b4).alloc (bthen B3.out b4).size (.cells #[.pointer (some ⟨d, 0, none⟩), .pointer none, .string (bs s0.last), .slice none 0 0, .bool s0.on, .bool s0.armed, .int .i64 s0.syncs, .int .i64 s0.cut, .int .i64 0, .int .i64 0, .int .u64 0, .bool false, .bool false, .string ⟨#[]⟩, .string ⟨#[]⟩] 37))
    have HW5 := Lib.hid (Has.new w4 #[.pointer (some ⟨d, 0, none⟩), .pointer none, .string (bs s0.last), .slice none 0 0, .bool s0.on, .bool s0.armed, .int .i64 s0.syncs, .int .i64 s0.cut, .int .i64 0, .int .i64 0, .int .u64 0, .bool false, .bool false, .string ⟨#[]⟩, .string ⟨#[]⟩] 37)
    have HO5 := Lib.hid ((H3.out.below b4).below ((Below.refl _ _).alloc (Nat.le_refl _) (.cells #[.pointer (some ⟨d, 0, none⟩), .pointer none, .string (bs s0.last), .slice none 0 0, .bool s0.on, .bool s0.armed, .int .i64 s0.syncs, .int .i64 s0.cut, .int .i64 0, .int .i64 0, .int .u64 0, .bool false, .bool false, .string ⟨#[]⟩, .string ⟨#[]⟩] 37)))
    have hb4 : W.heap.size ≤ w4.heap.size := (bthen B3.out b4).size
    unfold RD
    clear b4 H3 B3 B2
    go_wp2_with fail
    generalize w4.alloc (.cells #[.pointer (some ⟨d, 0, none⟩), .pointer none, .string (bs s0.last), .slice none 0 0, .bool s0.on, .bool s0.armed, .int .i64 s0.syncs, .int .i64 s0.cut, .int .i64 0, .int .i64 0, .int .u64 0, .bool false, .bool false, .string ⟨#[]⟩, .string ⟨#[]⟩] 37) = w5 at *
    generalize w4.heap.size = b at *
    refine (WOpen_calls W.heap.size d L b n s0 HG0.out HWT.out HON.out hn4 _ _ _ _ _ _ _ _ W w5 HT.out HTS.out B5.out HO5.out hb4 HW5.out).mono ?_
    rintro e w6 ⟨rfl, p6, h6⟩
    have HI6 := Lib.hid (show PI W.heap.size d L b n s0 (openL (n / 2) s0.last) W w6 from ⟨openL_inv HG0.out HWT.out hn4, HIV.out, p6, by rw [HC0.out]; exact h6⟩)
    clear h6 HW5 HO5 B5 HC0 HG0 HON HWT HIV
    go_wp2_with fail
    go_loopw [30] (fun i wr => ∃ (k : Nat) (s : DSt) (lg : LSt), k ≤ l.length ∧ i = .int .i64 k ∧ Hid (PI W.heap.size d L b n s lg W wr)) (fun i _ => l.length - (intOf i).toNat)
    case atStart => exact ⟨0, s0, _, by omega, rfl, HI6⟩
    case round =>
      obtain ⟨k, s, lg, hk, rfl, hP⟩ := hrel
      clear HI6
      obtain ⟨p, hpc⟩ := hP.out.pc
      have HPC := Lib.hid hpc
      clear hpc
      by_cases hlt : k < l.length
      · obtain ⟨g, off, rfl, hbl, hi⟩ := (HA.out.below HPC.out.i.bel) (by omega)
        obtain ⟨⟨c0, c1, c2, c3⟩, hs, hsb⟩ := hi k hlt
        clear hi
        have HM := Lib.hid (getD_mem l k hlt)
        have hok := HO.out _ HM.out
        have hrl := Sg.light_iff (HLR.out _ HM.out)
        generalize hxx : l.getD k default = x at *
        have HXX := Lib.hid hxx
        clear hxx
        have hb7 := (Below.refl wr.heap.size wr).alloc (Nat.le_refl _) (.cells (aCells x) 40)
        have HSS := Lib.hid (show ∀ W', Below W.heap.size W W' → Sg.SS x.ad x.recs W' from fun W' hb => by
          obtain ⟨b', off', e1, -, e3⟩ := HA.out.below hb (by omega)
          injection e1 with e1
          injection e1 with e1 e2
          subst e1; subst e2
          have := (e3 k hlt).2.1
          rw [HXX.out] at this
          exact this)
        have HDO := Lib.hid (WDo_calls W.heap.size p d L b n s lg x W (wr.alloc (.cells (aCells x) 40)).drew hok (by have := hrl.1; omega) HSS.out hP.out.inv hP.out.arm HT.out HTS.out (HPC.out.below hb7).drew)
        unfold aCells at HDO
        clear hs hsb hok hrl hb7 HM
        unfold WDo at HDO
        generalize play s lg (n / 2) x = r2 at HDO
        obtain ⟨s2, l2⟩ := r2
        simp only at HDO
        go_wp2_with fail
        refine wp_region_held_drew (S := fun _ => True) (by kernel_rfl) trivial (fun _hT => ?_)
        refine takeH (i := 0) (oi := _) (d := some 34) (v := ?_) rfl (by kernel_rfl) (by kernel_rfl) (by kernel_rfl) (fun _ _ _ h => h) rfl (Or.inl ⟨by rfl, ?_⟩) (by assumption) ?_
        rotate_left
        · intro w hSw; (try dsimp only at hSw); go_simp; try (with_reducible rfl)
        try simp only [Act.put, List.setIfInBounds_toArray]
        refine wpAnyH_ready (rs := [1]) (by kernel_rfl) (by simp) ?_
        refine AllReadyH.cons (o := _) rfl (fun K hK => ?_) AllReadyH.nil
        go_simp
        refine hK.out _ _ trivial (fun _ => ?_)
        clear hK K
        try simp only [Act.put, List.setIfInBounds_toArray]
        refine wpAnyH_ready (rs := [2]) (by kernel_rfl) (by simp) ?_
        refine AllReadyH.cons (o := _) rfl (fun K hK => ?_) AllReadyH.nil
        go_simp
        refine HDO.out.mono ?_
        rintro e w7 ⟨rfl, p7, hi7, hv7, h7⟩
        have HI7 := Lib.hid hi7
        have HV7 := Lib.hid hv7
        have H7 := Lib.hid h7
        clear hi7 hv7 h7 c0 c1 c2 c3
        try go_simp
        refine hK.out _ _ trivial (fun _ => ?_)
        clear hK K
        try simp only [Act.put, List.setIfInBounds_toArray]
        obtain ⟨qh, hqh⟩ : ∃ qh : Nat, qh = n / 2 := ⟨_, rfl⟩
        have hq12 : qh ≤ 10 := by omega
        have HKP := Lib.hid (show ∀ W', Below w7.heap.size w7 W' → (W'.cell? ⟨b, 0, none⟩ = some (.pointer (some ⟨d, 0, none⟩)) ∧ W'.cell? ⟨b, 1, none⟩ = some (.pointer (some ⟨p7, 0, none⟩)) ∧ W'.cell? ⟨b, 2, none⟩ = some (.string (bs s2.last)) ∧ W'.cell? ⟨b, 4, none⟩ = some (.bool s2.on) ∧ W'.cell? ⟨b, 8, none⟩ = some (.int .i64 (qh : Int)) ∧ W'.cell? ⟨b, 9, none⟩ = some (.int .i64 l2.area) ∧ W'.cell? ⟨b, 10, none⟩ = some (.int .u64 (l2.gen : Int)) ∧ W'.cell? ⟨b, 11, none⟩ = some (.bool l2.ready) ∧ W'.cell? ⟨b, 12, none⟩ = some (.bool l2.broken) ∧ W'.cell? ⟨b, 13, none⟩ = some (.string (bs l2.done)) ∧ W'.cell? ⟨b, 14, none⟩ = some (.string (bs l2.wait))) from fun W' k => by
          obtain ⟨x0, x1, x2, -, x4, -, -, -, x8, x9, x10, x11, x12, x13, x14⟩ := c15 (H7.out.below k).wb
          rw [canon_last] at x2
          rw [canon_is] at x4
          rw [← hqh] at x8
          exact ⟨x0, x1, x2, x4, x8, x9, x10, x11, x12, x13, x14⟩)
        have HLS := Lib.hid (fun W' (k : Below w7.heap.size w7 W') => show Calls Tryz.prog 10 #[.pointer (some ⟨d, 0, none⟩)] W' fun e w' => e = .returned (.string (bs s2.last)) ∧ W' = w' from by
          obtain ⟨wv, hd⟩ := (H7.out.below k).i.one
          exact Lasts_calls W.heap.size d L wv s2 W' hd)
        have HON := Lib.hid (fun W' (k : Below w7.heap.size w7 W') => show Calls Tryz.prog 11 #[.pointer (some ⟨d, 0, none⟩)] W' fun e w' => e = .returned (.bool s2.on) ∧ W' = w' from by
          obtain ⟨wv, hd⟩ := (H7.out.below k).i.one
          exact On_calls W.heap.size d L wv s2 W' hd)
        have HRY := Lib.hid (fun W' (k : Below w7.heap.size w7 W') => Ready_calls p7 d l2 W' (H7.out.below k).i.lg)
        have HGN := Lib.hid (fun W' (k : Below w7.heap.size w7 W') => Gen_calls p7 d l2 W' (H7.out.below k).i.lg)
        have HRM := Lib.hid (fun W' (k : Below w7.heap.size w7 W') => Room_calls W.heap.size p7 d L n s2 l2 HI7.out W' (H7.out.below k).i.one (H7.out.below k).i.lg)
        have hrm := HI7.out.rm
        have HRR := Lib.hid (fun W' => show Calls Tryz.prog 14 #[.agg #[.int .i64 (qh : Int), .int .i64 l2.area, .int .u64 (l2.gen : Int), .bool l2.ready, .bool l2.broken, .string (bs l2.done), .string (bs l2.wait)]] W' (fun e w' => e = .returned (.int .i64 (room l2 qh)) ∧ Below W'.heap.size W' w') from rRoom_calls qh l2 (by omega) (by omega) (by omega) W')
        rw [← hqh] at HRM
        generalize room l2 qh = rm at *
        have HB0 := Lib.hid (Below.refl w7.heap.size w7)
        have hstr : ((bs s2.last).toList == (bs s2.last).toList) = true := by simp
        have HQH := Lib.hid hqh
        clear hqh hrm hq12
        refine wpAnyH_mono (S' := fun W' => W'.cell? ⟨b, 0, none⟩ = some (.pointer (some ⟨d, 0, none⟩)) ∧ W'.cell? ⟨b, 1, none⟩ = some (.pointer (some ⟨p7, 0, none⟩)) ∧ W'.cell? ⟨b, 2, none⟩ = some (.string (bs s2.last)) ∧ W'.cell? ⟨b, 4, none⟩ = some (.bool s2.on) ∧ W'.cell? ⟨b, 8, none⟩ = some (.int .i64 (qh : Int)) ∧ W'.cell? ⟨b, 9, none⟩ = some (.int .i64 l2.area) ∧ W'.cell? ⟨b, 10, none⟩ = some (.int .u64 (l2.gen : Int)) ∧ W'.cell? ⟨b, 11, none⟩ = some (.bool l2.ready) ∧ W'.cell? ⟨b, 12, none⟩ = some (.bool l2.broken) ∧ W'.cell? ⟨b, 13, none⟩ = some (.string (bs l2.done)) ∧ W'.cell? ⟨b, 14, none⟩ = some (.string (bs l2.wait))) (fun _ _ => trivial) _ _ _ _ ?_
        have hHeld := HKP.out _ HB0.out
        refine takeH (i := 3) (oi := _) (d := some 37) (v := ?_) rfl (by kernel_rfl) (by kernel_rfl) (by kernel_rfl) (fun _ _ _ h => h) rfl (Or.inl ⟨by rfl, ?_⟩) (by assumption) ?_
        rotate_left
        · intro w hSw; (try dsimp only at hSw); go_simp; try (with_reducible rfl)
        try simp only [Act.put, List.setIfInBounds_toArray]
        refine takeH (i := 4) (oi := _) (d := some 38) (v := ?_) rfl (by kernel_rfl) (by kernel_rfl) (by kernel_rfl) (fun _ _ _ h => h) rfl (Or.inl ⟨by rfl, ?_⟩) (by assumption) ?_
        rotate_left
        · intro w hSw; (try dsimp only at hSw); go_simp; try (with_reducible rfl)
        try simp only [Act.put, List.setIfInBounds_toArray]
        refine takeH (i := 5) (oi := _) (d := some 39) (v := ?_) rfl (by kernel_rfl) (by kernel_rfl) (by kernel_rfl) (fun _ _ _ h => h) rfl (Or.inl ⟨by rfl, ?_⟩) (by assumption) ?_
        rotate_left
        · intro w hSw; (try dsimp only at hSw); go_simp; try (with_reducible rfl)
        try simp only [Act.put, List.setIfInBounds_toArray]
        refine takeH (i := 6) (oi := _) (d := some 40) (v := ?_) rfl (by kernel_rfl) (by kernel_rfl) (by kernel_rfl) (fun _ _ _ h => h) rfl (Or.inl ⟨by rfl, ?_⟩) (by assumption) ?_
        rotate_left
        · intro w hSw; (try dsimp only at hSw); go_simp; try (with_reducible rfl)
        try simp only [Act.put, List.setIfInBounds_toArray]
        refine takeH (i := 7) (oi := _) (d := some 41) (v := ?_) rfl (by kernel_rfl) (by kernel_rfl) (by kernel_rfl) (fun _ _ _ h => h) rfl (Or.inl ⟨by rfl, ?_⟩) (by assumption) ?_
        rotate_left
        · intro w hSw; (try dsimp only at hSw); go_simp; try (with_reducible rfl)
        try simp only [Act.put, List.setIfInBounds_toArray]
        refine takeH (i := 8) (oi := _) (d := some 42) (v := ?_) rfl (by kernel_rfl) (by kernel_rfl) (by kernel_rfl) (fun _ _ _ h => h) rfl (Or.inl ⟨by rfl, ?_⟩) (by assumption) ?_
        rotate_left
        · intro w hSw; (try dsimp only at hSw); go_simp; try (with_reducible rfl)
        try simp only [Act.put, List.setIfInBounds_toArray]
        refine takeH (i := 10) (oi := _) (d := some 44) (v := ?_) rfl (by kernel_rfl) (by kernel_rfl) (by kernel_rfl) (fun _ _ _ h => h) rfl (Or.inl ⟨by rfl, ?_⟩) (by assumption) ?_
        rotate_left
        · intro w hSw; (try dsimp only at hSw); go_simp; try (with_reducible rfl)
        try simp only [Act.put, List.setIfInBounds_toArray]
        refine takeH (i := 11) (oi := _) (d := some 45) (v := ?_) rfl (by kernel_rfl) (by kernel_rfl) (by kernel_rfl) (fun _ _ _ h => h) rfl (Or.inl ⟨by rfl, ?_⟩) (by assumption) ?_
        rotate_left
        · intro w hSw; (try dsimp only at hSw); go_simp; try (with_reducible rfl)
        try simp only [Act.put, List.setIfInBounds_toArray]
        refine takeH (i := 12) (oi := _) (d := some 46) (v := ?_) rfl (by kernel_rfl) (by kernel_rfl) (by kernel_rfl) (fun _ _ _ h => h) rfl (Or.inl ⟨by rfl, ?_⟩) (by assumption) ?_
        rotate_left
        · intro w hSw; (try dsimp only at hSw); go_simp; try (with_reducible rfl)
        try simp only [Act.put, List.setIfInBounds_toArray]
        refine takeH (i := 13) (oi := _) (d := some 47) (v := ?_) rfl (by kernel_rfl) (by kernel_rfl) (by kernel_rfl) (fun _ _ _ h => h) rfl (Or.inl ⟨by rfl, ?_⟩) (by assumption) ?_
        rotate_left
        · intro w hSw; (try dsimp only at hSw); go_simp; try (with_reducible rfl)
        try simp only [Act.put, List.setIfInBounds_toArray]
        refine takeH (i := 14) (oi := _) (d := some 48) (v := ?_) rfl (by kernel_rfl) (by kernel_rfl) (by kernel_rfl) (fun _ _ _ h => h) rfl (Or.inl ⟨by rfl, ?_⟩) (by assumption) ?_
        rotate_left
        · intro w hSw; (try dsimp only at hSw); go_simp; try (with_reducible rfl)
        try simp only [Act.put, List.setIfInBounds_toArray]
        refine wpAnyH_ready (rs := [9]) (by kernel_rfl) (by simp) ?_
        refine AllReadyH.cons (o := _) rfl (fun K hK => ?_) AllReadyH.nil
        go_simp
        refine (HLS.out _ HB0.out).mono ?_
        rintro e w8 ⟨rfl, rfl⟩
        try go_simp
        refine hK.out _ _ (HKP.out _ HB0.out) (fun hHeld => ?_)
        clear hK K
        try simp only [Act.put, List.setIfInBounds_toArray]
        refine takeH (i := 15) (oi := _) (d := some 49) (v := ?_) rfl (by kernel_rfl) (by kernel_rfl) (by kernel_rfl) (fun _ _ _ h => h) rfl (Or.inl ⟨by rfl, ?_⟩) (by assumption) ?_
        rotate_left
        · intro w hSw; (try dsimp only at hSw); go_simp; try (with_reducible rfl)
        try simp only [Act.put, List.setIfInBounds_toArray]
        refine takeH (i := 16) (oi := _) (d := some 50) (v := ?_) rfl (by kernel_rfl) (by kernel_rfl) (by kernel_rfl) (fun _ _ _ h => h) rfl (Or.inl ⟨by rfl, ?_⟩) (by assumption) ?_
        rotate_left
        · intro w hSw; (try dsimp only at hSw); go_simp; try (with_reducible rfl)
        try simp only [Act.put, List.setIfInBounds_toArray]
        refine takeH (i := 17) (oi := _) (d := some 51) (v := ?_) rfl (by kernel_rfl) (by kernel_rfl) (by kernel_rfl) (fun _ _ _ h => h) rfl (Or.inl ⟨by rfl, ?_⟩) (by assumption) ?_
        rotate_left
        · intro w hSw; (try dsimp only at hSw); go_simp; try (with_reducible rfl)
        try simp only [Act.put, List.setIfInBounds_toArray]
        refine takeH (i := 18) (oi := _) (d := some 52) (v := ?_) rfl (by kernel_rfl) (by kernel_rfl) (by kernel_rfl) (fun _ _ _ h => h) rfl (Or.inl ⟨by rfl, ?_⟩) (by assumption) ?_
        rotate_left
        · intro w hSw; (try dsimp only at hSw); go_simp; try (with_reducible rfl)
        try simp only [Act.put, List.setIfInBounds_toArray]
        refine takeH (i := 19) (oi := _) (d := some 53) (v := ?_) rfl (by kernel_rfl) (by kernel_rfl) (by kernel_rfl) (fun _ _ _ h => h) rfl (Or.inl ⟨by rfl, ?_⟩) (by assumption) ?_
        rotate_left
        · intro w hSw; (try dsimp only at hSw); go_simp; try (with_reducible rfl)
        try simp only [Act.put, List.setIfInBounds_toArray]
        refine takeH (i := 20) (oi := _) (d := some 54) (v := ?_) rfl (by kernel_rfl) (by kernel_rfl) (by kernel_rfl) (fun _ _ _ h => h) rfl (Or.inl ⟨by rfl, ?_⟩) (by assumption) ?_
        rotate_left
        · intro w hSw; (try dsimp only at hSw); go_simp; try (with_reducible rfl)
        try simp only [Act.put, List.setIfInBounds_toArray]
        refine takeH (i := 21) (oi := _) (d := some 55) (v := ?_) rfl (by kernel_rfl) (by kernel_rfl) (by kernel_rfl) (fun _ _ _ h => h) rfl (Or.inl ⟨by rfl, ?_⟩) (by assumption) ?_
        rotate_left
        · intro w hSw; (try dsimp only at hSw); go_simp; try (with_reducible rfl)
        try simp only [Act.put, List.setIfInBounds_toArray]
        refine takeH (i := 23) (oi := _) (d := some 57) (v := ?_) rfl (by kernel_rfl) (by kernel_rfl) (by kernel_rfl) (fun _ _ _ h => h) rfl (Or.inl ⟨by rfl, ?_⟩) (by assumption) ?_
        rotate_left
        · intro w hSw; (try dsimp only at hSw); go_simp; try (with_reducible rfl)
        try simp only [Act.put, List.setIfInBounds_toArray]
        refine takeH (i := 24) (oi := _) (d := some 58) (v := ?_) rfl (by kernel_rfl) (by kernel_rfl) (by kernel_rfl) (fun _ _ _ h => h) rfl (Or.inl ⟨by rfl, ?_⟩) (by assumption) ?_
        rotate_left
        · intro w hSw; (try dsimp only at hSw); go_simp; try (with_reducible rfl)
        try simp only [Act.put, List.setIfInBounds_toArray]
        refine takeH (i := 25) (oi := _) (d := some 59) (v := ?_) rfl (by kernel_rfl) (by kernel_rfl) (by kernel_rfl) (fun _ _ _ h => h) rfl (Or.inl ⟨by rfl, ?_⟩) (by assumption) ?_
        rotate_left
        · intro w hSw; (try dsimp only at hSw); go_simp; try (with_reducible rfl)
        try simp only [Act.put, List.setIfInBounds_toArray]
        refine takeH (i := 26) (oi := _) (d := some 60) (v := ?_) rfl (by kernel_rfl) (by kernel_rfl) (by kernel_rfl) (fun _ _ _ h => h) rfl (Or.inl ⟨by rfl, ?_⟩) (by assumption) ?_
        rotate_left
        · intro w hSw; (try dsimp only at hSw); go_simp; try (with_reducible rfl)
        try simp only [Act.put, List.setIfInBounds_toArray]
        refine takeH (i := 27) (oi := _) (d := some 61) (v := ?_) rfl (by kernel_rfl) (by kernel_rfl) (by kernel_rfl) (fun _ _ _ h => h) rfl (Or.inl ⟨by rfl, ?_⟩) (by assumption) ?_
        rotate_left
        · intro w hSw; (try dsimp only at hSw); go_simp; try (with_reducible rfl)
        try simp only [Act.put, List.setIfInBounds_toArray]
        refine wpAnyH_ready (rs := [22]) (by kernel_rfl) (by simp) ?_
        refine AllReadyH.cons (o := _) rfl (fun K hK => ?_) AllReadyH.nil
        go_simp
        refine (HON.out _ HB0.out).mono ?_
        rintro e w8 ⟨rfl, rfl⟩
        try go_simp
        refine hK.out _ _ (HKP.out _ HB0.out) (fun hHeld => ?_)
        clear hK K
        try simp only [Act.put, List.setIfInBounds_toArray]
        refine takeH (i := 28) (oi := _) (d := some 62) (v := ?_) rfl (by kernel_rfl) (by kernel_rfl) (by kernel_rfl) (fun _ _ _ h => h) rfl (Or.inl ⟨by rfl, ?_⟩) (by assumption) ?_
        rotate_left
        · intro w hSw; (try dsimp only at hSw); go_simp; try (with_reducible rfl)
        try simp only [Act.put, List.setIfInBounds_toArray]
        refine takeH (i := 29) (oi := _) (d := some 63) (v := ?_) rfl (by kernel_rfl) (by kernel_rfl) (by kernel_rfl) (fun _ _ _ h => h) rfl (Or.inl ⟨by rfl, ?_⟩) (by assumption) ?_
        rotate_left
        · intro w hSw; (try dsimp only at hSw); go_simp; try (with_reducible rfl)
        try simp only [Act.put, List.setIfInBounds_toArray]
        refine takeH (i := 30) (oi := _) (d := some 64) (v := ?_) rfl (by kernel_rfl) (by kernel_rfl) (by kernel_rfl) (fun _ _ _ h => h) rfl (Or.inl ⟨by rfl, ?_⟩) (by assumption) ?_
        rotate_left
        · intro w hSw; (try dsimp only at hSw); go_simp; try (with_reducible rfl)
        try simp only [Act.put, List.setIfInBounds_toArray]
        refine takeH (i := 31) (oi := _) (d := some 65) (v := ?_) rfl (by kernel_rfl) (by kernel_rfl) (by kernel_rfl) (fun _ _ _ h => h) rfl (Or.inl ⟨by rfl, ?_⟩) (by assumption) ?_
        rotate_left
        · intro w hSw; (try dsimp only at hSw); go_simp; try (with_reducible rfl)
        try simp only [Act.put, List.setIfInBounds_toArray]
        refine takeH (i := 32) (oi := _) (d := some 66) (v := ?_) rfl (by kernel_rfl) (by kernel_rfl) (by kernel_rfl) (fun _ _ _ h => h) rfl (Or.inl ⟨by rfl, ?_⟩) (by assumption) ?_
        rotate_left
        · intro w hSw; (try dsimp only at hSw); go_simp; try (with_reducible rfl)
        try simp only [Act.put, List.setIfInBounds_toArray]
        refine takeH (i := 33) (oi := _) (d := some 67) (v := ?_) rfl (by kernel_rfl) (by kernel_rfl) (by kernel_rfl) (fun _ _ _ h => h) rfl (Or.inl ⟨by rfl, ?_⟩) (by assumption) ?_
        rotate_left
        · intro w hSw; (try dsimp only at hSw); go_simp; try (with_reducible rfl)
        try simp only [Act.put, List.setIfInBounds_toArray]
        refine takeH (i := 34) (oi := _) (d := some 68) (v := ?_) rfl (by kernel_rfl) (by kernel_rfl) (by kernel_rfl) (fun _ _ _ h => h) rfl (Or.inl ⟨by rfl, ?_⟩) (by assumption) ?_
        rotate_left
        · intro w hSw; (try dsimp only at hSw); go_simp; try (with_reducible rfl)
        try simp only [Act.put, List.setIfInBounds_toArray]
        refine takeH (i := 36) (oi := _) (d := some 70) (v := ?_) rfl (by kernel_rfl) (by kernel_rfl) (by kernel_rfl) (fun _ _ _ h => h) rfl (Or.inl ⟨by rfl, ?_⟩) (by assumption) ?_
        rotate_left
        · intro w hSw; (try dsimp only at hSw); go_simp; try (with_reducible rfl)
        try simp only [Act.put, List.setIfInBounds_toArray]
        refine takeH (i := 37) (oi := _) (d := some 71) (v := ?_) rfl (by kernel_rfl) (by kernel_rfl) (by kernel_rfl) (fun _ _ _ h => h) rfl (Or.inl ⟨by rfl, ?_⟩) (by assumption) ?_
        rotate_left
        · intro w hSw; (try dsimp only at hSw); go_simp; try (with_reducible rfl)
        try simp only [Act.put, List.setIfInBounds_toArray]
        refine takeH (i := 38) (oi := _) (d := some 72) (v := ?_) rfl (by kernel_rfl) (by kernel_rfl) (by kernel_rfl) (fun _ _ _ h => h) rfl (Or.inl ⟨by rfl, ?_⟩) (by assumption) ?_
        rotate_left
        · intro w hSw; (try dsimp only at hSw); go_simp; try (with_reducible rfl)
        try simp only [Act.put, List.setIfInBounds_toArray]
        refine takeH (i := 39) (oi := _) (d := some 73) (v := ?_) rfl (by kernel_rfl) (by kernel_rfl) (by kernel_rfl) (fun _ _ _ h => h) rfl (Or.inl ⟨by rfl, ?_⟩) (by assumption) ?_
        rotate_left
        · intro w hSw; (try dsimp only at hSw); go_simp; try (with_reducible rfl)
        try simp only [Act.put, List.setIfInBounds_toArray]
        refine takeH (i := 40) (oi := _) (d := some 74) (v := ?_) rfl (by kernel_rfl) (by kernel_rfl) (by kernel_rfl) (fun _ _ _ h => h) rfl (Or.inl ⟨by rfl, ?_⟩) (by assumption) ?_
        rotate_left
        · intro w hSw; (try dsimp only at hSw); go_simp; try (with_reducible rfl)
        try simp only [Act.put, List.setIfInBounds_toArray]
        refine wpAnyH_ready (rs := [35]) (by kernel_rfl) (by simp) ?_
        refine AllReadyH.cons (o := _) rfl (fun K hK => ?_) AllReadyH.nil
        go_simp
        refine (HRY.out _ HB0.out).mono ?_
        rintro e w8 ⟨rfl, rfl⟩
        try go_simp
        refine hK.out _ _ (HKP.out _ HB0.out) (fun hHeld => ?_)
        clear hK K
        try simp only [Act.put, List.setIfInBounds_toArray]
        refine takeH (i := 41) (oi := _) (d := some 75) (v := ?_) rfl (by kernel_rfl) (by kernel_rfl) (by kernel_rfl) (fun _ _ _ h => h) rfl (Or.inl ⟨by rfl, ?_⟩) (by assumption) ?_
        rotate_left
        · intro w hSw; (try dsimp only at hSw); go_simp; try (with_reducible rfl)
        try simp only [Act.put, List.setIfInBounds_toArray]
        refine takeH (i := 42) (oi := _) (d := some 76) (v := ?_) rfl (by kernel_rfl) (by kernel_rfl) (by kernel_rfl) (fun _ _ _ h => h) rfl (Or.inl ⟨by rfl, ?_⟩) (by assumption) ?_
        rotate_left
        · intro w hSw; (try dsimp only at hSw); go_simp; try (with_reducible rfl)
        try simp only [Act.put, List.setIfInBounds_toArray]
        refine takeH (i := 43) (oi := _) (d := some 77) (v := ?_) rfl (by kernel_rfl) (by kernel_rfl) (by kernel_rfl) (fun _ _ _ h => h) rfl (Or.inl ⟨by rfl, ?_⟩) (by assumption) ?_
        rotate_left
        · intro w hSw; (try dsimp only at hSw); go_simp; try (with_reducible rfl)
        try simp only [Act.put, List.setIfInBounds_toArray]
        refine takeH (i := 44) (oi := _) (d := some 78) (v := ?_) rfl (by kernel_rfl) (by kernel_rfl) (by kernel_rfl) (fun _ _ _ h => h) rfl (Or.inl ⟨by rfl, ?_⟩) (by assumption) ?_
        rotate_left
        · intro w hSw; (try dsimp only at hSw); go_simp; try (with_reducible rfl)
        try simp only [Act.put, List.setIfInBounds_toArray]
        refine takeH (i := 45) (oi := _) (d := some 79) (v := ?_) rfl (by kernel_rfl) (by kernel_rfl) (by kernel_rfl) (fun _ _ _ h => h) rfl (Or.inl ⟨by rfl, ?_⟩) (by assumption) ?_
        rotate_left
        · intro w hSw; (try dsimp only at hSw); go_simp; try (with_reducible rfl)
        try simp only [Act.put, List.setIfInBounds_toArray]
        refine takeH (i := 46) (oi := _) (d := some 80) (v := ?_) rfl (by kernel_rfl) (by kernel_rfl) (by kernel_rfl) (fun _ _ _ h => h) rfl (Or.inl ⟨by rfl, ?_⟩) (by assumption) ?_
        rotate_left
        · intro w hSw; (try dsimp only at hSw); go_simp; try (with_reducible rfl)
        try simp only [Act.put, List.setIfInBounds_toArray]
        refine takeH (i := 47) (oi := _) (d := some 81) (v := ?_) rfl (by kernel_rfl) (by kernel_rfl) (by kernel_rfl) (fun _ _ _ h => h) rfl (Or.inl ⟨by rfl, ?_⟩) (by assumption) ?_
        rotate_left
        · intro w hSw; (try dsimp only at hSw); go_simp; try (with_reducible rfl)
        try simp only [Act.put, List.setIfInBounds_toArray]
        refine takeH (i := 49) (oi := _) (d := some 83) (v := ?_) rfl (by kernel_rfl) (by kernel_rfl) (by kernel_rfl) (fun _ _ _ h => h) rfl (Or.inl ⟨by rfl, ?_⟩) (by assumption) ?_
        rotate_left
        · intro w hSw; (try dsimp only at hSw); go_simp; try (with_reducible rfl)
        try simp only [Act.put, List.setIfInBounds_toArray]
        refine takeH (i := 50) (oi := _) (d := some 84) (v := ?_) rfl (by kernel_rfl) (by kernel_rfl) (by kernel_rfl) (fun _ _ _ h => h) rfl (Or.inl ⟨by rfl, ?_⟩) (by assumption) ?_
        rotate_left
        · intro w hSw; (try dsimp only at hSw); go_simp; try (with_reducible rfl)
        try simp only [Act.put, List.setIfInBounds_toArray]
        refine takeH (i := 51) (oi := _) (d := some 85) (v := ?_) rfl (by kernel_rfl) (by kernel_rfl) (by kernel_rfl) (fun _ _ _ h => h) rfl (Or.inl ⟨by rfl, ?_⟩) (by assumption) ?_
        rotate_left
        · intro w hSw; (try dsimp only at hSw); go_simp; try (with_reducible rfl)
        try simp only [Act.put, List.setIfInBounds_toArray]
        refine takeH (i := 52) (oi := _) (d := some 86) (v := ?_) rfl (by kernel_rfl) (by kernel_rfl) (by kernel_rfl) (fun _ _ _ h => h) rfl (Or.inl ⟨by rfl, ?_⟩) (by assumption) ?_
        rotate_left
        · intro w hSw; (try dsimp only at hSw); go_simp; try (with_reducible rfl)
        try simp only [Act.put, List.setIfInBounds_toArray]
        refine wpAnyH_ready (rs := [48]) (by kernel_rfl) (by simp) ?_
        refine AllReadyH.cons (o := _) rfl (fun K hK => ?_) AllReadyH.nil
        go_simp
        refine (HRM.out _ HB0.out).mono ?_
        rintro e w8 ⟨rfl, b8⟩
        have HB1 := Lib.hid (bthen HB0.out b8)
        clear b8
        try go_simp
        refine hK.out _ _ (HKP.out _ HB1.out) (fun hHeld => ?_)
        clear hK K
        try simp only [Act.put, List.setIfInBounds_toArray]
        refine wpAnyH_ready (rs := [53]) (by kernel_rfl) (by simp) ?_
        refine AllReadyH.cons (o := _) rfl (fun K hK => ?_) AllReadyH.nil
        go_simp
        refine (HRR.out _).mono ?_
        rintro e w9 ⟨rfl, b9⟩
        have HB2 := Lib.hid (bthen HB1.out b9)
        clear b9
        try go_simp
        refine hK.out _ _ (HKP.out _ HB2.out) (fun hHeld => ?_)
        clear hK K
        try simp only [Act.put, List.setIfInBounds_toArray]
        refine takeH (i := 54) (oi := _) (d := some 88) (v := ?_) rfl (by kernel_rfl) (by kernel_rfl) (by kernel_rfl) (fun _ _ _ h => h) rfl (Or.inl ⟨by rfl, ?_⟩) (by assumption) ?_
        rotate_left
        · intro w hSw; (try dsimp only at hSw); go_simp; try (with_reducible rfl)
        try simp only [Act.put, List.setIfInBounds_toArray]
        refine takeH (i := 55) (oi := _) (d := some 89) (v := ?_) rfl (by kernel_rfl) (by kernel_rfl) (by kernel_rfl) (fun _ _ _ h => h) rfl (Or.inl ⟨by rfl, ?_⟩) (by assumption) ?_
        rotate_left
        · intro w hSw; (try dsimp only at hSw); go_simp; try (with_reducible rfl)
        try simp only [Act.put, List.setIfInBounds_toArray]
        refine takeH (i := 56) (oi := _) (d := some 90) (v := ?_) rfl (by kernel_rfl) (by kernel_rfl) (by kernel_rfl) (fun _ _ _ h => h) rfl (Or.inl ⟨by rfl, ?_⟩) (by assumption) ?_
        rotate_left
        · intro w hSw; (try dsimp only at hSw); go_simp; try (with_reducible rfl)
        try simp only [Act.put, List.setIfInBounds_toArray]
        refine takeH (i := 57) (oi := _) (d := some 91) (v := ?_) rfl (by kernel_rfl) (by kernel_rfl) (by kernel_rfl) (fun _ _ _ h => h) rfl (Or.inl ⟨by rfl, ?_⟩) (by assumption) ?_
        rotate_left
        · intro w hSw; (try dsimp only at hSw); go_simp; try (with_reducible rfl)
        try simp only [Act.put, List.setIfInBounds_toArray]
        refine takeH (i := 58) (oi := _) (d := some 92) (v := ?_) rfl (by kernel_rfl) (by kernel_rfl) (by kernel_rfl) (fun _ _ _ h => h) rfl (Or.inl ⟨by rfl, ?_⟩) (by assumption) ?_
        rotate_left
        · intro w hSw; (try dsimp only at hSw); go_simp; try (with_reducible rfl)
        try simp only [Act.put, List.setIfInBounds_toArray]
        refine takeH (i := 59) (oi := _) (d := some 93) (v := ?_) rfl (by kernel_rfl) (by kernel_rfl) (by kernel_rfl) (fun _ _ _ h => h) rfl (Or.inl ⟨by rfl, ?_⟩) (by assumption) ?_
        rotate_left
        · intro w hSw; (try dsimp only at hSw); go_simp; try (with_reducible rfl)
        try simp only [Act.put, List.setIfInBounds_toArray]
        refine takeH (i := 60) (oi := _) (d := some 94) (v := ?_) rfl (by kernel_rfl) (by kernel_rfl) (by kernel_rfl) (fun _ _ _ h => h) rfl (Or.inl ⟨by rfl, ?_⟩) (by assumption) ?_
        rotate_left
        · intro w hSw; (try dsimp only at hSw); go_simp; try (with_reducible rfl)
        try simp only [Act.put, List.setIfInBounds_toArray]
        refine takeH (i := 62) (oi := _) (d := some 96) (v := ?_) rfl (by kernel_rfl) (by kernel_rfl) (by kernel_rfl) (fun _ _ _ h => h) rfl (Or.inl ⟨by rfl, ?_⟩) (by assumption) ?_
        rotate_left
        · intro w hSw; (try dsimp only at hSw); go_simp; try (with_reducible rfl)
        try simp only [Act.put, List.setIfInBounds_toArray]
        refine takeH (i := 63) (oi := _) (d := some 97) (v := ?_) rfl (by kernel_rfl) (by kernel_rfl) (by kernel_rfl) (fun _ _ _ h => h) rfl (Or.inl ⟨by rfl, ?_⟩) (by assumption) ?_
        rotate_left
        · intro w hSw; (try dsimp only at hSw); go_simp; try (with_reducible rfl)
        try simp only [Act.put, List.setIfInBounds_toArray]
        refine takeH (i := 64) (oi := _) (d := some 98) (v := ?_) rfl (by kernel_rfl) (by kernel_rfl) (by kernel_rfl) (fun _ _ _ h => h) rfl (Or.inl ⟨by rfl, ?_⟩) (by assumption) ?_
        rotate_left
        · intro w hSw; (try dsimp only at hSw); go_simp; try (with_reducible rfl)
        try simp only [Act.put, List.setIfInBounds_toArray]
        refine takeH (i := 65) (oi := _) (d := some 99) (v := ?_) rfl (by kernel_rfl) (by kernel_rfl) (by kernel_rfl) (fun _ _ _ h => h) rfl (Or.inl ⟨by rfl, ?_⟩) (by assumption) ?_
        rotate_left
        · intro w hSw; (try dsimp only at hSw); go_simp; try (with_reducible rfl)
        try simp only [Act.put, List.setIfInBounds_toArray]
        refine takeH (i := 66) (oi := _) (d := some 100) (v := ?_) rfl (by kernel_rfl) (by kernel_rfl) (by kernel_rfl) (fun _ _ _ h => h) rfl (Or.inl ⟨by rfl, ?_⟩) (by assumption) ?_
        rotate_left
        · intro w hSw; (try dsimp only at hSw); go_simp; try (with_reducible rfl)
        try simp only [Act.put, List.setIfInBounds_toArray]
        refine wpAnyH_ready (rs := [61]) (by kernel_rfl) (by simp) ?_
        refine AllReadyH.cons (o := _) rfl (fun K hK => ?_) AllReadyH.nil
        go_simp
        refine (HGN.out _ HB2.out).mono ?_
        rintro e w10 ⟨rfl, rfl⟩
        try go_simp
        refine hK.out _ _ (HKP.out _ HB2.out) (fun hHeld => ?_)
        clear hK K
        try simp only [Act.put, List.setIfInBounds_toArray]
        refine takeH (i := 67) (oi := _) (d := some 101) (v := ?_) rfl (by kernel_rfl) (by kernel_rfl) (by kernel_rfl) (fun _ _ _ h => h) rfl (Or.inl ⟨by rfl, ?_⟩) (by assumption) ?_
        rotate_left
        · intro w hSw; (try dsimp only at hSw); go_simp; try (with_reducible rfl)
        try simp only [Act.put, List.setIfInBounds_toArray]
        refine takeH (i := 68) (oi := _) (d := some 102) (v := ?_) rfl (by kernel_rfl) (by kernel_rfl) (by kernel_rfl) (fun _ _ _ h => h) rfl (Or.inl ⟨by rfl, ?_⟩) (by assumption) ?_
        rotate_left
        · intro w hSw; (try dsimp only at hSw); go_simp; try (with_reducible rfl)
        try simp only [Act.put, List.setIfInBounds_toArray]
        refine wpAnyH_done (by kernel_rfl) ?_ _
        have HF := Lib.hid (show PI W.heap.size d L b n s2 l2 W w9 from ⟨HI7.out, HV7.out, p7, H7.out.below HB2.out⟩)
        clear hHeld
        go_wp2_with fail
        exact ⟨⟨k + 1, s2, l2, by omega, by go_num, HF⟩, by simp [intOf]; omega⟩
      · obtain rfl : k = l.length := by omega
        have HBL := Lib.hid HPC.out.i.bel
        go_wp2_with fail
        refine (Begin_nil _).mono ?_
        rintro e w7 ⟨rfl, rfl⟩
        go_wp2_with fail
        refine (Append_nil _).mono ?_
        rintro e w7 ⟨rfl, rfl⟩
        go_wp2_with fail
        refine (Commit_nil _).mono ?_
        rintro e w7 ⟨rfl, rfl⟩
        go_wp2_with fail
        refine (Ready_nil _).mono ?_
        rintro e w7 ⟨rfl, rfl⟩
        go_wp2_with fail
        refine (Room_nil _).mono ?_
        rintro e w7 ⟨rfl, rfl⟩
        go_wp2_with fail
        refine (Gen_nil _).mono ?_
        rintro e w7 ⟨rfl, rfl⟩
        go_wp2_with fail
        go_ret
        exact ⟨rfl, HBL.out.mono (Nat.le_refl _)⟩
end Go.Proofs.YtjnjcjildiadgaaGreatDoor.Wl
