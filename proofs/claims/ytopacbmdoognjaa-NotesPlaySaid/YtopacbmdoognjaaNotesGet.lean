/- Notes.Total, Get, All; Light. -/
import Derived.Test.YtopacbmdoognjaaNotesAdd
namespace Go.Proofs.Ytopacbmdoognjaa.Not
open Go Go.RowKit Frame
/-- The note of a number. -/
def getN (tot : Nat) (l : List Nt) (k : Nat) : Nt × Bool := if k ≤ tot - l.length ∨ tot < k then (Nt.zero, false) else (l.getD (k - (tot - l.length) - 1) default, true)
theorem Total_calls (tot : Nat) (v : Value) (w : World) :
    Calls Try.prog 59 #[.agg #[.int .u64 (tot : Int), v]] w fun e w' => e = .returned (.int .u64 (tot : Int)) ∧ Below w.heap.size w w' := by
  go_enter Try.func59, Try.ntmps59
  go_wp2
  go_ret
  exact ⟨rfl, (Below.refl _ _).alloc (Nat.le_refl _) _⟩
theorem two2 (w : World) (o0 o1 : Obj) : Below w.heap.size w ((w.alloc o0).alloc o1) := ((Below.refl w.heap.size w).alloc (by simp) _).alloc (by simp) _
/-- What a call owns, or nil, reads as these notes. -/
theorem NS.of_own {base n : Nat} {e : TypeId} {v : Value} {l : List Nt} {w : World} (h : w.ownsRow base e 3 v n (css l)) : NS v l w := by
  have hn : n = l.length := by have := h.1; rw [css_length] at this; omega
  subst hn
  rcases h.2 with ⟨rfl, h0⟩ | ⟨g, cap, cur, rfl, _⟩
  · obtain rfl := List.length_eq_zero_iff.1 h0
    exact NS.nil w
  · have := Nts.of_own h 0 (Nat.zero_le _)
    rw [Nat.zero_mul, List.drop_zero] at this
    exact ⟨_, cap, rfl, (fun h => by cases h), this⟩
theorem news_of_nts {A : Option Addr} {l : List Nt} {w : World} (h : Nts A l w) (ad : Addr) (ha : A = some ad) : ∀ j u, (css l)[j]? = some u → w.cell? (ad.add j) = some u := h.cells ad ha
set_option maxRecDepth 100000 in
set_option maxHeartbeats 1000000 in
theorem Clone_calls (v : Value) (l : List Nt) (hl : l.length ≤ 1000) (w : World) (h : NS v l w) :
    Calls Try.prog 86 #[v] w fun e w' => ∃ v', e = .returned v' ∧ NS v' l w' ∧ Below w.heap.size w w' := by
  obtain ⟨i0, hi0, hz0, hz1, hz2⟩ := info_parts infoN
  obtain ⟨A, c, rfl, hA, hN⟩ := h
  have hcm := fun W => Lib.run_eql_slice_nil (P := Try.prog) W 71 76 A l.length c 0 0 Try.underlying71
  cases A with
  | none =>
    obtain ⟨h0, rfl⟩ := hA rfl
    obtain rfl := List.length_eq_zero_iff.1 h0
    replace hcm := fun W => (hcm W).trans (show _ = .ok (.bool true) W from rfl)
    simp only [List.length_nil] at hcm ⊢
    go_enter Try.func86, Try.ntmps86
    go_wp2
    go_ret
    exact ⟨_, rfl, NS.nil _, Below.refl _ _⟩
  | some ad =>
    replace hcm := fun W => (hcm W).trans (show _ = .ok (.bool false) W from rfl)
    have hN1 := Lib.hid (hN.below ((Below.refl w.heap.size w).alloc (Nat.le_refl _) (.cells #[] 76)))
    have hB1 := Lib.hid ((Below.refl w.heap.size w).alloc (Nat.le_refl _) (.cells #[] 76))
    have hO1 := Lib.hid (World.ownsRow_made (base := w.heap.size) (e := 76) (size := 3) w #[] 0 (Nat.le_refl _) (by unfold maxLen; omega) (by simp))
    go_enter Try.func86, Try.ntmps86
    go_wp2_with (at_builtin; refine wpList_append_own _ rfl _ _ _ rfl w.heap.size 76 i0 _ 3 32 Try.underlying71 hi0 hz0 hz1 hz2 rfl (by omega) (.slice (some ⟨w.heap.size, 0, none⟩) 0 0) 0 [] rfl hO1.out ad l.length c (css l) rfl (css_length l) (fun j u hu => hN1.out.cells ad rfl j u hu) (css_oneCell l) (by unfold maxLen; omega) (by omega) (by simp) ?_; intro v3 w3 hown3 hgrow3 hnil3; have O3 := Lib.hid hown3; have B3 := Lib.hid (below_grown hB1.out hgrow3 (by simp) (fun g hg => by simp [Value.ownBlock] at hg; omega)); have N3 := Lib.hid hnil3; clear hown3 hgrow3 hnil3)
    go_ret
    refine ⟨v3, rfl, ?_, B3.out⟩
    have h3 := O3.out
    rw [Nat.zero_add, List.nil_append] at h3
    exact NS.of_own h3
theorem All_calls (tot : Nat) (v : Value) (l : List Nt) (hl : l.length ≤ 1000) (w : World) (h : NS v l w) :
    Calls Try.prog 58 #[.agg #[.int .u64 (tot : Int), v]] w fun e w' => ∃ v', e = .returned v' ∧ NS v' l w' ∧ Below w.heap.size w w' := by
  have hb := (Below.refl w.heap.size w).alloc (Nat.le_refl _) (.cells #[.int .u64 (tot : Int), v] 74)
  have HC := Lib.hid (Clone_calls v l hl _ (h.below hb))
  have HB := Lib.hid hb
  clear h hb
  go_enter Try.func58, Try.ntmps58
  go_wp2_with fail
  refine HC.out.mono ?_
  rintro e w1 ⟨v1, rfl, h1, b1⟩
  have F := Lib.hid (And.intro h1 (bthen HB.out b1))
  clear h1 b1
  go_wp2_with fail
  go_ret
  exact ⟨v1, rfl, F.out.1, F.out.2⟩
set_option maxRecDepth 100000 in
set_option maxHeartbeats 1000000 in
theorem Get_calls (tot : Nat) (ht : tot < 18446744073709551616) (l : List Nt) (hl : l.length ≤ 1000) (hle : l.length ≤ tot) (v : Value) (k : Nat) (hk : k < 18446744073709551616) (w : World) (h : NS v l w) :
    Calls Try.prog 60 #[.agg #[.int .u64 (tot : Int), v], .int .u64 (k : Int)] w fun e w' =>
      e = .returned (.tuple #[NV (getN tot l k).1, .bool (getN tot l k).2]) ∧ Below w.heap.size w w' := by
  obtain ⟨A, c, rfl, hA, hN⟩ := h
  have hcv : IntKind.u64.wrap (l.length : Int) = l.length := by rw [IntKind.wrap_u64]; omega
  have hsub : IntKind.u64.wrap ((tot : Int) - l.length) = ((tot - l.length : Nat) : Int) := by rw [IntKind.wrap_u64]; omega
  by_cases h1 : k ≤ tot - l.length
  · have HE := Lib.hid (show getN tot l k = (Nt.zero, false) from if_pos (.inl h1))
    go_enter Try.func60, Try.ntmps60
    go_wp2_with fail
    refine bodyPost_ret (v := .tuple #[NV Nt.zero, .bool false]) (by simp [results, Try.results60, go_sem, NV, Nt.zero]) rfl ?_
    rw [HE.out]
    exact ⟨rfl, two2 w _ _⟩
  · by_cases h2 : tot < k
    · have HE := Lib.hid (show getN tot l k = (Nt.zero, false) from if_pos (.inr h2))
      go_enter Try.func60, Try.ntmps60
      go_wp2_with fail
      refine bodyPost_ret (v := .tuple #[NV Nt.zero, .bool false]) (by simp [results, Try.results60, go_sem, NV, Nt.zero]) rfl ?_
      rw [HE.out]
      exact ⟨rfl, two2 w _ _⟩
    · have HE := Lib.hid (show getN tot l k = (l.getD (k - (tot - l.length) - 1) default, true) from if_neg (by omega))
      obtain ⟨b, off, rfl, hb, hi⟩ := hN (by omega)
      obtain ⟨c0, c1, c2⟩ := hi (k - (tot - l.length) - 1) (by omega)
      have hs1 : IntKind.u64.wrap ((k : Int) - ((tot - l.length : Nat) : Int)) = ((k - (tot - l.length) : Nat) : Int) := by rw [IntKind.wrap_u64]; omega
      have hs2 : IntKind.u64.wrap (((k - (tot - l.length) : Nat) : Int) - 1) = ((k - (tot - l.length) - 1 : Nat) : Int) := by rw [IntKind.wrap_u64]; omega
      generalize l.getD (k - (tot - l.length) - 1) default = x at *
      go_enter Try.func60, Try.ntmps60
      go_wp2_with fail
      refine bodyPost_ret (v := .tuple #[NV x, .bool true]) (by simp [results, Try.results60, go_sem, NV]) rfl ?_
      rw [HE.out]
      exact ⟨rfl, two2 w _ _⟩
end Go.Proofs.Ytopacbmdoognjaa.Not
