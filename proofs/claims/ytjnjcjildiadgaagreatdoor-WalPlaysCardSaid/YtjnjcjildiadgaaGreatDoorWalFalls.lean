/- The walk of WalFalls. -/
import Derived.Test.YtjnjcjildiadgaaGreatDoorWalC
import Derived.Test.YtjnjcjildiadgaaGreatDoorFeedRows
import Derived.Deep.AppendLies
import Derived.Laws.AppendOwnNone
namespace Go.Proofs.YtjnjcjildiadgaaGreatDoor.Wl
open Go Go.RowKit Frame Oct Disk
/-- An append of a source that may be nil, at a step of a region that draws its order. -/
theorem step_append_any {P : Program} (w : World) {ops : Array Oper} {o : Oper} {a : Act} {K : Act → World → Prop} {Q : Exit → Act → World → Prop} {E : Prop} (hgd : o.guard = none) (s x : Operand) (t : TypeId)
    (ho : o.op = .call { callee := .builtin .append, args := #[s, x], argTypes := #[t, t] })
    (base : Nat) (e : TypeId) (i : TypeInfo) (z : Value) (size bytes : Nat) (ht : P.underlying t = some (.slice e)) (hi : P.info? e = some i) (hz : i.zero = some z)
    (hsize : i.size = size) (hby : i.bytes = bytes) (hzs : z.cells.size = size) (hsz : 0 < size)
    (v : Value) (n : Nat) (xs : List Value) (hs : a.eval s = v) (hown : w.ownsRow base e size v n xs)
    (ao : Option Addr) (m c : Nat) (news : List Value) (hx : a.eval x = .slice ao m c) (hl : news.length = m * size) (hnone : ao = none → m = 0 ∧ c = 0) (hnews : ∀ ad, ao = some ad → ∀ j u, news[j]? = some u → w.cell? (ad.add j) = some u) (h1 : ∀ u ∈ news, u.oneCell' = true)
    (h63 : n + m ≤ maxLen) (hbytes : (n + m) * bytes ≤ 140737488355328) (hbase : base ≤ w.heap.size)
    (h : ∀ v' w', w'.ownsRow base e size v' (n + m) (xs ++ news) → w.grownBy w' v.ownBlock → K (a.put o.dst v') w') :
    if Region.wanted o (yielded ops a.tmps) = true then Oper.wp P o a w K Q else E := by
  have hw : Region.wanted o (yielded ops a.tmps) = true := by simp [Region.wanted, hgd]
  rw [if_pos hw]
  cases ao with
  | some ad => exact wp_append_own w s x t ho base e i z size bytes ht hi hz hsize hby hzs hsz v n xs hs hown ad m c news hx hl (hnews ad rfl) h1 h63 hbytes hbase (fun v' w' a b _ => h v' w' a b)
  | none =>
    obtain ⟨rfl, rfl⟩ := hnone rfl
    have hn : news = [] := List.eq_nil_of_length_eq_zero (by simpa using hl)
    subst hn
    have hrun := run_append_owned_none (P := P) (w := w) base t o.type e i size ht hi v n xs hown
    unfold Oper.wp
    simp [execOp, ho, resolve, invoke, builtin, hs, hx, hrun, Result.andThen]
    exact h v w (by simpa using hown) (World.grownBy.refl _ _)
/-- A box that holds an act. -/
def Box (b : Nat) (x : WAct) (w : World) : Prop := Has b (aCells x) 40 w
section
variable {b : Nat} {x : WAct} {w : World}
theorem Box.c0 (h : Box b x w) : w.cell? ⟨b, 0, none⟩ = some (.int .u8 x.kind.toNat) := Has.cell h 0
theorem Box.c1 (h : Box b x w) : w.cell? ⟨b, 1, none⟩ = some (.slice x.ad x.recs.length x.cap) := Has.cell h 1
theorem Box.c2 (h : Box b x w) : w.cell? ⟨b, 2, none⟩ = some (.int .i64 x.at_) := Has.cell h 2
theorem Box.c3 (h : Box b x w) : w.cell? ⟨b, 3, none⟩ = some (.int .i64 x.cut) := Has.cell h 3
end
theorem ST.ss {A : Option Addr} {n c : Nat} {l : List (List UInt8)} {w : World} (h : ST (.slice A n c) l w) : Sg.SS A l w := by
  obtain ⟨A', c', e, -, -, -, -, hs⟩ := h.sv
  injection e with e1
  subst e1
  exact hs
theorem used_le_len (a : List (List UInt8)) : a.length * 9 ≤ Sg.used a := Sg.used_len a
end Go.Proofs.YtjnjcjildiadgaaGreatDoor.Wl
