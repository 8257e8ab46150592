/- TopRinging: the round that rings a letter: the row grows in its box. -/
import Derived.Test.YtplekfgadbjgdaaQTopRinging0
import Derived.Test.YtplekfgadbjgdaaQTopRinging1
import Derived.Test.YtplekfgadbjgdaaQTopRinging2
import Derived.Test.YtplekfgadbjgdaaQTopRinging3
import Derived.Test.YtplekfgadbjgdaaQTopRinging4
import Derived.Test.YtplekfgadbjgdaaQTopRinging5
import Derived.Test.YtplekfgadbjgdaaQTopRinging8
import Derived.Test.YtplekfgadbjgdaaQTopRinging10
import Derived.Test.YtplekfgadbjgdaaQTopRinging13
import Derived.Test.YtplekfgadbjgdaaQTopRinging17
import Derived.RangeFuncNested
import Derived.RangeFuncCalls
import Derived.OrdersIn
import Derived.OrdersHeld
import Derived.Deep.RegionHeld
namespace Go.Proofs.Ytplekfgadbjgdaa
open Go.RowKit Go.Sl

theorem rowsIn_wide' {n : Nat} {P : Program} {row : String} {args : Array Value} {w : World} {R : Value → World → Prop} (h : Rows P row args w R) : RowsIn Fence.wide n P row args w R :=
  fun c cs _ => let ⟨v, w', r, s⟩ := h c cs; ⟨v, w', r, stepsIn_wide.2 s⟩

theorem wpIn_round_of_wp {n : Nat} {P : Program} {o : Oper} {a : Act} {w : World} {K : Act → World → Prop} {Q : Exit → Act → World → Prop} {l : Nat} (hd : ∀ c, o.op ≠ .defer c) (h : o.wp P a w K Q) :
    o.wpIn (Fence.wide.inRound l) n P a w K Q := by
  refine ⟨fun _ _ => trivial, ?_⟩
  rw [Fence.inRound_round, Oper.semAt_some _ _ _ hd]
  unfold Oper.wp at h
  generalize (execOp a.eval o).run P w = r at *
  cases r with
  | ok x w' =>
    cases x <;> simp only [Oper.upon, Oper.uponIn] at h ⊢ <;>
      first
        | exact h
        | exact ⟨fun h => by simp [Fence.wide] at h, CallsIn.inRound l (callsIn_wide.2 h)⟩
        | exact ⟨fun h => by simp [Fence.wide] at h, rowsIn_wide' h⟩
  | halt x w' => cases x <;> simp only [Oper.upon, Oper.uponIn] at h ⊢ <;> exact h

/-- No operation of the region defers a call. -/
def noDefer (ops : Array Oper) : Bool := ops.all fun o => match o.op with | .defer _ => false | _ => true
theorem noDefer_spec {ops : Array Oper} (h : noDefer ops = true) {i : Nat} {o : Oper} (ho : ops[i]? = some o) : ∀ c, o.op ≠ .defer c := by
  intro c e
  obtain ⟨hi, rfl⟩ := Array.getElem?_eq_some_iff.1 ho
  have := (Array.all_eq_true.1 h) i hi
  rw [e] at this
  cases this

theorem wpAnyIn_of_wpAny {n : Nat} {P : Program} {md : Region.Mode} {ops : Array Oper} {Q : Exit → Act → World → Prop} {l : Nat} (hno : ¬ LetsOut Q) (hd : noDefer ops = true) : ∀ (fuel : Nat) (listed : Array Bool) (a : Act) (w : World),
    wpAny P md ops Q fuel listed a w → wpAnyIn (Fence.wide.inRound l) n P md ops Q fuel listed a w := by
  intro fuel
  induction fuel with
  | zero => exact fun _ _ _ h => h
  | succ fuel ih =>
    intro listed a w h
    refine ⟨h.1, fun i hi => ?_⟩
    have h1 := h.2 i hi
    unfold wpOp at h1
    unfold wpOpIn
    cases ho : ops[i]? with
    | none => rw [ho] at h1; exact ih _ _ _ h1
    | some o =>
      rw [ho] at h1
      simp only at h1 ⊢
      split
      · rename_i hw
        rw [if_pos hw] at h1
        rcases h1 with h1 | h1
        · exact wpIn_round_of_wp (noDefer_spec hd ho) (Oper.wp_mono (fun a w => ih _ a w) h1)
        · exact absurd h1.2 hno
      · rename_i hw
        rw [if_neg hw] at h1
        exact ⟨fun _ _ => trivial, ih _ _ _ h1⟩

/-- **The beginning**, within a round. -/
theorem wpIn_region_held {n : Nat} {P : Program} {ops : Array Oper} {Q : Exit → Act → World → Prop} {l id : Nat} {a : Act} {w : World} (S : World → Prop) (N : Nat) (hN : ops.size = N) (hm : P.follows .mixedOrders = true) (hd : noDefer ops = true) (hno : ¬ LetsOut Q) (hS : S w.drew)
    (h : S w.drew → wpAnyH P .any ops Q S N (Array.replicate N false) a w.drew) : (Code.region id ops true).wpIn (Fence.wide.inRound l) n P Q a w := by
  subst hN
  exact wpIn_region_any hm (wpAnyIn_of_wpAny hno hd _ _ _ _ (wpAny_of_held _ _ _ _ (h hS)))

section
variable {P : Program} {md : Region.Mode} {ops : Array Oper} {Q : Exit → Act → World → Prop} {S : World → Prop} {fuel : Nat} {listed : Array Bool} {a : Act} {w : World}
end

end Go.Proofs.Ytplekfgadbjgdaa

namespace Go.Proofs.Ytplekfgadbjgdaa
open Go.RowKit Go.Sl

theorem row_ne_boxT {w : World} {B b : Nat} {v x : Value} {xs : List Int} {t : TypeId} (ho : OwnI w B v xs) (hb : w.heap[b]? = some (.cells #[x] t (0, 0))) (ht : t ≠ 3) : Go.Sl.row v ≠ some b := fun hr => by
  obtain ⟨h0, rfl⟩ := row_eq hr
  obtain ⟨_, _, cur', hh, _⟩ := ho.2.2 h0
  rw [hh] at hb
  injection hb with hb
  injection hb with h1 h2
  exact ht h2.symm
theorem ownI_keptT {W W' : World} {B : Nat} {u : Value} {xs : List Int} {r : Option Nat} (h : OwnI W B u xs) (hg : W.grownBy W' r) (hr : ∀ k, r = some k → ∃ o : Obj, W.heap[k]? = some o ∧ o.isCells = false) : OwnI W' B u xs := by
  refine Go.Sl.Own.grown h hg fun k hk e => ?_
  obtain ⟨o, ho, hc⟩ := hr _ e
  obtain ⟨h0, hb⟩ := row_eq hk
  obtain ⟨_, _, cur, hh, _⟩ := h.2.2 h0
  rw [hb, ho] at hh
  cases hh
  cases hc
theorem rung_from {B B' RB : Nat} {f : Nat → Int} : OwnFrom B' (fun (pre : List Nat) W => ∃ x, Boxed W RB 22 x ∧ OwnI W B x (pre.map f)) :=
  fun _s W W' row ⟨x, h1, h2⟩ hg hr => ⟨x, boxed_own (β := Unit) _ _ (fun _ => x) () W W' row h1 hg (fun r e => (hr r e).2), ownI_keptT h2 hg (fun r e => (hr r e).2)⟩
theorem boxed_below' {W W' : World} {B : Nat} {t : TypeId} {v : Value} (h : Boxed W B t v) (hb : Below W.heap.size W W') : Boxed W' B t v := (hb.block B h.lt).trans h
theorem rung_box {W w2 : World} {RB : Nat} {y : Value} {xs : List Int} (hu : Boxed W RB 22 y) (ho : OwnI W RB y xs) (hg : W.drew.grownBy w2 (Go.Sl.row y)) : w2.heap[RB]? = some (.cells #[y] 22 (0, 0)) :=
  (hg.block _ hu.lt (Ne.symm (row_ne_boxT ho hu (by decide)))).trans hu
theorem rung_step {w W w2 : World} {RB E : Nat} {y v2 yv : Value} {xs : List Int} {z : Int} (hw : w.heap.size ≤ RB) (hB : Below w.heap.size w W) (hu : Boxed W RB 22 y) (hbx : Boxed W (RB + 1) 22 yv) (ho : OwnI W RB y xs) (ho2 : OwnI w2 RB v2 (xs ++ [z])) (hg : W.drew.grownBy w2 (Go.Sl.row y)) :
    KeepsFrom E W (w2.setCell ⟨RB, 0, none⟩ v2) ∧ KeepB RB (RB + 1) W (w2.setCell ⟨RB, 0, none⟩ v2) ∧ (((∃ x, Boxed (w2.setCell ⟨RB, 0, none⟩ v2) RB 22 x ∧ OwnI (w2.setCell ⟨RB, 0, none⟩ v2) RB x (xs ++ [z])) ∧ Boxed (w2.setCell ⟨RB, 0, none⟩ v2) (RB + 1) 22 yv) ∧ Below w.heap.size w (w2.setCell ⟨RB, 0, none⟩ v2)) := by
  have h1 := rung_box hu ho hg
  have h2 : w2.heap[RB + 1]? = some (.cells #[yv] 22 (0, 0)) := (hg.block _ hbx.lt (Ne.symm (row_ne_boxT ho hbx (by decide)))).trans hbx
  have h3 : (w2.setCell ⟨RB, 0, none⟩ v2).heap[RB + 1]? = some (.cells #[yv] 22 (0, 0)) := (Below.heap_setCell w2 ⟨RB, 0, none⟩ v2 _ (by show RB + 1 ≠ RB; omega)).trans h2
  have hlt := hu.lt
  have low : Below RB W (w2.setCell ⟨RB, 0, none⟩ v2) := by
    have q1 : Below RB W W.drew := ((Below.refl _ _).drew)
    exact (q1.grown hg (by show RB ≤ W.heap.size; omega) fun k hk => (ho.lt k hk).1).setCell (p := ⟨RB, 0, none⟩) (Nat.le_refl _) _
  refine ⟨?_, ⟨low, h3.trans (show W.heap[RB + 1]? = _ from hbx).symm⟩, ⟨⟨v2, one_setCell h1, ho2.setOther (fun k hk => ?_) _⟩, h3⟩, hB.trans (low.mono hw)⟩
  · refine KeepsFrom.trans ⟨hg.size, fun k o _ hk hc => ?_⟩ ((KeepsOthers.setCell _ _ _).from _)
    refine (hg.block k (Array.getElem?_eq_some_iff.1 hk).1 fun e => ?_).trans hk
    obtain ⟨h0, rfl⟩ := row_eq e.symm
    obtain ⟨_, _, cur', hh, _⟩ := ho.2.2 h0
    rw [hh] at hk
    cases hk
    cases hc
  · have := row_ne_boxT ho2 h1 (by decide)
    intro e
    exact this (by rw [hk]; exact congrArg some e.symm)
/-- What is asked of a panic does not hang on a slot that is no result. -/
theorem leavesM_slot {F : Fence} {n : Nat} {P : Program} {fn : Func} {R : Ending → World → Prop} {tmps : Array Value} {v : Value} {d t0 : Tmp} (hres : fn.results = #[.tmp t0]) (hd : d ≠ t0) : ∀ (ds : List Deferred) (u : FrameMode) (w : World), LeavesInM F n P fn (tmps.setIfInBounds d v) R ds u w → LeavesInM F n P fn tmps R ds u w
  | [], u, w => fun h => by
    cases u with
    | run => exact h
    | panicking c => exact h
    | returning =>
      obtain ⟨x, h1, h2⟩ := h
      rw [results_tmp hres] at h1
      have e : (tmps.setIfInBounds d v).getD t0 undef = tmps.getD t0 undef := by
        simp only [Array.getD_eq_getD_getElem?, Array.getElem?_setIfInBounds_ne hd]
      rw [e] at h1
      exact ⟨x, by rw [results_tmp hres]; exact h1, h2⟩
  | x :: ds, u, w => fun ⟨hu, h⟩ => ⟨hu, h.imp (fun ⟨r, w', h1, h2, h3⟩ => ⟨r, w', h1, h2, leavesM_slot hres hd ds u w' h3⟩)
      (fun ⟨h1, fv, cap, f, args, h2, h3, h4, h5⟩ => ⟨h1, fv, cap, f, args, h2, h3, h4, h5.mono fun e u' w' he => by
        cases e with
        | returned y => exact leavesM_slot hres hd ds _ w' he
        | panicked c => exact leavesM_slot hres hd ds _ w' he
        | outgrown => exact he⟩)⟩
theorem panicM_put {F : Fence} {n : Nat} {P : Program} {fn : Func} {R : Ending → World → Prop} {a : Act} {v : Value} {d t0 : Tmp} {w : World} {c : List PanicEntry} (hres : fn.results = #[.tmp t0]) (hd : d ≠ t0) (h : bodyPostM F n P fn R (.panic c) (a.put (some d) v) w) : bodyPostM F n P fn R (.panic c) a w :=
  leavesM_slot hres hd _ _ _ h
end Go.Proofs.Ytplekfgadbjgdaa

