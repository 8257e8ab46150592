/- Every cell outside some blocks is as it was: what a region that draws, or a loop that stores, keeps. -/
import Derived.Test.YtplekfgadbjgdaaQTopSums0
import Derived.Test.YtplekfgadbjgdaaQTopSums1
import Derived.Test.YtplekfgadbjgdaaQTopSums3
import Derived.Deep.RegionHeld3
namespace Go.Proofs.Ytplekfgadbjgdaa
open Go.RowKit Go.Sl

/-- A cell of what was there is kept. -/
theorem cell_keep {W W' : World} (h : Below W.heap.size W W') {p : Addr} {u : Value} (c : W.cell? p = some u) : W'.cell? p = some u := (h.cell (World.block_lt_of_cell? W _ c)).trans c
/-- Every cell outside the blocks R is as in W. -/
def Keeps (W : World) (R : Nat → Prop) (w : World) : Prop := ∀ p u, W.cell? p = some u → ¬ R p.block → w.cell? p = some u
section
variable {W w w' : World} {R : Nat → Prop}
theorem Keeps.refl (W : World) (R : Nat → Prop) : Keeps W R W := fun _ _ h _ => h
theorem Keeps.drew (h : Keeps W R w) : Keeps W R w.drew := h
theorem Keeps.below (h : Keeps W R w) (hb : Below w.heap.size w w') : Keeps W R w' := fun p u hp hn => cell_keep hb (h p u hp hn)
theorem Keeps.alloc (h : Keeps W R w) (o : Obj) : Keeps W R (w.alloc o) := h.below ((Below.refl _ _).alloc (Nat.le_refl _) o)
theorem Keeps.trans (h : Keeps W R w) (k : Keeps w R w') : Keeps W R w' := fun p u hp hn => k p u (h p u hp hn) hn
theorem Keeps.mono {S : Nat → Prop} (h : Keeps W S w) (k : ∀ b, S b → R b) : Keeps W R w := fun p u hp hn => h p u hp (fun e => hn (k _ e))
theorem Keeps.set (h : Keeps W R w) {p : Addr} (hp : R p.block) (x : Value) : Keeps W R (w.setCell p x) := by
  intro q u hq hn
  have := h q u hq hn
  rwa [World.cell?_of_block (Below.heap_setCell w p x q.block (fun e => hn (by rw [e]; exact hp)))]
theorem Keeps.ints {v : Value} {xs : List Int} (h : Keeps W R w) (k : Ints W v xs) (hn : 0 < xs.length → ¬ R (vblk v)) : Ints w v xs := ⟨k.1, k.2.1, fun j u hu => h _ u (k.2.2 j u hu) (hn (by have := (List.getElem?_eq_some_iff.1 hu).1; simp at this; omega))⟩
end

@[go_sem ↓ high] theorem vat_succ (v : Value) (j : Nat) : (⟨(vat v j).block, (vat v j).off + 1, none⟩ : Addr) = vat v (j + 1) := rfl
theorem cell_other (w : World) (v : Value) {i j : Nat} (h : i ≠ j) (x : Value) : (w.setCell (vat v i) x).cell? (vat v j) = w.cell? (vat v j) := World.cell?_setCell_other _ _ _ _ (fun e => h (vat_inj.1 e))
theorem frozen_other (w : World) (v : Value) (i j : Nat) (x : Value) : (w.setCell (vat v i) x).frozen? (vat v j) = w.frozen? (vat v j) := World.frozen?_setCell _ _ _ _

end Go.Proofs.Ytplekfgadbjgdaa

