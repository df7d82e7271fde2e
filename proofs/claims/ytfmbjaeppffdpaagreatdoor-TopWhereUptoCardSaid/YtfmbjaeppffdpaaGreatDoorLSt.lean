/- strconv.AppendInt at base 10, as a function that appends to the row that it is handed: the kit's walks of it, turned so that they tell which blocks they leave alone. -/
import Derived.Test.YtfmbjaeppffdpaaGreatDoorLD
import Derived.Shelf.Strconv.AppendUint10
namespace Go.LS
set_option linter.unusedVariables false
set_option linter.unusedSimpArgs false
open Go Go.RowKit Go.Proofs Go.Shelf Go.Sort Go.Lib
structure Grew (w w' : World) (e : TypeId) (sv : Value) (n : Nat) (ys : List Value) (v' : Value) : Prop where
 owns : w'.ownsRow 0 e 1 v' n ys
 ext : Ext (fun b => sv.ownBlock = some b) w w'
 blk : v'.ownBlock = sv.ownBlock ∨ ∀ b, v'.ownBlock = some b → w.heap.size ≤ b
theorem Grew.trans {w w1 w2 : World} {e : TypeId} {sv v1 v2 : Value} {n m : Nat} {ys zs : List Value} (h : Grew w w1 e sv n ys v1) (k : Grew w1 w2 e v1 m zs v2) : Grew w w2 e sv m zs v2 where
 owns := k.owns
 ext := h.ext.grow k.ext (fun b hb => by
  rcases h.blk with h1 | h1
  ·exact .inr (h1 ▸ hb)
  ·exact .inl (h1 b hb))
 blk := by
  rcases k.blk with k1 | k1
  ·rcases h.blk with h1 | h1
   ·exact .inl (k1.trans h1)
   ·exact .inr (fun b hb => h1 b (k1 ▸ hb))
  ·exact .inr (fun b hb => Nat.le_trans h.ext.size (k1 b hb))
section
variable {P : Program} {ρ : Ren}
end
/-! ### A table of the library's, that lies below all that is written to -/
theorem tab_gz {P : Program} {w : World} {name : String} {k : IntKind} {zs : List Int} {g : Nat} (h : Lib.TabIs P w name k zs) (hg : P.globalNamed name = some g) : g + 1 ≤ w.heap.size := by
 unfold Lib.TabIs World.var? at h
 rw [hg] at h
 simp only [Option.bind_some] at h
 rcases Nat.lt_or_ge g w.heap.size with h' | h'
 ·exact h'
 ·rw [Array.getElem?_eq_none h'] at h; simp at h
theorem tab_gs {P : Program} {w w' : World} {name : String} {k : IntKind} {zs : List Int} {g : Nat} (hg : P.globalNamed name = some g) (hb : Below (g + 1) w w') (h : Lib.TabIs P w name k zs) : Lib.TabIs P w' name k zs := by
 unfold Lib.TabIs World.var? at h ⊢
 rw [hg] at h ⊢
 simp only [Option.bind_some] at h ⊢
 rw [hb.block g (Nat.lt_succ_self _)]
 exact h
end Go.LS
