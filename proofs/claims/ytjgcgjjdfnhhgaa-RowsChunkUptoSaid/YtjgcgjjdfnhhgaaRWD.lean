/- What arguments read as: lists and numbers; the bound on their bulk. -/
import Derived.Test.YtjgcgjjdfnhhgaaLSz
import Derived.Test.YtjgcgjjdfnhhgaaRW1
import Derived.Test.YtjgcgjjdfnhhgaaRows
import Derived.KernelRfl
namespace Go.LS.Tryr
open Go Go.LS Go.RowKit
set_option maxRecDepth 100000

mutual
theorem bulk_eq {H : Type} : ∀ d : DataW H, Go.Proofs.Ytjgcgjjdfnhhgaa.Rows.uptoBulk d = blk d
  | .lit l => by cases l <;> rfl
  | .nil => rfl
  | .ptr d => by simp only [Go.Proofs.Ytjgcgjjdfnhhgaa.Rows.uptoBulk, blk, bulk_eq d]
  | .slice e s => by simp only [Go.Proofs.Ytjgcgjjdfnhhgaa.Rows.uptoBulk, blk, bulks_eq e, bulks_eq s]
  | .agg p => by simp only [Go.Proofs.Ytjgcgjjdfnhhgaa.Rows.uptoBulk, blk, bulks_eq p]
  | .iface _ d => by simp only [Go.Proofs.Ytjgcgjjdfnhhgaa.Rows.uptoBulk, blk, bulk_eq d]
  | .map e => by simp only [Go.Proofs.Ytjgcgjjdfnhhgaa.Rows.uptoBulk, blk, bulkEs_eq e]
  | .held _ => rfl
theorem bulks_eq {H : Type} : ∀ l : List (DataW H), Go.Proofs.Ytjgcgjjdfnhhgaa.Rows.uptoBulkAll l = blks l
  | [] => rfl
  | d :: r => by simp only [Go.Proofs.Ytjgcgjjdfnhhgaa.Rows.uptoBulkAll, blks, bulk_eq d, bulks_eq r]
theorem bulkEs_eq {H : Type} : ∀ l : List (Lit × DataW H), Go.Proofs.Ytjgcgjjdfnhhgaa.Rows.uptoBulkEntries l = blkEs l
  | [] => rfl
  | d :: r => by simp only [Go.Proofs.Ytjgcgjjdfnhhgaa.Rows.uptoBulkEntries, blkEs, bulkE_eq d, bulkEs_eq r]
theorem bulkE_eq {H : Type} : ∀ x : Lit × DataW H, Go.Proofs.Ytjgcgjjdfnhhgaa.Rows.uptoBulkEntry x = blkE x
  | (l, d) => by cases l <;> simp only [Go.Proofs.Ytjgcgjjdfnhhgaa.Rows.uptoBulkEntry, blkE, bulk_eq d]
end
theorem bound {H : Type} {l : List (DataW H)} (hk : Go.Proofs.Ytjgcgjjdfnhhgaa.Rows.uptoSmall H l = true) : blks l ≤ 1048576 := by
  rw [← bulks_eq]
  exact of_decide_eq_true hk

theorem rdI (n : Nat) : Rd Go.Proofs.Try.prog n 22 (fun l : List Int => [rowD l]) (fun l => sumOf (fun _ => 1) l + 1) (fun l => ∀ a ∈ l, inK .i64 a) :=
  Rd.slice (sz := 1) (e := nD) ok22.und (by kernel_rfl) (by decide) (fun _ => rfl) (Rd.int ok3.und)
theorem sum_one : ∀ l : List Int, sumOf (fun _ => 1) l = l.length
  | [] => rfl
  | _ :: l => by simp only [sumOf, sum_one l, List.length_cons]; omega
/-- A function that is handed nothing of others'. -/
theorem spec_of {f : FuncId} {args : List LV} {r0 : LV} (h : SpecG V f args Gh.emp fun r _ => r = r0) (hd : dataL r0 = true) : Spec V f args r0 := by
  refine ⟨h.1, hd, fun w E us _ hE hdat => ?_⟩
  refine (h.2 w E (fun _ => False) us (fun _ h => h) (fun _ h => h.elim) hE hdat).mono ?_
  rintro e w' ⟨v, r, G', E', rfl, rfl, _, h1, h2, h3, h4⟩
  have h5 : dlv w' (ownA E (fun _ => False) E') (none0 E) [] r v := dlv_toData hd h4
  exact ⟨v, rfl, h2.weaken fun _ _ h => h.elim, dlv_O (O := ownA E (fun _ => False) E') (O' := E) (fun b hb => .inl ⟨hb, id⟩) h5⟩
end Go.LS.Tryr
