/- Stream: what Listen gathers, as it lies. -/
import Derived.Test.YtlbpmepifegeiaaFdsT
namespace Go.Proofs.Ytlbpmepifegeiaa
set_option linter.unusedVariables false
open Go.RowKit

/-- the pieces, one behind the other -/
inductive Lis (r : Rl) : List Nat → Ms → List (List Nat) → List (List Fo) → List Bool → List Nat → Ms → Prop
  | nil (B : List Nat) (m : Ms) : Lis r B m [] [] [] B m
  | snoc {B : List Nat} {m : Ms} {pss : List (List Nat)} {fss : List (List Fo)} {los : List Bool} {C : List Nat} {m1 m2 : Ms} {ps : List Nat} {f : List Fo} :
    Lis r B m pss fss los C m1 → Run r (C ++ par ps) m1 f m2 → Lis r B m (pss ++ [ps]) (fss ++ [f]) (los ++ [m2.lo]) (C ++ par ps) m2

/-- two lists, one by one -/
inductive All2 {α β : Type} (R : α → β → Prop) : List α → List β → Prop
  | nil : All2 R [] []
  | cons {a : α} {b : β} {l : List α} {m : List β} : R a b → All2 R l m → All2 R (a :: l) (b :: m)
abbrev Hd := Option Addr × Nat × Nat
def hv (h : Hd) : Value := .slice h.1 h.2.1 h.2.2
/-- a list of what was found, out of the way of what will be turned -/
structure HdrAt (W : World) (B0 : Nat) (Bad : Nat → Prop) (h : Hd) (F : List Fd) : Prop where
  row : W.ownsRow B0 35 4 (hv h) h.2.1 (fcs F)
  len : h.2.1 = F.length
  ins : ∀ f ∈ F, f.In W B0
  off : ∀ k, (hv h).ownBlock = some k → ¬ Bad k
  offs : ∀ f ∈ F, ∀ k, (Value.slice f.da f.dn f.dc).ownBlock = some k → ¬ Bad k
theorem own_lt {W : World} {B e s n : Nat} {v : Value} {xs : List Value} (h : W.ownsRow B e s v n xs) {k : Nat} (hk : v.ownBlock = some k) : k < W.heap.size := by
  rcases h.2 with ⟨rfl, _⟩ | ⟨g, cap, cur, rfl, _, hg, _⟩
  · simp [Value.ownBlock] at hk
  · cases hk; exact row_lt hg
theorem HdrAt.kept {W W' : World} {B0 : Nat} {Bad Bad' S : Nat → Prop} {h : Hd} {F : List Fd} (x : HdrAt W B0 Bad h F) (hk : KeptP S W W') (hS : ∀ k, k < W.heap.size → S k → Bad k) (hB : ∀ k, k < W.heap.size → Bad' k → Bad k) : HdrAt W' B0 Bad' h F :=
  ⟨hk.own x.row (fun k he hs => x.off k he (hS k (own_lt x.row he) hs)), x.len, fun f hf => ⟨hk.own (x.ins f hf).1 (fun k he hs => x.offs f hf k he (hS k (own_lt (x.ins f hf).1 he) hs)), (x.ins f hf).2⟩,
    fun k he hb => x.off k he (hB k (own_lt x.row he) hb), fun f hf k he hb => x.offs f hf k he (hB k (own_lt (x.ins f hf).1 he) hb)⟩

/-- the lists, one a piece -/
structure ColAt (W : World) (B0 : Nat) (Bad : Nat → Prop) (a : Option Addr) (n c : Nat) (hs : List Hd) (Fs : List (List Fd)) : Prop where
  row : W.ownsRow B0 33 1 (.slice a n c) n (hs.map hv)
  len : n = hs.length
  each : All2 (HdrAt W B0 Bad) hs Fs
  off : ∀ k, (Value.slice a n c).ownBlock = some k → ¬ Bad k
theorem forall2_imp {α β : Type} {R S : α → β → Prop} (h : ∀ a b, R a b → S a b) {l : List α} {m : List β} (x : All2 R l m) : All2 S l m := by
  induction x with
  | nil => exact .nil
  | cons a _ ih => exact .cons (h _ _ a) ih
theorem forall2_snoc {α β : Type} {R : α → β → Prop} {l : List α} {m : List β} (x : All2 R l m) {a : α} {b : β} (h : R a b) : All2 R (l ++ [a]) (m ++ [b]) := by
  induction x with
  | nil => exact .cons h .nil
  | cons a _ ih => exact .cons a ih
theorem ColAt.kept {W W' : World} {B0 : Nat} {Bad Bad' S : Nat → Prop} {a : Option Addr} {n c : Nat} {hs : List Hd} {Fs : List (List Fd)} (x : ColAt W B0 Bad a n c hs Fs) (hk : KeptP S W W') (hS : ∀ k, k < W.heap.size → S k → Bad k) (hB : ∀ k, k < W.heap.size → Bad' k → Bad k) : ColAt W' B0 Bad' a n c hs Fs :=
  ⟨hk.own x.row (fun k he hs => x.off k he (hS k (own_lt x.row he) hs)), x.len, forall2_imp (fun _ _ y => y.kept hk hS hB) x.each, fun k he hb => x.off k he (hB k (own_lt x.row he) hb)⟩
theorem ColAt.nil (W : World) (B0 : Nat) (Bad : Nat → Prop) : ColAt W B0 Bad none 0 0 [] [] := ⟨World.ownsRow_nil _ _ _ _, rfl, .nil, fun k h => by simp [Value.ownBlock] at h⟩

/-- the pieces, as they lie -/
structure PcsAt (W : World) (pa : Option Addr) (pn pc : Nat) (hs : List Hd) (pss : List (List Nat)) : Prop where
  rd : Rd W pa pn pc (hs.map hv)
  each : All2 (fun (h : Hd) ps => Rd W h.1 h.2.1 h.2.2 (vb ps) ∧ AllB ps) hs pss
end Go.Proofs.Ytlbpmepifegeiaa
