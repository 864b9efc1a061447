/- GuardLatches: a tick of the law, joined. -/
import Derived.Test.YtkgnelmnadnbhaaLawT8
namespace Go.Proofs.Ytkgnelmnadnbhaa
set_option linter.unusedVariables false
open Go.RowKit

theorem whyL_eq (sil most cnt quiet : Nat) (why : Int) : whyL sil most cnt quiet why = whyS sil quiet (whyM most cnt why) := rfl
/-- the statements behind the counting -/
theorem law_tail (C : Cx) (hC : C.Ok) (V N vb : Nat) (lv tv nv : Value) (quiet i cnt : Nat) (why : Int) (wrong : Bool) (s s' : St) (v v' : Vs) (names : List ByteArray) (na : Option Addr) (nc : Nat) (W0 : World)
    (hi : i < C.nL) (hb : Below C.w0.heap.size C.w0 W0) (hcnt : cnt ≤ 3000) (hq : quiet ≤ 1000)
    (hg : W0.heap[C.H]? = some (.cells #[.slice (some ⟨C.gb, 0, none⟩) C.n C.cap, .int .i64 (C.sil : Int), .int .i64 (C.most : Int), .int .i64 (C.win : Int), .string C.nam] 27))
    (hv : W0.heap[V]? = some (.cells (vRow C.n s v) 33)) (hn : W0.heap[N]? = some (.cells (vRow C.n s' v') 33)) (hnv : nv = .slice na names.length nc) (hnm : Rd W0 na names.length nc (vsS names)) (hl : names.length ≤ 100)
    (h1 : s.safe = true → leavesL s.safe (C.lk i).leave (C.lk i).heard wrong = false → s'.safe = true ∧ s'.why = s.why) (h2 : leavesL s.safe (C.lk i).leave (C.lk i).heard wrong = true → s'.safe = false) (h3 : s.safe = false → s'.why = whyL C.sil C.most cnt quiet why ∧ s'.safe = decide (s'.why ≠ -1))
    (hmd : (s'.safe && !s.safe) = decide (names.getD 0 ByteArray.empty = C.nam)) :
    Tri Try.prog 332 (pieceOf Try.f3 [1, 1, 1, 1, 1, 1, 1, 1, 1, 1, 1, 0, 1, 0, 0, 1, 0, 0, 1, 1, 1, 1, 1, 1, 1, 1, 1, 1]) (fun y w => SX C y V N vb lv tv nv quiet i C.n why wrong ∧ y 30 = .int .i64 (cnt : Int) ∧ w = W0)
      (fun _ _ y w => SL C y V lv (if leavesL s.safe (C.lk i).leave (C.lk i).heard wrong = true then .slice none 0 0 else tv) quiet i ∧ w.heap[V]? = some (.cells (vRow C.n s' v') 33) ∧ W0.grownBy w (some V)) := by
  rintro Q y w ⟨hS, h30, rfl⟩ hQ
  refine wp_seq (law_50 C hC V N vb lv tv nv quiet i why wrong w cnt hcnt hg _ y w ⟨hS, h30, rfl⟩ ?_)
  rintro y1 w1 ⟨hS1, rfl⟩
  refine wp_seq (law_52 C hC V N vb lv tv nv quiet i _ wrong w1 hq hg _ y1 w1 ⟨hS1, rfl⟩ ?_)
  rintro y2 w2 ⟨hS2, rfl⟩
  rw [← whyL_eq] at hS2
  refine wp_seq (law_54 C hC V N vb lv tv nv quiet i _ wrong w2 s v hv hi hb _ y2 w2 ⟨hS2, rfl⟩ ?_)
  rintro y3 w3 ⟨hS3, h32, rfl⟩
  have hle : leavesL s.safe (C.lk i).leave (C.lk i).heard wrong = true → s.safe = true := fun h => by
    unfold leavesL at h
    simp only [Bool.and_eq_true] at h
    exact h.1.1.1
  generalize leavesL s.safe (C.lk i).leave (C.lk i).heard wrong = le at *
  refine wp_seq (law_55 C hC V N vb lv tv nv quiet i _ wrong w3 le _ y3 w3 ⟨hS3, h32, rfl⟩ ?_)
  rintro y4 w4 ⟨hS4, h32, rfl⟩
  refine wp_seq (law_sw C hC V N vb lv _ nv quiet i _ wrong w4 le s s' v v' hv hn h1 (fun h => ⟨h2 h, hle h⟩) (fun h => by
    obtain ⟨h5, h6⟩ := h3 h
    exact ⟨h5, by rw [h6, h5]⟩) _ y4 w4 ⟨hS4, h32, rfl⟩ ?_)
  rintro y5 w5 ⟨hS5, rfl⟩
  refine wp_seq (law_65 C hC V N vb lv _ nv quiet i _ wrong w5 s s' v v' hv hn _ y5 w5 ⟨hS5, rfl⟩ ?_)
  rintro y6 w6 ⟨hS6, h33, rfl⟩
  refine wp_seq (law_66 C hC V N vb lv _ nv quiet i _ wrong w6 _ names na nc hnv hnm hl hmd _ y6 w6 ⟨hS6, h33, rfl⟩ ?_)
  rintro y7 w7 ⟨hS7, rfl⟩
  refine law_68 C hC V N vb lv _ nv quiet i _ wrong w7 s s' v v' hv hn _ y7 w7 ⟨hS7, rfl⟩ ?_
  rintro y8 w8 ⟨hS8, h8, g8⟩
  exact hQ y8 w8 ⟨hS8.sl, h8, g8⟩
end Go.Proofs.Ytkgnelmnadnbhaa
