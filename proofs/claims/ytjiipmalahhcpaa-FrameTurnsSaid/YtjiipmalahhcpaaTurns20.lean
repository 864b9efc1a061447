/- frame: Unpack, plain: what a frame's bytes are. -/
import Derived.Test.YtjiipmalahhcpaaTurns19
namespace Go.Proofs.Ytjiipmalahhcpaa
set_option linter.unusedVariables false
open Go.RowKit

theorem num_be1 (n : Nat) (h : n < 256) : beB n 1 1 = [n] := by
  show [n / 256 ^ 0 % 256] = [n]
  simp
  omega
theorem num_be2 (n : Nat) (h : n < 65536) : numB (beB n 2 2) = n := by
  have e : beB n 2 2 = [n / 256 ^ 1 % 256, n / 256 ^ 0 % 256] := rfl
  rw [e]
  show (0 * 256 + n / 256 ^ 1 % 256) * 256 + n / 256 ^ 0 % 256 = n
  simp
  omega
theorem num_be4 (n : Nat) (h : n < 4294967296) : numB (beB n 4 4) = n := by
  have e : beB n 4 4 = [n / 256 ^ 3 % 256, n / 256 ^ 2 % 256, n / 256 ^ 1 % 256, n / 256 ^ 0 % 256] := rfl
  rw [e]
  show (((0 * 256 + n / 16777216 % 256) * 256 + n / 65536 % 256) * 256 + n / 256 % 256) * 256 + n / 1 % 256 = n
  omega
structure UnpP (cr ch ma ow fi : Nat) (data : List Nat) (st : Nat) (bs : List Nat) (n : Nat) : Prop where
  len : bs.length = 12 + n
  all : AllB bs
  body : bs.take (10 + n) = bodyF cr ch ma ow fi data st
  sum : numB (bs.drop (10 + n)) = sumN (bodyF cr ch ma ow fi data st)
  who : numB (bs.take 2) = cr * 16 + ch * 2 + 1
  wher : numB ((bs.drop 4).take 2) = 6144 + fi
  ma : nth bs 2 = ma
  ow : nth bs 3 = ow
  data : (bs.drop 6).take n = data
  st : numB ((bs.drop (6 + n)).take 4) = st
theorem take_mid {α : Type} (a b c : List α) : ((a ++ (b ++ c)).drop a.length).take b.length = b := by
  rw [List.drop_left, List.take_left]
theorem unp (cr ch ma ow fi : Nat) (data : List Nat) (st : Nat) (h1 : cr ≤ 1023) (h2 : ch ≤ 7) (h3 : ma ≤ 255) (h4 : ow ≤ 255) (h5 : fi ≤ 2047) (h6 : st ≤ 4294967295) (ha : AllB data) :
    UnpP cr ch ma ow fi data st (frameB cr ch ma ow fi data st) data.length := by
  have hba := bodyF_all cr ch ma ow fi data st ha
  have hbl := bodyF_len cr ch ma ow fi data st
  have hsl := sumN_lt _ hba
  have hB : bodyF cr ch ma ow fi data st = beB (cr * 16 + ch * 2 + 1) 2 2 ++ ([ma] ++ ([ow] ++ (beB (6144 + fi) 2 2 ++ (data ++ beB st 4 4)))) := by
    unfold bodyF
    rw [num_be1 ma (by omega), num_be1 ow (by omega)]
    simp only [List.append_assoc]
  have hF : frameB cr ch ma ow fi data st = bodyF cr ch ma ow fi data st ++ beB (sumN (bodyF cr ch ma ow fi data st)) 2 2 := rfl
  refine ⟨frameB_len _ _ _ _ _ _ _, ?_, ?_, ?_, ?_, ?_, ?_, ?_, ?_, ?_⟩
  · rw [hF]; exact hba.append (beB_all _ _ _)
  · rw [hF, ← hbl, List.take_left]
  · rw [hF, ← hbl, List.drop_left]; exact num_be2 _ hsl
  · rw [hF, hB]
    have : ((beB (cr * 16 + ch * 2 + 1) 2 2 ++ ([ma] ++ ([ow] ++ (beB (6144 + fi) 2 2 ++ (data ++ beB st 4 4))))) ++ beB (sumN (beB (cr * 16 + ch * 2 + 1) 2 2 ++ ([ma] ++ ([ow] ++ (beB (6144 + fi) 2 2 ++ (data ++ beB st 4 4)))))) 2 2).take 2 = beB (cr * 16 + ch * 2 + 1) 2 2 := by
      rw [List.append_assoc]
      exact List.take_left (l₁ := beB (cr * 16 + ch * 2 + 1) 2 2)
    rw [this]
    exact num_be2 _ (by omega)
  · rw [hF, hB]
    generalize beB (sumN _) 2 2 = T
    have e : (beB (cr * 16 + ch * 2 + 1) 2 2 ++ ([ma] ++ ([ow] ++ (beB (6144 + fi) 2 2 ++ (data ++ beB st 4 4))))) ++ T = (beB (cr * 16 + ch * 2 + 1) 2 2 ++ [ma] ++ [ow]) ++ (beB (6144 + fi) 2 2 ++ ((data ++ beB st 4 4) ++ T)) := by simp only [List.append_assoc]
    rw [e]
    have := take_mid (beB (cr * 16 + ch * 2 + 1) 2 2 ++ [ma] ++ [ow]) (beB (6144 + fi) 2 2) ((data ++ beB st 4 4) ++ T)
    have hl : (beB (cr * 16 + ch * 2 + 1) 2 2 ++ [ma] ++ [ow]).length = 4 := rfl
    have hl2 : (beB (6144 + fi) 2 2).length = 2 := rfl
    rw [hl, hl2] at this
    rw [this]
    exact num_be2 _ (by omega)
  · rw [hF, hB]; rfl
  · rw [hF, hB]; rfl
  · rw [hF, hB]
    generalize beB (sumN _) 2 2 = T
    have e : (beB (cr * 16 + ch * 2 + 1) 2 2 ++ ([ma] ++ ([ow] ++ (beB (6144 + fi) 2 2 ++ (data ++ beB st 4 4))))) ++ T = (beB (cr * 16 + ch * 2 + 1) 2 2 ++ [ma] ++ [ow] ++ beB (6144 + fi) 2 2) ++ (data ++ (beB st 4 4 ++ T)) := by simp only [List.append_assoc]
    rw [e]
    exact take_mid (beB (cr * 16 + ch * 2 + 1) 2 2 ++ [ma] ++ [ow] ++ beB (6144 + fi) 2 2) data (beB st 4 4 ++ T)
  · rw [hF, hB]
    generalize beB (sumN _) 2 2 = T
    have e : (beB (cr * 16 + ch * 2 + 1) 2 2 ++ ([ma] ++ ([ow] ++ (beB (6144 + fi) 2 2 ++ (data ++ beB st 4 4))))) ++ T = (beB (cr * 16 + ch * 2 + 1) 2 2 ++ [ma] ++ [ow] ++ beB (6144 + fi) 2 2 ++ data) ++ (beB st 4 4 ++ T) := by simp only [List.append_assoc]
    rw [e]
    have := take_mid (beB (cr * 16 + ch * 2 + 1) 2 2 ++ [ma] ++ [ow] ++ beB (6144 + fi) 2 2 ++ data) (beB st 4 4) T
    have hl : (beB (cr * 16 + ch * 2 + 1) 2 2 ++ [ma] ++ [ow] ++ beB (6144 + fi) 2 2 ++ data).length = 6 + data.length := by
      simp only [List.length_append, beB_len, List.length_cons, List.length_nil]
    have hl2 : (beB st 4 4).length = 4 := rfl
    rw [hl, hl2] at this
    rw [this]
    exact num_be4 _ (by omega)
theorem i64_and (a b : Nat) (ha : a < 2 ^ 63) (hb : b < 2 ^ 63) : bits .and .i64 (a : Int) (b : Int) = ((a &&& b : Nat) : Int) := i64_and_nat a b ha hb
end Go.Proofs.Ytjiipmalahhcpaa
/- frame: Unpack. -/
namespace Go.Proofs.Ytjiipmalahhcpaa
set_option linter.unusedVariables false
open Go.RowKit

set_option maxRecDepth 100000 in
theorem run_cutlh (b off n c l h : Nat) (h1 : l ≤ h) (h2 : h ≤ c) (w : World) : (Instr.sliceAt 33 (.slice (some ⟨b, off, none⟩) n c) (some (.int .i64 (l : Int))) (some (.int .i64 (h : Int))) none).run Try.prog w = .ok (.slice (some ⟨b, if c = l then off else off + l, none⟩) (h - l) (c - l)) w := by
  have e1 : (l : Int) ≤ h := by omega
  have e2 : (h : Int) ≤ c := by omega
  simp [go_sem, e1, e2, Try.underlying33]
  split <;> rfl
set_option maxRecDepth 100000 in
theorem run_cuth (b off n c h : Nat) (h2 : h ≤ c) (w : World) : (Instr.sliceAt 33 (.slice (some ⟨b, off, none⟩) n c) none (some (.int .i64 (h : Int))) none).run Try.prog w = .ok (.slice (some ⟨b, if c = 0 then off else off, none⟩) h c) w := by
  have e2 : (h : Int) ≤ c := by omega
  simp [go_sem, e2, Try.underlying33]
theorem and_lo (a b k : Nat) (h : a < 2 ^ k) : a &&& b = a &&& (b % 2 ^ k) := by
  apply Nat.eq_of_testBit_eq
  intro i
  rw [Nat.testBit_and, Nat.testBit_and, Nat.testBit_mod_two_pow]
  by_cases hi : i < k
  · simp [hi]
  · rw [Nat.testBit_lt_two_pow (Nat.lt_of_lt_of_le h (Nat.pow_le_pow_right (by decide) (by omega)))]
    simp
theorem and_hi (x c k : Nat) : x &&& (c * 2 ^ k) = ((x / 2 ^ k) &&& c) * 2 ^ k := by
  apply Nat.eq_of_testBit_eq
  intro i
  rw [Nat.testBit_and, Nat.testBit_mul_two_pow, Nat.testBit_mul_two_pow, Nat.testBit_and, Nat.testBit_div_two_pow]
  by_cases hi : k ≤ i
  · rw [Nat.sub_add_cancel hi]
    simp [hi]
  · simp [hi]
theorem results_c3 {P : Program} {fn : Func} {p u v x : Tmp} {ty : TypeId} (h : fn.results = #[.cell p ty, .tmp u, .tmp v, .tmp x]) (tmps : Array Value) (w : World) (g : Nat) (t : TypeId) (cs : Array Value) (fr : Nat × Nat) (d : TypeDesc)
    (hp : tmps.getD p undef = .pointer (some ⟨g, 0, none⟩)) (hg : w.heap[g]? = some (.cells cs t fr))
    (hu : P.underlying ty = some d) (hd : (match d with | .struct _ | .array _ _ => true | _ => false) = true) (hi : (P.info? ty).map (·.size) = some cs.size) :
    (results fn tmps).run P w = .ok (.tuple #[.agg cs, tmps.getD u undef, tmps.getD v undef, tmps.getD x undef]) w := by
  have hp' : tmps[p]?.getD undef = .pointer (some ⟨g, 0, none⟩) := by simpa using hp
  simp [results, h, hp', asAddr, run_loadVar_row w g t ty cs fr d hg hu hd hi]
theorem results_c2 {P : Program} {fn : Func} {p u v : Tmp} {ty : TypeId} (h : fn.results = #[.cell p ty, .tmp u, .tmp v]) (tmps : Array Value) (w : World) (g : Nat) (t : TypeId) (cs : Array Value) (fr : Nat × Nat) (d : TypeDesc)
    (hp : tmps.getD p undef = .pointer (some ⟨g, 0, none⟩)) (hg : w.heap[g]? = some (.cells cs t fr))
    (hu : P.underlying ty = some d) (hd : (match d with | .struct _ | .array _ _ => true | _ => false) = true) (hi : (P.info? ty).map (·.size) = some cs.size) :
    (results fn tmps).run P w = .ok (.tuple #[.agg cs, tmps.getD u undef, tmps.getD v undef]) w := by
  have hp' : tmps[p]?.getD undef = .pointer (some ⟨g, 0, none⟩) := by simpa using hp
  simp [results, h, hp', asAddr, run_loadVar_row w g t ty cs fr d hg hu hd hi]
set_option maxRecDepth 1000000 in
theorem fr75 (y : Nat → Value) : fr 75 y = #[y 0, y 1, y 2, y 3, y 4, y 5, y 6, y 7, y 8, y 9, y 10, y 11, y 12, y 13, y 14, y 15, y 16, y 17, y 18, y 19, y 20, y 21, y 22, y 23, y 24, y 25, y 26, y 27, y 28, y 29, y 30, y 31, y 32, y 33, y 34, y 35, y 36, y 37, y 38, y 39, y 40, y 41, y 42, y 43, y 44, y 45, y 46, y 47, y 48, y 49, y 50, y 51, y 52, y 53, y 54, y 55, y 56, y 57, y 58, y 59, y 60, y 61, y 62, y 63, y 64, y 65, y 66, y 67, y 68, y 69, y 70, y 71, y 72, y 73, y 74] := rfl
end Go.Proofs.Ytjiipmalahhcpaa
