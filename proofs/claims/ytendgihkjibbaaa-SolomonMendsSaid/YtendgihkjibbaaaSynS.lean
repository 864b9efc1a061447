/- syndromes: a word's values at the zeros of code words. -/
import Derived.Test.YtendgihkjibbaaaTimesS
import Derived.Test.YtendgihkjibbaaaRowCells
namespace Go.Proofs.Ytendgihkjibbaaa
set_option linter.unusedVariables false
open Go.RowKit

/-- a word's value, the highest coefficient first -/
def hv (x : Nat) (ws : List Nat) : Nat := ws.foldl (fun v b => Gf.mul v x ^^^ b) 0
theorem hv_snoc (x : Nat) (l : List Nat) (b : Nat) : hv x (l ++ [b]) = Gf.mul (hv x l) x ^^^ b := by simp [hv]
theorem hv_lt (x : Nat) (l : List Nat) (h : AllB l) : hv x l < 256 := by
  suffices key : ∀ (l : List Nat) (v : Nat), v < 256 → AllB l → l.foldl (fun v b => Gf.mul v x ^^^ b) v < 256 from key l 0 (by decide) h
  intro l
  induction l with
  | nil => intro v hv _; exact hv
  | cons p l ih => intro v hv hl; exact ih _ (Gf.xor_lt (Gf.mul_lt _ _ hv) (hl p List.mem_cons_self)) (fun q hq => hl q (List.mem_cons_of_mem _ hq))
/-- the first n syndromes -/
def synd (ws : List Nat) : Nat → List Nat
  | 0 => []
  | n + 1 => synd ws n ++ [hv (Gf.gp (n + 1)) ws]
def nought : Nat → List Nat → Bool
  | 0, _ => true
  | n + 1, ws => nought n ws && (hv (Gf.gp (n + 1)) ws == 0)
theorem synd_len (ws : List Nat) : ∀ n, (synd ws n).length = n
  | 0 => rfl
  | n + 1 => by rw [synd, List.length_append, synd_len ws n]; rfl
theorem synd_all {ws : List Nat} (h : AllB ws) : ∀ n, AllB (synd ws n)
  | 0 => fun x hx => by simp [synd] at hx
  | n + 1 => allb_snoc (synd_all h n) (hv_lt _ _ h)

set_option maxRecDepth 100000 in
theorem synd_ok (wa : Option Addr) (wn wc c : Nat) (ws : List Nat) (w : World) (hw : Rd w wa wn wc (vb ws)) (hwb : AllB ws) (hwn : wn ≤ 100000) (hc : c ≤ 64) :
    Calls Try.prog 12 #[.slice wa wn wc, .int .i64 (c : Int)] w fun e w' => ∃ ao k, e = .returned (.tuple #[.slice ao c k, .bool (nought c ws)]) ∧
      w'.ownsRow w.heap.size 5 1 (.slice ao c k) c (vb (synd ws c)) ∧ Below w.heap.size w w' := by
  have hwl : ws.length = wn := by have := hw.len; rwa [vb_len] at this
  have Hwl := hid hwl
  clear hwl
  obtain ⟨i0, hi, hz0, hz1, hz2⟩ := info_parts Try.info5
  go_enter Try.func12, Try.ntmps12
  go_wp2
  go_loopw [4, 5, 12] (fun s b i wr => ∃ (k : Nat) (ao : Option Addr) (cp : Nat), k ≤ c ∧ i = .int .i64 k ∧ s = .slice ao k cp ∧ b = .bool (nought k ws) ∧ wr.ownsRow w.heap.size 5 1 (.slice ao k cp) k (vb (synd ws k)) ∧ Below w.heap.size w wr) (fun _ _ i _ => c - (intOf i).toNat)
  case atStart => exact ⟨0, none, 0, by omega, rfl, rfl, rfl, World.ownsRow_nil _ _ _ _, Below.refl _ _⟩
  case round =>
    obtain ⟨k, ao, cp, hk, rfl, rfl, rfl, ho, hB⟩ := hrel
    by_cases hlt : k < c
    · have hpow := pow_st ((k : Int) + 1) (k + 1) wr (by omega) (by omega) (by omega)
      have hG := Gf.gp_lt (k + 1)
      have Hnx : Hid (synd ws (k + 1) = synd ws k ++ [hv (Gf.gp (k + 1)) ws]) := rfl
      have Hny : Hid (nought (k + 1) ws = (nought k ws && (hv (Gf.gp (k + 1)) ws == 0))) := rfl
      have hvl := hv_lt (Gf.gp (k + 1)) ws hwb
      generalize Gf.gp (k + 1) = G at *
      generalize hs' : synd ws (k + 1) = s' at *
      have Hs' := hid hs'
      clear hs'
      generalize hn' : nought (k + 1) ws = n' at *
      have Hn' := hid hn'
      clear hn'
      generalize synd ws k = s at *
      generalize nought k ws = nn at *
      go_wp2_with fail
      refine hpow.mono ?_
      rintro e w' ⟨rfl, rfl⟩
      go_wp2_with fail
      go_loopw [8, 20] (fun v i wq => ∃ m : Nat, m ≤ wn ∧ i = .int .i64 m ∧ v = .int .u8 (hv G (ws.take m) : Nat) ∧ wq = w') (fun _ i _ => wn - (intOf i).toNat)
      case atStart => exact ⟨0, by omega, rfl, rfl, rfl⟩
      case round =>
        obtain ⟨m, hm, rfl, rfl, rfl⟩ := hrel
        by_cases hltm : m < wn
        · obtain ⟨b, off, rfl, hbl, hcell⟩ := (hw.below hB).cell m hltm
          have hb256 := nth_lt hwb m
          have hh := hv_lt G (ws.take m) (hwb.take m)
          have e1 := u8_xor_nat (Gf.mul (hv G (ws.take m)) G) (nth ws m) (Gf.mul_lt _ _ hh) hb256
          rw [← hv_snoc, ← take_snocN ws m (by rw [Hwl.out]; exact hltm)] at e1
          have hmul := mul_st (hv G (ws.take m)) G wr hh hG
          generalize hv G (ws.take m) = h at *
          generalize hh' : hv G (ws.take (m + 1)) = h' at *
          have Hh' := hid hh'
          clear hh'
          generalize Gf.mul h G = mm at *
          go_wp2_with fail
          refine hmul.mono ?_
          rintro e w' ⟨rfl, rfl⟩
          go_wp2
          go_roundw
          case rel => exact ⟨m + 1, by omega, by go_num, by rw [Hh'.out], trivial⟩
          case measure => simp [intOf]; omega
        · obtain rfl : m = wn := by omega
          rw [show ws.take m = ws by rw [← Hwl.out, List.take_length]]
          generalize hv G ws = v at *
          have b1 := below_alloc wr (.cells #[.int .u8 (v : Int)] 5)
          have hrd := rd_lit wr v
          go_wp2_with (at_builtin; refine hold ?_)
          unfold Hid
          refine wpList_append_rd rfl _ _ 22 rfl w.heap.size 5 i0 (.int .u8 0) 1 Try.underlying22 hi hz0 hz1 hz2 rfl ao k cp _ rfl (ownsRow_below ho b1) (some ⟨wr.heap.size, 0, none⟩) 1 1 (vb [v]) rfl hrd (vb_oneCell _) (by omega) (by unfold maxLen; omega) (by have := hB.size; simp; omega) ?_
          intro ga c2 W2 o2 gr B
          rw [← vb_append] at o2
          have B2 := (hB.alloc hB.size _).trans B
          clear gr B b1 hrd ho
          cases nn
          · go_wp2
            go_roundw
            case rel => exact ⟨k + 1, ga, c2, by omega, by go_num, rfl, by rw [Hn'.out, Hny.out]; rfl, by rw [Hs'.out, Hnx.out]; exact o2, B2⟩
            case measure => simp [intOf]; omega
          · cases hv0 : (v == 0)
            · have hv1 : ((v : Int) == 0) = false := by simp at hv0 ⊢; omega
              have hv0 := hid hv0
              go_wp2
              go_roundw
              case rel => exact ⟨k + 1, ga, c2, by omega, by go_num, rfl, by rw [Hn'.out, Hny.out, hv0.out]; rfl, by rw [Hs'.out, Hnx.out]; exact o2, B2⟩
              case measure => simp [intOf]; omega
            · have hv1 : ((v : Int) == 0) = true := by simp at hv0 ⊢; omega
              have hv0 := hid hv0
              go_wp2
              go_roundw
              case rel => exact ⟨k + 1, ga, c2, by omega, by go_num, rfl, by rw [Hn'.out, Hny.out, hv0.out]; rfl, by rw [Hs'.out, Hnx.out]; exact o2, B2⟩
              case measure => simp [intOf]; omega
    · obtain rfl : k = c := by omega
      go_wp2
      go_ret2
      exact ⟨ao, cp, rfl, ho, hB⟩
end Go.Proofs.Ytendgihkjibbaaa
