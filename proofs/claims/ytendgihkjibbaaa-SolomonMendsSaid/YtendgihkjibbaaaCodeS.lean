/- Code words: what encode makes is one, and there is one with each data. -/
import Derived.Test.YtendgihkjibbaaaGalS
import Derived.Test.YtendgihkjibbaaaEncS
import Derived.Test.YtendgihkjibbaaaSynS
namespace Go.Proofs.Ytendgihkjibbaaa
set_option linter.unusedVariables false
open GF

theorem fold_of (x : Nat) (hx : x < 256) : ∀ (l : List Nat) (v : Nat), v < 256 → AllB l → GF.of (l.foldl (fun v b => Gf.mul v x ^^^ b) v) = GF.of v * (GF.of x) ^ l.length + sm (fun i => GF.of (nth l i) * (GF.of x) ^ (l.length - 1 - i)) l.length
  | [], v, hv, _ => by
    show GF.of v = GF.of v * 1 + 0
    rw [GF.mul_one, GF.add_zero]
  | b :: l, v, hv, hl => by
    have hb : b < 256 := hl b List.mem_cons_self
    have hl' : AllB l := fun y hy => hl y (List.mem_cons_of_mem _ hy)
    rw [List.foldl_cons, fold_of x hx l _ (Gf.xor_lt (Gf.mul_lt _ _ hv) hb) hl', List.length_cons, sm_head, of_xor (Gf.mul_lt _ _ hv) hb, of_mul hv hx]
    have e1 : sm (fun i => GF.of (nth (b :: l) (i + 1)) * (GF.of x) ^ (l.length + 1 - 1 - (i + 1))) l.length = sm (fun i => GF.of (nth l i) * (GF.of x) ^ (l.length - 1 - i)) l.length :=
      sm_congr fun i hi => by rw [show nth (b :: l) (i + 1) = nth l i by simp [nth], show l.length + 1 - 1 - (i + 1) = l.length - 1 - i by omega]
    rw [e1, show nth (b :: l) 0 = b from rfl, show l.length + 1 - 1 - 0 = l.length by omega, pow_succ]
    simp only [GF.mul_add, GF.mul_assoc, GF.mul_comm, GF.mul_left_comm, GF.add_assoc]
theorem hv_of (x : Nat) (hx : x < 256) (l : List Nat) (hl : AllB l) : GF.of (hv x l) = sm (fun i => GF.of (nth l i) * (GF.of x) ^ (l.length - 1 - i)) l.length := by
  rw [hv, fold_of x hx l 0 (by decide) hl, of_zero, GF.zero_mul, GF.zero_add]
theorem hv_app (x : Nat) (hx : x < 256) (a b : List Nat) (ha : AllB a) (hb : AllB b) : GF.of (hv x (a ++ b)) = GF.of (hv x a) * (GF.of x) ^ b.length + GF.of (hv x b) := by
  have h := fold_of x hx b _ (hv_lt x a ha) hb
  rw [← hv_of x hx b hb] at h
  rw [← h, hv, List.foldl_append]
  rfl
theorem hv_cons (x : Nat) (hx : x < 256) (a : Nat) (b : List Nat) (ha : a < 256) (hb : AllB b) : GF.of (hv x (a :: b)) = GF.of a * (GF.of x) ^ b.length + GF.of (hv x b) := by
  have h := hv_app x hx [a] b (fun y hy => by simp at hy; omega) hb
  rw [show [a] ++ b = a :: b from rfl] at h
  rw [h]
  congr 2
  show GF.of (Gf.mul 0 x ^^^ a) = _
  rw [Gf.zero_mul x hx, Nat.zero_xor]
theorem nought_iff (ws : List Nat) : ∀ c, nought c ws = true ↔ ∀ j, 1 ≤ j → j ≤ c → hv (Gf.gp j) ws = 0
  | 0 => ⟨fun _ j h1 h2 => by omega, fun _ => rfl⟩
  | c + 1 => by
    rw [nought, Bool.and_eq_true, nought_iff ws c]
    constructor
    · rintro ⟨h1, h2⟩ j hj1 hj2
      by_cases e : j = c + 1
      · rw [e]; simpa using h2
      · exact h1 j hj1 (by omega)
    · intro h
      exact ⟨fun j h1 h2 => h j h1 (by omega), by simpa using h (c + 1) (by omega) (by omega)⟩

theorem hv_addTo (x : Nat) (hx : x < 256) (ps qs : List Nat) (c at_ : Nat) (hp : AllB ps) (hq : AllB qs) (hc : c < 256) (hl : at_ + qs.length = ps.length) :
    GF.of (hv x (addTo ps qs c at_ qs.length)) = GF.of (hv x ps) + GF.of c * GF.of (hv x qs) := by
  rw [hv_of x hx _ (addTo_all hp hc _), hv_of x hx ps hp, hv_of x hx qs hq, addTo_len, ← hl, sm_split, sm_split, ← sm_mul]
  have e1 : sm (fun i => GF.of (nth (addTo ps qs c at_ qs.length) i) * (GF.of x) ^ (at_ + qs.length - 1 - i)) at_ = sm (fun i => GF.of (nth ps i) * (GF.of x) ^ (at_ + qs.length - 1 - i)) at_ :=
    sm_congr fun i hi => by rw [addTo_nth' _ _ _ _ _ (by omega), if_neg (by omega), Nat.xor_zero]
  have e2 : sm (fun i => GF.of (nth (addTo ps qs c at_ qs.length) (at_ + i)) * (GF.of x) ^ (at_ + qs.length - 1 - (at_ + i))) qs.length =
      sm (fun i => GF.of (nth ps (at_ + i)) * (GF.of x) ^ (at_ + qs.length - 1 - (at_ + i)) + GF.of c * (GF.of (nth qs i) * (GF.of x) ^ (qs.length - 1 - i))) qs.length :=
    sm_congr fun i hi => by
      rw [addTo_nth' _ _ _ _ _ (by omega), if_pos (by omega), Nat.add_sub_cancel_left, of_xor (nth_lt hp _) (Gf.mul_lt _ _ hc), of_mul hc (nth_lt hq _), show at_ + qs.length - 1 - (at_ + i) = qs.length - 1 - i by omega, GF.add_mul, GF.mul_assoc]
  rw [e1, e2, sm_add, GF.add_assoc]
theorem hv_nil (x : Nat) : hv x [] = 0 := rfl
theorem hv_snoc0 (x : Nat) (hx : x < 256) (p : List Nat) (hp : AllB p) : GF.of (hv x (p ++ [0])) = GF.of (hv x p) * GF.of x := by
  rw [hv_snoc, Nat.xor_zero, of_mul (hv_lt x p hp) hx]
theorem all_snoc0 {p : List Nat} (hp : AllB p) : AllB (p ++ [0]) := allb_snoc hp (by decide)
theorem hv_tms (x : Nat) (hx : x < 256) (p : List Nat) (k : Nat) (hp : AllB p) (hk : k < 256) : GF.of (hv x (tms p k)) = (GF.of x + GF.of k) * GF.of (hv x p) := by
  rw [tms, hv_addTo x hx _ _ _ _ (all_snoc0 hp) hp hk (by simp; omega), hv_snoc0 x hx p hp, GF.add_mul, GF.mul_comm (GF.of x)]
theorem hv_prod (j : Nat) : ∀ c, 1 ≤ j → j ≤ c → GF.of (hv (Gf.gp j) (prodTo c)) = 0
  | 0, h1, h2 => by omega
  | c + 1, h1, h2 => by
    rw [prodTo, hv_tms _ (Gf.gp_lt _) _ _ (prodTo_all c) (Gf.gp_lt _)]
    by_cases e : j = c + 1
    · rw [e, GF.add_self, GF.zero_mul]
    · rw [hv_prod j c h1 (by omega), GF.mul_zero]
theorem prod_head : ∀ c, nth (prodTo c) 0 = 1
  | 0 => rfl
  | c + 1 => by
    rw [prodTo, tms, addTo_nth' _ _ _ _ _ (by simp; omega), if_neg (by omega), Nat.xor_zero]
    have := prod_head c
    have hl := prodTo_len c
    cases h : prodTo c with
    | nil => rw [h] at hl; simp at hl
    | cons a r => rw [h] at this; exact this
theorem prod_cons (c : Nat) : prodTo c = 1 :: (prodTo c).tail := by
  have h := prod_head c
  have hl := prodTo_len c
  cases e : prodTo c with
  | nil => rw [e] at hl; simp at hl
  | cons a r =>
    rw [e] at h
    rw [show a = 1 from h]
    rfl
theorem prod_tail_len (c : Nat) : (prodTo c).tail.length = c := by rw [List.length_tail, prodTo_len]; rfl
theorem hv_tail (j c : Nat) (h1 : 1 ≤ j) (h2 : j ≤ c) : GF.of (hv (Gf.gp j) (prodTo c).tail) = (GF.of (Gf.gp j)) ^ c := by
  have h := hv_prod j c h1 h2
  rw [prod_cons c, hv_cons _ (Gf.gp_lt _) _ _ (by decide) (allb_tl (prodTo_all c)), prod_tail_len, of_one, GF.one_mul] at h
  exact (GF.add_eq_zero.1 h).symm
theorem hv_shl (x : Nat) (hx : x < 256) (r : List Nat) (hr : AllB r) (h0 : 0 < r.length) : GF.of (hv x (shl r)) = GF.of (hv x r) * GF.of x + GF.of (nth r 0) * (GF.of x) ^ r.length := by
  cases r with
  | nil => simp at h0
  | cons a r =>
    have ha : a < 256 := hr a List.mem_cons_self
    have hr' : AllB r := fun y hy => hr y (List.mem_cons_of_mem _ hy)
    show GF.of (hv x (r ++ [0])) = _
    rw [hv_snoc0 x hx r hr', hv_cons x hx a r ha hr', show nth (a :: r) 0 = a from rfl, List.length_cons, pow_succ, GF.add_mul, GF.mul_assoc, GF.add_assoc, GF.add_comm (GF.of (hv x r) * _), GF.add_self_left]
theorem hv_reg (x : Nat) (hx : x < 256) (g r : List Nat) (b : Nat) (hg : AllB g) (hr : AllB r) (hb : b < 256) (h0 : 0 < r.length) (hl : g.length = r.length) (hz : GF.of (hv x g) = (GF.of x) ^ r.length) :
    GF.of (hv x (reg g r b)) = GF.of (hv x r) * GF.of x + GF.of b * (GF.of x) ^ r.length := by
  have hk := Gf.xor_lt hb (nth_lt hr 0)
  rw [reg, hv_addTo x hx _ _ _ _ (shl_all hr) hg hk (by rw [shl_len r h0]; omega), hv_shl x hx r hr h0, hz, of_xor hb (nth_lt hr 0), GF.add_mul, GF.add_assoc, GF.add_comm (GF.of b * _), GF.add_self_left]
theorem hv_regs (x : Nat) (hx : x < 256) (g : List Nat) (hg : AllB g) (c : Nat) (hc : 0 < c) (hl : g.length = c) (hz : GF.of (hv x g) = (GF.of x) ^ c) :
    ∀ (ds r : List Nat), AllB ds → AllB r → r.length = c → GF.of (hv x (regs g r ds)) = GF.of (hv x r) * (GF.of x) ^ ds.length + GF.of (hv x ds) * (GF.of x) ^ c
  | [], r, _, _, _ => by
    rw [hv_nil, of_zero, GF.zero_mul, GF.add_zero]
    exact (GF.mul_one _).symm
  | b :: ds, r, hd, hr, hrl => by
    have hb : b < 256 := hd b List.mem_cons_self
    have hd' : AllB ds := fun y hy => hd y (List.mem_cons_of_mem _ hy)
    have h0 : 0 < r.length := by omega
    have e : regs g r (b :: ds) = regs g (reg g r b) ds := rfl
    have hr2 : AllB (reg g r b) := addTo_all (shl_all hr) (Gf.xor_lt hb (nth_lt hr 0)) _
    rw [e, hv_regs x hx g hg c hc hl hz ds _ hd' hr2 (by rw [reg_len g r b h0, hrl]), hv_reg x hx g r b hg hr hb h0 (by omega) (by rw [hrl]; exact hz), hv_cons x hx b ds hb hd', List.length_cons, pow_succ, hrl]
    simp only [GF.mul_add, GF.mul_assoc, GF.mul_comm, GF.mul_left_comm, GF.add_assoc]
theorem regs_lenL (g : List Nat) : ∀ (ds r : List Nat), 0 < r.length → (regs g r ds).length = r.length
  | [], r, _ => rfl
  | b :: ds, r, h => by
    show (regs g (reg g r b) ds).length = _
    rw [regs_lenL g ds _ (by rw [reg_len g r b h]; exact h), reg_len g r b h]
theorem encw_len (ds : List Nat) (c : Nat) (hc : 0 < c) : (encw ds c).length = ds.length + c := by
  rw [encw, List.length_append, regs_lenL _ _ _ (by simp; exact hc), List.length_replicate]
theorem hv_zeros (x c : Nat) (hx : x < 256) : hv x (List.replicate c 0) = 0 := by
  induction c with
  | zero => rfl
  | succ c ih => rw [List.replicate_succ', hv_snoc, ih, Gf.zero_mul x hx]; rfl
theorem encw_allb (ds : List Nat) (c : Nat) (hd : AllB ds) : AllB (encw ds c) := fun y hy => by
  rcases List.mem_append.1 hy with h | h
  · exact hd y h
  · exact regs_all (AllB.replicate c) hd y h
/-- what encode makes is a code word -/
theorem encw_nought (ds : List Nat) (c : Nat) (hd : AllB ds) (hc : 0 < c) : nought c (encw ds c) = true := by
  rw [nought_iff]
  intro j h1 h2
  refine of_inj (hv_lt _ _ (encw_allb ds c hd)) (by decide) ?_
  have hgb := allb_tl (prodTo_all c)
  rw [encw, hv_app _ (Gf.gp_lt j) _ _ hd (regs_all (AllB.replicate c) hd), regs_lenL _ _ _ (by simp; exact hc), List.length_replicate, hv_regs _ (Gf.gp_lt j) _ hgb c hc (prod_tail_len c) (hv_tail j c h1 h2) ds _ hd (AllB.replicate c) (by simp),
    hv_zeros _ _ (Gf.gp_lt j), of_zero, GF.zero_mul, GF.zero_add, GF.add_self]
theorem encw_take (ds : List Nat) (c : Nat) : (encw ds c).take ds.length = ds := by simp [encw]

/-! places and their powers -/
def lx (n p : Nat) : GF := al ^ (n - 1 - p)
theorem lx_ne (n p : Nat) : lx n p ≠ 0 := pow_ne al_ne _
theorem lx_inj {n p q : Nat} (hn : n ≤ 255) (hp : p < n) (hq : q < n) (h : lx n p = lx n q) : p = q := by
  have := al_inj (by omega) (by omega) h
  omega
/-- a word's value at a power, by its places -/
theorem hv_places (ws : List Nat) (hw : AllB ws) (j : Nat) : GF.of (hv (Gf.gp j) ws) = sm (fun p => GF.of (nth ws p) * lx ws.length p ^ j) ws.length := by
  rw [hv_of _ (Gf.gp_lt j) ws hw, of_gp]
  refine sm_congr fun p hp => ?_
  rw [lx, ← pow_mul, ← pow_mul, Nat.mul_comm]
theorem nth_ext {a b : List Nat} (hl : a.length = b.length) (h : ∀ i, i < a.length → nth a i = nth b i) : a = b := by
  refine List.ext_getElem hl fun i h1 h2 => ?_
  have := h i h1
  rwa [nth_get h1, nth_get h2] at this
/-- two code words of the same data are the same -/
theorem unique {a b : List Nat} {c n : Nat} (ha : AllB a) (hb : AllB b) (hal : a.length = n) (hbl : b.length = n) (hn : n ≤ 255) (hc : c ≤ n) (na : nought c a = true) (nb : nought c b = true) (hd : a.take (n - c) = b.take (n - c)) : a = b := by
  have hz := vander (lx n) n (fun p _ => lx_ne n p) (fun p q hp hq h => lx_inj hn hp hq h) ((List.range c).map fun k => n - c + k) (fun p => GF.of (nth a p) + GF.of (nth b p)) (fun p hp hS => by
      have hlt : p < n - c := by
        rcases Nat.lt_or_ge p (n - c) with h | h
        · exact h
        · exact absurd (List.mem_map.2 ⟨p - (n - c), List.mem_range.2 (by omega), by omega⟩) hS
      have e : nth a p = nth b p := by
        have h1 : nth (a.take (n - c)) p = nth (b.take (n - c)) p := by rw [hd]
        simpa [nth, List.getD_eq_getElem?_getD, List.getElem?_take, hlt] using h1
      show GF.of _ + GF.of _ = 0
      rw [e, GF.add_self]) (fun j h1 h2 => by
      rw [List.length_map, List.length_range] at h2
      have e1 := hv_places a ha j
      have e2 := hv_places b hb j
      rw [(nought_iff a c).1 na j h1 h2, of_zero, hal] at e1
      rw [(nought_iff b c).1 nb j h1 h2, of_zero, hbl] at e2
      have e3 : sm (fun p => (GF.of (nth a p) + GF.of (nth b p)) * lx n p ^ j) n = sm (fun p => GF.of (nth a p) * lx n p ^ j) n + sm (fun p => GF.of (nth b p) * lx n p ^ j) n := by
        rw [← sm_add]
        exact sm_congr fun p _ => GF.add_mul _ _ _
      rw [e3, ← e1, ← e2, GF.add_zero])
  refine nth_ext (by omega) fun i hi => ?_
  exact of_inj (nth_lt ha i) (nth_lt hb i) (GF.add_eq_zero.1 (hz i (by omega)))
end Go.Proofs.Ytendgihkjibbaaa
