/- FrameCarries, plain: a channel when a frame of it comes. -/
import Derived.Test.YtjiipmalahhcpaaCarries25
namespace Go.Proofs.Ytjiipmalahhcpaa
set_option linter.unusedVariables false
open Go.RowKit

def effR (a : LE) (ow : Nat) : List Nat := if 0 ≤ a.nx ∧ a.nx ≠ (ow : Int) then [] else a.rs
/-- a channel: what waits, how long the begun packet has been on its way, how many were lost; W m: the last m frames were heard -/
structure ChI (room : Nat) (x : LQ) (q : List PK) (age lo D : Nat) (a b : LE) (W : Nat → Bool) : Prop where
  qp : x.ps = q.map PK.enc
  qo : ∀ p ∈ q, p.Ok
  ok : x.Ok
  la1 : a.rs = restB q x.gone
  la2 : a.nx = -1 ∨ a.nx = (x.own : Int)
  ag0 : x.gone = 0 → age = 0
  ag1 : 0 < x.gone → 1 ≤ age ∧ 1 + (age - 1) * room ≤ x.gone
  sy : 0 < age → W age = true → b.rs = restB q x.gone ∧ b.nx = (x.own : Int)
  lo1 : b.nx = -1 ∨ (0 ≤ b.nx ∧ (b.nx.toNat + lo) % 256 = x.own)
  lo2 : lo = 0 → b.rs = restB q x.gone ∨ b.rs = []
  lo3 : lo ≤ D
  ka : a.Ok
  kb : b.Ok
def needOf (room : Nat) (p : PK) : Nat := (p.ds.length + 6 + room - 2) / room + 1
theorem part_rest {q : List PK} {g : Nat} (hq : ∀ p ∈ q, p.Ok) (h1 : ∀ p T, q = p :: T → g < p.enc.length) : Part (restB q g) := by
  cases q with
  | nil => rw [restB_nil]; exact part_nil (fillP_ok 7 (by decide) (by decide))
  | cons p T => exact ⟨p, hq p List.mem_cons_self, g, h1 p T rfl, rfl⟩
theorem le_ok {ow : Nat} {r : List Nat} (h : Part r) : (LE.mk (((ow + 1) % 256 : Nat) : Int) r).Ok :=
  ⟨by show (-1 : Int) ≤ (((ow + 1) % 256 : Nat) : Int); omega, by show (((ow + 1) % 256 : Nat) : Int) ≤ 255; omega, h.len, fun h => absurd (show (((ow + 1) % 256 : Nat) : Int) < 0 from h) (by omega), h.all⟩
def ageOf (dn : List PK) (g0 g1 age : Nat) : Nat := if g1 = 0 then 0 else if dn = [] ∧ 0 < g0 then age + 1 else 1
theorem age_le {room age g0 : Nat} {p : PK} (h0 : 0 < room) (h1 : 1 ≤ age) (h2 : 1 + (age - 1) * room ≤ g0) (h3 : g0 < p.enc.length) : age + 1 ≤ needOf room p := by
  rw [p.len] at h3
  unfold needOf
  have : age ≤ (p.ds.length + 6 + room - 2) / room := by
    rw [Nat.le_div_iff_mul_le h0]
    obtain ⟨k, rfl⟩ : ∃ k, age = k + 1 := ⟨age - 1, by omega⟩
    simp only [Nat.add_sub_cancel] at h2
    rw [Nat.add_mul, Nat.one_mul]
    omega
  omega
structure FrC (room : Nat) (x : LQ) (q : List PK) (age lo D : Nat) (a b : LE) (W : Nat → Bool) (L : LS) (dn q' : List PK) (age' j : Nat) (rests : List Nat) : Prop where
  ra : ∃ out, RowC (effR a x.own) L.data L.first out ∧ out = encs dn ++ restB q' L.gone
  rb : ∃ out, RowC (effR b x.own) L.data L.first out ∧ out = encs (dn.drop j) ++ rests
  pa : Part (restB q' L.gone)
  pb : Part rests
  fl : reals q = reals dn ++ reals q'
  okd : ∀ p ∈ dn, p.Ok
  heard : ∀ W' : Nat → Bool, (∀ m, W' (m + 1) = W m) → ChI room ⟨(x.own + 1) % 256, L.gone, L.ps⟩ q' age' 0 D ⟨((x.own + 1) % 256 : Nat), restB q' L.gone⟩ ⟨((x.own + 1) % 256 : Nat), rests⟩ W'
  drop : ∀ W' : Nat → Bool, (∀ m, W' (m + 1) = false) → ChI room ⟨(x.own + 1) % 256, L.gone, L.ps⟩ q' age' (lo + 1) (D + 1) ⟨((x.own + 1) % 256 : Nat), restB q' L.gone⟩ b W'
  need : ∀ W' : Nat → Bool, (∀ m, W' (m + 1) = W m) → (∀ m n, m ≤ n → W' n = true → W' m = true) → ∀ p ∈ dn.take j, W' (needOf room p) = false
theorem ChI.frame {room : Nat} {x : LQ} {q : List PK} {age lo D : Nat} {a b : LE} {W : Nat → Bool} (h : ChI room x q age lo D a b W) (hne : x.ps ≠ []) (hr0 : 0 < room) (hr : room ≤ 2036) (hD : D ≤ 200)
    (hok : (LQ.mk ((x.own + 1) % 256) (ldOf x room).gone (ldOf x room).ps).Ok) : ∃ dn q' age' j rests, FrC room x q age lo D a b W (ldOf x room) dn q' age' j rests := by
  have hq0 : q ≠ [] := fun e => hne (by rw [h.qp, e]; rfl)
  obtain ⟨dn, q', hJ, hK, hlen⟩ := ld_pk x q h.ok h.qp h.qo hr0 hr hq0
  generalize ldOf x room = L at *
  have hpa := part_rest hJ.okq hJ.g1
  have hown := h.ok.own
  -- what all has
  have hea : effR a x.own = restB q x.gone := by
    unfold effR
    rw [if_neg, h.la1]
    rintro ⟨h1, h2⟩
    rcases h.la2 with e | e
    · omega
    · exact h2 e
  have hg0 : 0 < x.gone → restB q x.gone ≠ [] := by
    intro hg e
    obtain ⟨p, T, rfl⟩ : ∃ p T, q = p :: T := by
      cases q with
      | nil => exact absurd rfl hq0
      | cons p T => exact ⟨p, T, rfl⟩
    rw [restB_cons] at e
    have h1 := congrArg List.length e
    rw [List.length_take, p.len] at h1
    simp only [List.length_nil] at h1
    omega
  have hz0 : x.gone = 0 → restB q x.gone = [] := fun e => by rw [e, restB_zero]
  -- a row in step
  have hrow : ∃ out, RowC (restB q x.gone) L.data L.first out ∧ out = encs dn ++ restB q' L.gone := by
    by_cases hg : x.gone = 0
    · rw [hz0 hg, hK.a hg]
      refine ⟨_, RowC.frm L.data 0 (by omega), ?_⟩
      have := hJ.str
      rw [hz0 hg, List.nil_append] at this
      rw [List.drop_zero, this]
    · have hgp : 0 < x.gone := by omega
      rcases hK.b hgp with ⟨h1, _⟩ | ⟨h1, _⟩ | ⟨p, tl, h1, h2, h3, h4⟩
      · rw [h1]; exact ⟨_, RowC.all _ _ (hg0 hgp), hJ.str⟩
      · rw [h1]; exact ⟨_, RowC.all _ _ (hg0 hgp), hJ.str⟩
      · exact ⟨_, RowC.join _ _ _ p (hg0 hgp) h3 (hJ.okd p (by rw [h1]; exact List.mem_cons_self)) h4, hJ.str⟩
  -- ages
  have hage0 : L.gone = 0 → ageOf dn x.gone L.gone age = 0 := fun e => if_pos e
  have hage1 : 0 < L.gone → 1 ≤ ageOf dn x.gone L.gone age ∧ 1 + (ageOf dn x.gone L.gone age - 1) * room ≤ L.gone := by
    intro hg
    unfold ageOf
    rw [if_neg (by omega)]
    by_cases hc : dn = [] ∧ 0 < x.gone
    · rw [if_pos hc]
      obtain ⟨h1, h2⟩ := h.ag1 hc.2
      refine ⟨by omega, ?_⟩
      rcases hK.b hc.2 with ⟨_, _, h3, _⟩ | ⟨_, h3, _⟩ | ⟨p, tl, h3, _⟩
      · rw [h3, Nat.add_sub_cancel]
        obtain ⟨k, hk⟩ : ∃ k, age = k + 1 := ⟨age - 1, by omega⟩
        rw [hk] at h2 ⊢
        simp only [Nat.add_sub_cancel] at h2
        rw [Nat.add_mul, Nat.one_mul]
        omega
      · omega
      · rw [hc.1] at h3; cases h3
    · rw [if_neg hc]
      omega
  have hnx : ∀ (lo' : Nat), b.nx = -1 ∨ (0 ≤ b.nx ∧ (b.nx.toNat + (lo + 1)) % 256 = (x.own + 1) % 256) := fun _ => by
    rcases h.lo1 with e | ⟨e1, e2⟩
    · exact .inl e
    · exact .inr ⟨e1, by omega⟩
  have hdrop : ∀ W' : Nat → Bool, (∀ m, W' (m + 1) = false) → ChI room ⟨(x.own + 1) % 256, L.gone, L.ps⟩ q' (ageOf dn x.gone L.gone age) (lo + 1) (D + 1) ⟨((x.own + 1) % 256 : Nat), restB q' L.gone⟩ b W' := fun W' hW => by
    refine ⟨hJ.ps, hJ.okq, hok, rfl, .inr rfl, hage0, hage1, fun h1 h2 => ?_, hnx 0, fun e => by omega, by have := h.lo3; omega, le_ok hpa, h.kb⟩
    obtain ⟨k, hk⟩ : ∃ k, ageOf dn x.gone L.gone age = k + 1 := ⟨_, (Nat.sub_add_cancel h1).symm⟩
    rw [hk, hW] at h2
    cases h2
  have heffb : effR b x.own = restB q x.gone ∨ effR b x.own = [] := by
    unfold effR
    by_cases hc : 0 ≤ b.nx ∧ b.nx ≠ (x.own : Int)
    · rw [if_pos hc]; exact .inr rfl
    · rw [if_neg hc]
      rcases h.lo1 with e | ⟨e1, e2⟩
      · exact .inr (h.kb.nil (by omega))
      · have e3 : b.nx = (x.own : Int) := by
          rcases Int.lt_trichotomy b.nx x.own with h1 | h1 | h1
          · exact absurd ⟨e1, by omega⟩ hc
          · exact h1
          · exact absurd ⟨e1, by omega⟩ hc
        have hl3 := h.lo3
        exact h.lo2 (by omega)
  by_cases hs : effR b x.own = restB q x.gone
  · refine ⟨dn, q', _, 0, restB q' L.gone, ⟨by rw [hea]; exact hrow, by rw [hs]; exact hrow, hpa, hpa, hJ.fl, hJ.okd, fun W' hW => ?_, hdrop, fun W' _ _ p hp => by cases hp⟩⟩
    exact ⟨hJ.ps, hJ.okq, hok, rfl, .inr rfl, hage0, hage1, fun _ _ => ⟨rfl, rfl⟩, .inr ⟨by show (0 : Int) ≤ (((x.own + 1) % 256 : Nat) : Int); omega, by show ((((x.own + 1) % 256 : Nat) : Int).toNat + 0) % 256 = (x.own + 1) % 256; omega⟩, fun _ => .inl rfl, Nat.zero_le _, le_ok hpa, le_ok hpa⟩
  · have hb0 : effR b x.own = [] := by
      rcases heffb with e | e
      · exact absurd e hs
      · exact e
    have hgp : 0 < x.gone := by
      rcases Nat.eq_zero_or_pos x.gone with e | e
      · exact absurd (by rw [hb0, hz0 e]) hs
      · exact e
    obtain ⟨hag1, hag2⟩ := h.ag1 hgp
    have hnW : W age = false := by
      cases hw : W age with
      | false => rfl
      | true =>
        obtain ⟨h1, h2⟩ := h.sy hag1 hw
        exact absurd (by unfold effR; rw [if_neg (fun h => h.2 h2), h1]) hs
    have hn0 := part_nil (fillP_ok 7 (by decide) (by decide))
    rcases hK.b hgp with ⟨h1, h2, h3, h4⟩ | ⟨h1, h2, p, h3, h4⟩ | ⟨p, tl, h1, h2, h3, h4⟩
    · subst h2
      refine ⟨[], q', _, 0, [], ⟨by rw [hea]; exact hrow, ⟨[], by rw [hb0, h1]; exact RowC.nil _, rfl⟩, hpa, hn0, hJ.fl, hJ.okd, fun W' hW => ?_, hdrop, fun W' _ _ p hp => by cases hp⟩⟩
      refine ⟨hJ.ps, hJ.okq, hok, rfl, .inr rfl, hage0, hage1, fun _ h6 => ?_, .inr ⟨by show (0 : Int) ≤ (((x.own + 1) % 256 : Nat) : Int); omega, by show ((((x.own + 1) % 256 : Nat) : Int).toNat + 0) % 256 = (x.own + 1) % 256; omega⟩, fun _ => .inr rfl, Nat.zero_le _, le_ok hpa, le_ok hn0⟩
      have he : ageOf [] x.gone L.gone age = age + 1 := by
        unfold ageOf
        rw [if_neg (by omega), if_pos ⟨rfl, hgp⟩]
      rw [he, hW, hnW] at h6
      cases h6
    · subst h3
      refine ⟨[p], q', _, 1, [], ⟨by rw [hea]; exact hrow, ⟨[], by rw [hb0, h1]; exact RowC.nil _, rfl⟩, hpa, hn0, hJ.fl, hJ.okd, fun W' hW => ?_, hdrop, fun W' hW hm p2 hp => ?_⟩⟩
      · refine ⟨hJ.ps, hJ.okq, hok, rfl, .inr rfl, hage0, hage1, fun h5 _ => ?_, .inr ⟨by show (0 : Int) ≤ (((x.own + 1) % 256 : Nat) : Int); omega, by show ((((x.own + 1) % 256 : Nat) : Int).toNat + 0) % 256 = (x.own + 1) % 256; omega⟩, fun _ => .inr rfl, Nat.zero_le _, le_ok hpa, le_ok hn0⟩
        rw [hage0 h2] at h5
        omega
      · have hp' : p2 ∈ [p] := hp
        rw [List.mem_singleton] at hp'
        subst hp'
        cases hw : W' (needOf room p2) with
        | false => rfl
        | true =>
          have := hm _ _ (age_le hr0 hag1 hag2 h4) hw
          rw [hW, hnW] at this
          cases this
    · have hout : L.data.drop L.first = encs tl ++ restB q' L.gone := by
        have h5 := hJ.str
        rw [h1, encs_cons, ← h4] at h5
        have h6 : restB q x.gone ++ L.data = (restB q x.gone ++ L.data.take L.first) ++ L.data.drop L.first := by rw [List.append_assoc, List.take_append_drop]
        rw [h6, List.append_assoc] at h5
        rw [List.append_assoc] at h5
        exact List.append_cancel_left (List.append_cancel_left (by rw [h5]; simp only [List.append_assoc]))
      refine ⟨dn, q', _, 1, restB q' L.gone, ⟨by rw [hea]; exact hrow, ⟨_, by rw [hb0]; exact RowC.frm _ _ h3, by rw [h1]; exact hout⟩, hpa, hpa, hJ.fl, hJ.okd, fun W' hW => ?_, hdrop, fun W' hW hm p2 hp => ?_⟩⟩
      · exact ⟨hJ.ps, hJ.okq, hok, rfl, .inr rfl, hage0, hage1, fun _ _ => ⟨rfl, rfl⟩, .inr ⟨by show (0 : Int) ≤ (((x.own + 1) % 256 : Nat) : Int); omega, by show ((((x.own + 1) % 256 : Nat) : Int).toNat + 0) % 256 = (x.own + 1) % 256; omega⟩, fun _ => .inl rfl, Nat.zero_le _, le_ok hpa, le_ok hpa⟩
      · rw [h1] at hp
        have hp' : p2 ∈ [p] := hp
        rw [List.mem_singleton] at hp'
        subst hp'
        cases hw : W' (needOf room p2) with
        | false => rfl
        | true =>
          have := hm _ _ (age_le hr0 hag1 hag2 h2) hw
          rw [hW, hnW] at this
          cases this
end Go.Proofs.Ytjiipmalahhcpaa
/- FrameCarries, plain: the whole state, when a frame comes or a packet is put. -/
namespace Go.Proofs.Ytjiipmalahhcpaa
set_option linter.unusedVariables false
open Go.RowKit

/-- the law's walk backwards: were the last need frames of channel c, of the first n, all heard? -/
def wl (cs : Nat → Nat) (gs : Nat → Bool) (c : Nat) : Nat → Nat → Bool → Bool
  | 0, _, b => b
  | n + 1, need, b => if need = 0 then b else if cs n = c then wl cs gs c n (need - 1) (b && !gs n) else wl cs gs c n need b
theorem wl_succ (cs : Nat → Nat) (gs : Nat → Bool) (c n need : Nat) (b : Bool) : wl cs gs c (n + 1) need b = if need = 0 then b else if cs n = c then wl cs gs c n (need - 1) (b && !gs n) else wl cs gs c n need b := rfl
theorem wl_zero (cs : Nat → Nat) (gs : Nat → Bool) (c n : Nat) (b : Bool) : wl cs gs c n 0 b = b := by
  cases n with
  | zero => rfl
  | succ n => unfold wl; rw [if_pos rfl]
theorem wl_false (cs : Nat → Nat) (gs : Nat → Bool) (c : Nat) : ∀ n m, wl cs gs c n m false = false
  | 0, _ => rfl
  | n + 1, m => by
    unfold wl
    split
    · rfl
    · split
      · rw [Bool.false_and]; exact wl_false cs gs c n _
      · exact wl_false cs gs c n _
theorem wl_mono (cs : Nat → Nat) (gs : Nat → Bool) (c : Nat) : ∀ n (m m' : Nat) (b : Bool), m' ≤ m → wl cs gs c n m b = true → wl cs gs c n m' b = true
  | 0, _, _, _, _, h => h
  | n + 1, m, m', b, hm, h => by
    unfold wl at h ⊢
    by_cases h0 : m = 0
    · rw [if_pos h0] at h
      rw [if_pos (by omega)]
      exact h
    · rw [if_neg h0] at h
      by_cases h1 : m' = 0
      · rw [if_pos h1]
        cases b with
        | true => rfl
        | false =>
          exfalso
          rw [Bool.false_and, wl_false, wl_false] at h
          simp at h
      · rw [if_neg h1]
        split
        · rename_i hc
          rw [if_pos hc] at h
          exact wl_mono cs gs c n _ _ _ (by omega) h
        · rename_i hc
          rw [if_neg hc] at h
          exact wl_mono cs gs c n _ _ _ hm h
theorem wl_congr {cs cs' : Nat → Nat} {gs gs' : Nat → Bool} (c : Nat) : ∀ n (m : Nat) (b : Bool), (∀ k, k < n → cs k = cs' k ∧ gs k = gs' k) → wl cs gs c n m b = wl cs' gs' c n m b
  | 0, _, _, _ => rfl
  | n + 1, m, b, h => by
    unfold wl
    rw [(h n (Nat.lt_succ_self n)).1, (h n (Nat.lt_succ_self n)).2, wl_congr c n (m - 1) _ (fun k hk => h k (Nat.lt_succ_of_lt hk)), wl_congr c n m _ (fun k hk => h k (Nat.lt_succ_of_lt hk))]
def csF (l : List Nat) : Nat → Nat := fun k => l.getD k 0
def gsF (l : List Bool) : Nat → Bool := fun k => l.getD k false
theorem csF_old (l : List Nat) (x k : Nat) (h : k < l.length) : csF (l ++ [x]) k = csF l k := by
  unfold csF
  rw [List.getD_eq_getElem?_getD, List.getD_eq_getElem?_getD, List.getElem?_append_left h]
theorem csF_new (l : List Nat) (x : Nat) : csF (l ++ [x]) l.length = x := by
  unfold csF
  rw [List.getD_eq_getElem?_getD, List.getElem?_append_right (Nat.le_refl _), Nat.sub_self]
  rfl
theorem gsF_old (l : List Bool) (x : Bool) (k : Nat) (h : k < l.length) : gsF (l ++ [x]) k = gsF l k := by
  unfold gsF
  rw [List.getD_eq_getElem?_getD, List.getD_eq_getElem?_getD, List.getElem?_append_left h]
theorem gsF_new (l : List Bool) (x : Bool) : gsF (l ++ [x]) l.length = x := by
  unfold gsF
  rw [List.getD_eq_getElem?_getD, List.getElem?_append_right (Nat.le_refl _), Nat.sub_self]
  rfl
/-- one packet told: by which frame, of which channel; fl: told by the other listener, too -/
structure EN where
  fr : Nat
  ch : Nat
  pk : PK
  fl : Bool
structure ST where
  l : Nat → LQ
  q : Nat → List PK
  age : Nat → Nat
  lo : Nat → Nat
  la : Nat → LE
  ls : Nat → LE
  ma : Int
  mb : Int
  ms : Nat
  tn : Nat
  put : List (Nat × PK)
  E : List EN
  cs : List Nat
  gs : List Bool
  mi : Nat
  D : Nat
def chP (c : Nat) (l : List (Nat × PK)) : List PK := (l.filter (fun x => x.1 == c)).map (·.2)
def chE (c : Nat) (l : List EN) : List PK := (l.filter (fun x => x.ch == c)).map (·.pk)
theorem chE_append (c : Nat) (a b : List EN) : chE c (a ++ b) = chE c a ++ chE c b := by unfold chE; rw [List.filter_append, List.map_append]
theorem chP_append (c : Nat) (a b : List (Nat × PK)) : chP c (a ++ b) = chP c a ++ chP c b := by unfold chP; rw [List.filter_append, List.map_append]
def wlS (s : ST) (c m : Nat) : Bool := wl (csF s.cs) (gsF s.gs) c s.cs.length m true
/-- the law's 'whole' -/
def wholeE (room : Nat) (cs : List Nat) (gs : List Bool) (e : EN) : Bool := wl (csF cs) (gsF gs) e.ch (e.fr + 1) (needOf room e.pk) (!gsF gs e.fr)
structure EOk (room : Nat) (cs : List Nat) (gs : List Bool) (e : EN) : Prop where
  ch : e.ch < 7
  lt : e.fr < cs.length
  cc : csF cs e.fr = e.ch
  nog : e.fl = true → gsF gs e.fr = false
  whl : wholeE room cs gs e = true → e.fl = true
theorem EOk.more {room : Nat} {cs : List Nat} {gs : List Bool} {e : EN} (h : EOk room cs gs e) (hl : cs.length = gs.length) (c : Nat) (g : Bool) : EOk room (cs ++ [c]) (gs ++ [g]) e := by
  have hlt := h.lt
  refine ⟨h.ch, by rw [List.length_append]; exact Nat.lt_succ_of_lt hlt, by rw [csF_old _ _ _ hlt]; exact h.cc, fun hf => by rw [gsF_old _ _ _ (by omega)]; exact h.nog hf, fun hw => h.whl ?_⟩
  unfold wholeE at hw ⊢
  rw [gsF_old _ _ _ (by omega)] at hw
  rw [← hw]
  exact wl_congr _ _ _ _ (fun k hk => ⟨(csF_old _ _ _ (by omega)).symm, (gsF_old _ _ _ (by omega)).symm⟩)
structure CI (room jn i : Nat) (s : ST) : Prop where
  ci : ∀ c, c < 7 → ChI room (s.l c) (s.q c) (s.age c) (s.lo c) s.D (s.la c) (s.ls c) (wlS s c)
  ws : ∀ c, c < 7 → (s.l c).ps.length ≤ i
  i2 : ∀ c, c < 7 → chP c s.put = chE c s.E ++ reals (s.q c)
  pc : ∀ x ∈ s.put, x.1 < 7 ∧ x.2.ct < i ∧ x.2.Ok
  pn : s.put.Pairwise (fun a b => a.2.ct < b.2.ct)
  ec : ∀ e ∈ s.E, EOk room s.cs s.gs e
  ln : s.cs.length = s.gs.length
  lc : s.cs.length ≤ i
  lp : s.put.length ≤ i ∧ s.put.length ≤ jn
  d1 : s.D ≤ i
  d2 : s.D ≤ jn
  ma : s.ma = -1 ∨ s.ma = (s.ms : Int)
  mb : (s.mb = -1 ∧ ∀ e ∈ s.E, e.fl = false) ∨ (0 ≤ s.mb ∧ s.mb ≤ 255 ∧ (s.mb.toNat + s.mi) % 256 = s.ms)
  mi : s.mi ≤ s.D
  ms : s.ms ≤ 255
  tn : s.tn ≤ 6
theorem lost_a {room jn i : Nat} {s : ST} (h : CI room jn i s) : lostOf s.ma s.ms = 0 ∧ -1 ≤ s.ma ∧ s.ma ≤ 255 := by
  have := h.ms
  unfold lostOf
  rcases h.ma with e | e
  · rw [e]; exact ⟨rfl, by decide, by decide⟩
  · rw [e, if_neg (by omega)]
    refine ⟨?_, by omega, by omega⟩
    rw [Int.toNat_natCast]
    omega
theorem lost_b {room jn i : Nat} {s : ST} (h : CI room jn i s) (hj : jn ≤ 200) : ((∃ e ∈ s.E, e.fl = true) → lostOf s.mb s.ms = s.mi) ∧ -1 ≤ s.mb ∧ s.mb ≤ 255 := by
  have h1 := h.ms
  have h2 := h.mi
  have h3 := h.d2
  unfold lostOf
  rcases h.mb with ⟨e, e2⟩ | ⟨e1, e2, e3⟩
  · refine ⟨fun ⟨x, hx, hf⟩ => ?_, by omega, by omega⟩
    rw [e2 x hx] at hf
    cases hf
  · refine ⟨fun _ => ?_, by omega, by omega⟩
    rw [if_neg (by omega)]
    omega
/-- what a frame adds -/
structure NewE (k ch : Nat) (X : List EN) (psa pss : List PK) : Prop where
  fr : ∀ e ∈ X, e.fr = k ∧ e.ch = ch
  a : X.map (·.pk) = reals psa
  b : (X.filter (·.fl)).map (·.pk) = reals pss
def mkE (k ch : Nat) (fl : Bool) (l : List PK) : List EN := (reals l).map fun p => ⟨k, ch, p, fl⟩
theorem mkE_pk (k ch : Nat) (fl : Bool) (l : List PK) : (mkE k ch fl l).map (·.pk) = reals l := by
  unfold mkE
  rw [List.map_map]
  exact List.map_id _
theorem mkE_mem {k ch : Nat} {fl : Bool} {l : List PK} {e : EN} (h : e ∈ mkE k ch fl l) : e.fr = k ∧ e.ch = ch ∧ e.fl = fl ∧ e.pk ∈ l := by
  unfold mkE at h
  obtain ⟨p, hp, rfl⟩ := List.mem_map.1 h
  exact ⟨rfl, rfl, rfl, (List.mem_filter.1 hp).1⟩
theorem mkE_true (k ch : Nat) (l : List PK) : (mkE k ch true l).filter (·.fl) = mkE k ch true l := List.filter_eq_self.2 fun e he => (mkE_mem he).2.2.1
theorem mkE_false (k ch : Nat) (l : List PK) : (mkE k ch false l).filter (·.fl) = [] := List.filter_eq_nil_iff.2 fun e he => by rw [(mkE_mem he).2.2.1]; decide
theorem mkE_new (k ch j : Nat) (l : List PK) : NewE k ch (mkE k ch false (l.take j) ++ mkE k ch true (l.drop j)) l (l.drop j) := by
  refine ⟨fun e he => ?_, ?_, ?_⟩
  · rcases List.mem_append.1 he with h | h
    · exact ⟨(mkE_mem h).1, (mkE_mem h).2.1⟩
    · exact ⟨(mkE_mem h).1, (mkE_mem h).2.1⟩
  · rw [List.map_append, mkE_pk, mkE_pk, ← reals_append, List.take_append_drop]
  · rw [List.filter_append, mkE_false, mkE_true, List.nil_append, mkE_pk]
theorem mkE_none (k ch : Nat) (l : List PK) : NewE k ch (mkE k ch false l) l [] :=
  ⟨fun e he => ⟨(mkE_mem he).1, (mkE_mem he).2.1⟩, mkE_pk _ _ _ _, by rw [mkE_false]; rfl⟩
theorem chE_mkE (k ch c : Nat) (fl : Bool) (l : List PK) : chE c (mkE k ch fl l) = if ch = c then reals l else [] := by
  unfold chE
  by_cases h : ch = c
  · rw [if_pos h, List.filter_eq_self.2 (fun e he => by rw [(mkE_mem he).2.1, h]; exact beq_self_eq_true _), mkE_pk]
  · rw [if_neg h, List.filter_eq_nil_iff.2 (fun e he => by rw [(mkE_mem he).2.1]; simpa using h)]
    rfl
def ST.heard (s : ST) (nx : NX) (q : Nat → List PK) (age lo : Nat → Nat) (X : List EN) (ra rs : List Nat) : ST :=
  { s with l := nx.l, q := q, age := age, lo := lo, la := hearL s.la nx.ch nx.ow ra, ls := hearL s.ls nx.ch nx.ow rs, ma := ((s.ms + 1) % 256 : Nat), mb := ((s.ms + 1) % 256 : Nat), ms := (s.ms + 1) % 256, tn := nx.tn, E := s.E ++ X, cs := s.cs ++ [nx.ch], gs := s.gs ++ [false], mi := 0 }
def ST.dropd (s : ST) (nx : NX) (q : Nat → List PK) (age lo : Nat → Nat) (X : List EN) (ra : List Nat) : ST :=
  { s with l := nx.l, q := q, age := age, lo := lo, la := hearL s.la nx.ch nx.ow ra, ma := ((s.ms + 1) % 256 : Nat), ms := (s.ms + 1) % 256, tn := nx.tn, E := s.E ++ X, cs := s.cs ++ [nx.ch], gs := s.gs ++ [true], mi := s.mi + 1, D := s.D + 1 }
structure NextC (room jn i : Nat) (s : ST) (nx : NX) (psa pss : List PK) (ra rs : List Nat) (q : Nat → List PK) (age lo lo' : Nat → Nat) (X Y : List EN) : Prop where
  ha : HearC s.la nx.ch nx.ow nx.fi nx.data psa ra
  hs : HearC s.ls nx.ch nx.ow nx.fi nx.data pss rs
  nex : NewE s.cs.length nx.ch X psa pss
  ney : NewE s.cs.length nx.ch Y psa []
  heard : CI room jn (i + 1) (s.heard nx q age lo X ra rs)
  drop : i < jn → CI room jn (i + 1) (s.dropd nx q age lo' Y ra)
theorem wlS_same {s s' : ST} {g : Bool} {ch c : Nat} (h1 : s'.cs = s.cs ++ [ch]) (h2 : s'.gs = s.gs ++ [g]) (hl : s.cs.length = s.gs.length) (hc : ch ≠ c) (m : Nat) : wlS s' c m = wlS s c m := by
  unfold wlS
  rw [h1, h2, List.length_append]
  rw [List.length_singleton, wl_succ]
  have hcg := wl_congr (cs := csF (s.cs ++ [ch])) (cs' := csF s.cs) (gs := gsF (s.gs ++ [g])) (gs' := gsF s.gs) c s.cs.length m true (fun k hk => ⟨csF_old _ _ _ hk, gsF_old _ _ _ (by omega)⟩)
  by_cases h0 : m = 0
  · rw [if_pos h0, h0, wl_zero]
  · rw [if_neg h0, csF_new, if_neg hc, hcg]
theorem wlS_next {s s' : ST} {g : Bool} {c : Nat} (h1 : s'.cs = s.cs ++ [c]) (h2 : s'.gs = s.gs ++ [g]) (hl : s.cs.length = s.gs.length) (m : Nat) : wlS s' c (m + 1) = (!g && wlS s c m) := by
  unfold wlS
  rw [h1, h2, List.length_append]
  rw [List.length_singleton, wl_succ, if_neg (Nat.succ_ne_zero m), csF_new, if_pos rfl, Bool.true_and, Nat.add_sub_cancel]
  have hg : gsF (s.gs ++ [g]) s.cs.length = g := by rw [hl]; exact gsF_new _ _
  rw [hg, wl_congr (cs := csF (s.cs ++ [c])) (cs' := csF s.cs) (gs := gsF (s.gs ++ [g])) (gs' := gsF s.gs) c s.cs.length m _ (fun k hk => ⟨csF_old _ _ _ hk, gsF_old _ _ _ (by omega)⟩)]
  cases g with
  | true => rw [Bool.not_true, wl_false, Bool.false_and]
  | false => rw [Bool.not_false, Bool.true_and]
theorem ChI.congr {room : Nat} {x : LQ} {q : List PK} {age lo D D' : Nat} {a b : LE} {W W' : Nat → Bool} (h : ChI room x q age lo D a b W) (hW : ∀ m, W' m = W m) (hD : D ≤ D') : ChI room x q age lo D' a b W' := by
  obtain ⟨h1, h2, h3, h4, h5, h6, h7, h8, h9, h10, h11, h12, h13⟩ := h
  exact ⟨h1, h2, h3, h4, h5, h6, h7, fun k1 k2 => h8 k1 (by rw [← hW]; exact k2), h9, h10, Nat.le_trans h11 hD, h12, h13⟩
theorem hearL_ne (l : Nat → LE) {ch c : Nat} (ow : Nat) (r : List Nat) (h : c ≠ ch) : hearL l ch ow r c = l c := if_neg h
theorem hearL_self (l : Nat → LE) (ch ow : Nat) (r : List Nat) : hearL l ch ow r ch = ⟨((ow + 1) % 256 : Nat), r⟩ := if_pos rfl
end Go.Proofs.Ytjiipmalahhcpaa
/- FrameCarries, plain: steps of the state. -/
namespace Go.Proofs.Ytjiipmalahhcpaa
set_option linter.unusedVariables false
open Go.RowKit

theorem wlS_mono (s : ST) (c : Nat) : ∀ m n, m ≤ n → wlS s c n = true → wlS s c m = true := fun m n h k => wl_mono _ _ _ _ _ _ _ h k
theorem wlS_nextF {s s' : ST} {c : Nat} (h1 : s'.cs = s.cs ++ [c]) (h2 : s'.gs = s.gs ++ [false]) (hl : s.cs.length = s.gs.length) (m : Nat) : wlS s' c (m + 1) = wlS s c m := by
  rw [wlS_next h1 h2 hl, Bool.not_false, Bool.true_and]
theorem wlS_nextT {s s' : ST} {c : Nat} (h1 : s'.cs = s.cs ++ [c]) (h2 : s'.gs = s.gs ++ [true]) (hl : s.cs.length = s.gs.length) (m : Nat) : wlS s' c (m + 1) = false := by
  rw [wlS_next h1 h2 hl, Bool.not_true, Bool.false_and]
theorem mb_next {s : ST} (E : List EN) : ((((s.ms + 1) % 256 : Nat) : Int) = -1 ∧ ∀ e ∈ E, e.fl = false) ∨ (0 ≤ (((s.ms + 1) % 256 : Nat) : Int) ∧ (((s.ms + 1) % 256 : Nat) : Int) ≤ 255 ∧ ((((s.ms + 1) % 256 : Nat) : Int).toNat + 0) % 256 = (s.ms + 1) % 256) := .inr (by omega)
theorem mb_drop {room jn i : Nat} {s : ST} (h : CI room jn i s) {Y : List EN} (hY : ∀ e ∈ Y, e.fl = false) : (s.mb = -1 ∧ ∀ e ∈ s.E ++ Y, e.fl = false) ∨ (0 ≤ s.mb ∧ s.mb ≤ 255 ∧ (s.mb.toNat + (s.mi + 1)) % 256 = (s.ms + 1) % 256) := by
  rcases h.mb with ⟨h1, h2⟩ | ⟨h1, h2, h3⟩
  · refine .inl ⟨h1, fun e he => ?_⟩
    rcases List.mem_append.1 he with h | h
    · exact h2 e h
    · exact hY e h
  · exact .inr ⟨h1, h2, by omega⟩
theorem CI.next {room jn i : Nat} {s : ST} (h : CI room jn i s) (hr0 : 0 < room) (hr : room ≤ 2036) (hj : jn ≤ 200) : ∃ psa pss ra rs q age lo lo' X Y, NextC room jn i s (nextOf s.l s.tn room) psa pss ra rs q age lo lo' X Y := by
  have hnx := nextOf_ok s.l s.tn room (fun c hc => (h.ci c hc).ok) h.tn hr
  have hlen := next_len (l := s.l) (tn := s.tn) (room := room) (m := i + 1) (by omega) (fun c hc => Nat.le_succ_of_le (h.ws c hc))
  have hln := h.ln
  have hD := h.d2
  have hms := h.ms
  obtain ⟨n1, n2, n3, n4, n5, n6, n7⟩ := hnx
  unfold nextOf at *
  cases hf : firstQ s.l s.tn 7 0 with
  | none =>
    rw [hf] at hlen n1 n2 n3 n4 n5 n6 n7
    have hc2 : ∀ c, c < 7 → ∀ (s' : ST) (g : Bool), s'.cs = s.cs ++ [7] → s'.gs = s.gs ++ [g] → ∀ m, wlS s' c m = wlS s c m := fun c hc s' g h1 h2 => wlS_same h1 h2 hln (by omega)
    refine ⟨[], [], [], [], s.q, s.age, s.lo, s.lo, [], [], HearC.fill rfl rfl, HearC.fill rfl rfl, ⟨(fun e he => by cases he), rfl, rfl⟩, ⟨(fun e he => by cases he), rfl, rfl⟩, ?_, fun hi => ?_⟩
    · refine ⟨fun c hc => ?_, hlen, fun c hc => ?_, fun x hx => ?_, h.pn, fun e he => ?_, ?_, ?_, ?_, Nat.le_succ_of_le h.d1, h.d2, .inr rfl, mb_next _, Nat.zero_le _, by show (s.ms + 1) % 256 ≤ 255; omega, h.tn⟩
      · show ChI room (s.l c) (s.q c) (s.age c) (s.lo c) s.D (hearL s.la 7 0 [] c) (hearL s.ls 7 0 [] c) _
        rw [hearL_ne _ _ _ (by omega), hearL_ne _ _ _ (by omega)]
        exact (h.ci c hc).congr (hc2 c hc _ false rfl rfl) (Nat.le_refl _)
      · show _ = chE c (s.E ++ []) ++ _
        rw [List.append_nil]
        exact h.i2 c hc
      · obtain ⟨k1, k2, k3⟩ := h.pc x hx
        exact ⟨k1, Nat.lt_succ_of_lt k2, k3⟩
      · have he' : e ∈ s.E ++ [] := he
        rw [List.append_nil] at he'
        exact (h.ec e he').more hln 7 false
      · show (s.cs ++ [7]).length = (s.gs ++ [false]).length
        rw [List.length_append, List.length_append, hln]
        rfl
      · show (s.cs ++ [7]).length ≤ _
        have := h.lc
        rw [List.length_append, List.length_singleton]
        omega
      · exact ⟨Nat.le_succ_of_le h.lp.1, h.lp.2⟩
    · refine ⟨fun c hc => ?_, hlen, fun c hc => ?_, fun x hx => ?_, h.pn, fun e he => ?_, ?_, ?_, ?_, Nat.succ_le_succ h.d1, ?_, .inr rfl, ?_, Nat.succ_le_succ h.mi, by show (s.ms + 1) % 256 ≤ 255; omega, h.tn⟩
      · show ChI room (s.l c) (s.q c) (s.age c) (s.lo c) (s.D + 1) (hearL s.la 7 0 [] c) (s.ls c) _
        rw [hearL_ne _ _ _ (by omega)]
        exact (h.ci c hc).congr (hc2 c hc _ true rfl rfl) (Nat.le_succ _)
      · show _ = chE c (s.E ++ []) ++ _
        rw [List.append_nil]
        exact h.i2 c hc
      · obtain ⟨k1, k2, k3⟩ := h.pc x hx
        exact ⟨k1, Nat.lt_succ_of_lt k2, k3⟩
      · have he' : e ∈ s.E ++ [] := he
        rw [List.append_nil] at he'
        exact (h.ec e he').more hln 7 true
      · show (s.cs ++ [7]).length = (s.gs ++ [true]).length
        rw [List.length_append, List.length_append, hln]
        rfl
      · show (s.cs ++ [7]).length ≤ _
        have := h.lc
        rw [List.length_append, List.length_singleton]
        omega
      · exact ⟨Nat.le_succ_of_le h.lp.1, h.lp.2⟩
      · show s.D + 1 ≤ jn
        have := h.d1
        omega
      · exact mb_drop h (fun e he => by cases he)
  | some c =>
    rw [hf] at hlen n1 n2 n3 n4 n5 n6 n7
    obtain ⟨hc, hne⟩ := firstQ_some s.l s.tn 7 0 c hf
    have hok := n7 c hc
    have hlc : (nxSome s.l room c).l c = ⟨((s.l c).own + 1) % 256, (ldOf (s.l c) room).gone, (ldOf (s.l c) room).ps⟩ := if_pos rfl
    have hlo : ∀ x, x ≠ c → (nxSome s.l room c).l x = s.l x := fun x hx => if_neg hx
    dsimp only at hok
    rw [hlc] at hok
    obtain ⟨dn, q', age', j, rests, hF⟩ := (h.ci c hc).frame hne hr0 hr (by omega) hok
    obtain ⟨oa, ra1, ra2⟩ := hF.ra
    obtain ⟨ob, rb1, rb2⟩ := hF.rb
    have hset : ∀ {α : Type} (f : Nat → α) (v : α), (fun x => if x = c then v else f x) c = v := fun f v => if_pos rfl
    have hsetn : ∀ {α : Type} (f : Nat → α) (v : α) (x : Nat), x ≠ c → (fun x => if x = c then v else f x) x = f x := fun f v x hx => if_neg hx
    refine ⟨dn, dn.drop j, restB q' (ldOf (s.l c) room).gone, rests, (fun x => if x = c then q' else s.q x), (fun x => if x = c then age' else s.age x), (fun x => if x = c then 0 else s.lo x), (fun x => if x = c then s.lo c + 1 else s.lo x),
      mkE s.cs.length c false (dn.take j) ++ mkE s.cs.length c true (dn.drop j), mkE s.cs.length c false dn, HearC.chan hc oa ra1 ra2 hF.okd hF.pa, HearC.chan hc ob rb1 rb2 (fun p hp => hF.okd p (List.mem_of_mem_drop hp)) hF.pb, mkE_new _ _ _ _, mkE_none _ _ _, ?_, fun hi => ?_⟩
    · have hw1 : ∀ (s' : ST), s'.cs = s.cs ++ [c] → s'.gs = s.gs ++ [false] → ∀ m, wlS s' c (m + 1) = wlS s c m := fun s' h1 h2 => wlS_nextF h1 h2 hln
      refine ⟨fun x hx => ?_, hlen, fun x hx => ?_, fun x hx => ?_, h.pn, fun e he => ?_, ?_, ?_, ?_, Nat.le_succ_of_le h.d1, h.d2, .inr rfl, mb_next _, Nat.zero_le _, by show (s.ms + 1) % 256 ≤ 255; omega, n4⟩
      · by_cases ex : x = c
        · subst ex
          have := hF.heard (wlS (s.heard (nxSome s.l room x) (fun y => if y = x then q' else s.q y) (fun y => if y = x then age' else s.age y) (fun y => if y = x then 0 else s.lo y) (mkE s.cs.length x false (dn.take j) ++ mkE s.cs.length x true (dn.drop j)) (restB q' (ldOf (s.l x) room).gone) rests) x) (hw1 _ rfl rfl)
          unfold ST.heard at this ⊢
          dsimp only at this ⊢
          rw [hlc, if_pos rfl, if_pos rfl, if_pos rfl]
          show ChI room _ _ _ _ _ (hearL s.la x (s.l x).own _ x) (hearL s.ls x (s.l x).own _ x) _
          rw [hearL_self, hearL_self]
          exact this
        · have hw : ∀ m, wlS (s.heard (nxSome s.l room c) (fun y => if y = c then q' else s.q y) (fun y => if y = c then age' else s.age y) (fun y => if y = c then 0 else s.lo y) (mkE s.cs.length c false (dn.take j) ++ mkE s.cs.length c true (dn.drop j)) (restB q' (ldOf (s.l c) room).gone) rests) x m = wlS s x m := wlS_same rfl rfl hln (fun h => ex h.symm)
          have := (h.ci x hx).congr hw (Nat.le_refl _)
          unfold ST.heard at this ⊢
          dsimp only at this ⊢
          rw [hlo x ex, if_neg ex, if_neg ex, if_neg ex]
          show ChI room _ _ _ _ _ (hearL s.la c (s.l c).own _ x) (hearL s.ls c (s.l c).own _ x) _
          rw [hearL_ne _ _ _ ex, hearL_ne _ _ _ ex]
          exact this
      · have hi2 := h.i2 x hx
        show chP x s.put = chE x (s.E ++ (mkE s.cs.length c false (dn.take j) ++ mkE s.cs.length c true (dn.drop j))) ++ reals (if x = c then q' else s.q x)
        rw [chE_append, chE_append, chE_mkE, chE_mkE, hi2]
        by_cases ex : x = c
        · subst ex
          rw [if_pos rfl, if_pos rfl, if_pos rfl, ← reals_append, List.take_append_drop, hF.fl, List.append_assoc]
        · rw [if_neg (fun h => ex h.symm), if_neg (fun h => ex h.symm), if_neg ex, List.append_nil, List.append_nil]
      · obtain ⟨k1, k2, k3⟩ := h.pc x hx
        exact ⟨k1, Nat.lt_succ_of_lt k2, k3⟩
      · have he' : e ∈ s.E ++ (mkE s.cs.length c false (dn.take j) ++ mkE s.cs.length c true (dn.drop j)) := he
        show EOk room (s.cs ++ [c]) (s.gs ++ [false]) e
        rcases List.mem_append.1 he' with he1 | he1
        · exact (h.ec e he1).more hln c false
        · have hgn : gsF (s.gs ++ [false]) s.cs.length = false := by rw [hln]; exact gsF_new _ _
          have hlt : s.cs.length < (s.cs ++ [c]).length := by rw [List.length_append, List.length_singleton]; exact Nat.lt_succ_self _
          rcases List.mem_append.1 he1 with he2 | he2
          · obtain ⟨f1, f2, f3, f4⟩ := mkE_mem he2
            refine ⟨by rw [f2]; exact hc, by rw [f1]; exact hlt, by rw [f1, f2]; exact csF_new _ _, fun hx => by rw [f1]; exact hgn, fun hw => ?_⟩
            unfold wholeE at hw
            rw [f1, f2, hgn, Bool.not_false] at hw
            have h3 := hF.need (wlS (s.heard (nxSome s.l room c) (fun y => if y = c then q' else s.q y) (fun y => if y = c then age' else s.age y) (fun y => if y = c then 0 else s.lo y) (mkE s.cs.length c false (dn.take j) ++ mkE s.cs.length c true (dn.drop j)) (restB q' (ldOf (s.l c) room).gone) rests) c) (hw1 _ rfl rfl) (wlS_mono _ _) e.pk f4
            unfold wlS ST.heard at h3
            dsimp only at h3
            rw [List.length_append, List.length_singleton] at h3
            rw [show (nxSome s.l room c).ch = c from rfl] at h3
            rw [h3] at hw
            cases hw
          · obtain ⟨f1, f2, f3, f4⟩ := mkE_mem he2
            exact ⟨by rw [f2]; exact hc, by rw [f1]; exact hlt, by rw [f1, f2]; exact csF_new _ _, fun hx => by rw [f1]; exact hgn, fun _ => f3⟩
      · show (s.cs ++ [c]).length = (s.gs ++ [false]).length
        rw [List.length_append, List.length_append, hln]
        rfl
      · show (s.cs ++ [c]).length ≤ _
        have := h.lc
        rw [List.length_append, List.length_singleton]
        omega
      · exact ⟨Nat.le_succ_of_le h.lp.1, h.lp.2⟩
    · have hw1 : ∀ (s' : ST), s'.cs = s.cs ++ [c] → s'.gs = s.gs ++ [true] → ∀ m, wlS s' c (m + 1) = false := fun s' h1 h2 => wlS_nextT h1 h2 hln
      refine ⟨fun x hx => ?_, hlen, fun x hx => ?_, fun x hx => ?_, h.pn, fun e he => ?_, ?_, ?_, ?_, Nat.succ_le_succ h.d1, ?_, .inr rfl, ?_, Nat.succ_le_succ h.mi, by show (s.ms + 1) % 256 ≤ 255; omega, n4⟩
      · by_cases ex : x = c
        · subst ex
          have := hF.drop (wlS (s.dropd (nxSome s.l room x) (fun y => if y = x then q' else s.q y) (fun y => if y = x then age' else s.age y) (fun y => if y = x then s.lo x + 1 else s.lo y) (mkE s.cs.length x false dn) (restB q' (ldOf (s.l x) room).gone)) x) (hw1 _ rfl rfl)
          unfold ST.dropd at this ⊢
          dsimp only at this ⊢
          rw [hlc, if_pos rfl, if_pos rfl, if_pos rfl]
          show ChI room _ _ _ _ _ (hearL s.la x (s.l x).own _ x) _ _
          rw [hearL_self]
          exact this
        · have hw : ∀ m, wlS (s.dropd (nxSome s.l room c) (fun y => if y = c then q' else s.q y) (fun y => if y = c then age' else s.age y) (fun y => if y = c then s.lo c + 1 else s.lo y) (mkE s.cs.length c false dn) (restB q' (ldOf (s.l c) room).gone)) x m = wlS s x m := wlS_same rfl rfl hln (fun h => ex h.symm)
          have := (h.ci x hx).congr hw (Nat.le_succ _)
          unfold ST.dropd at this ⊢
          dsimp only at this ⊢
          rw [hlo x ex, if_neg ex, if_neg ex, if_neg ex]
          show ChI room _ _ _ _ _ (hearL s.la c (s.l c).own _ x) _ _
          rw [hearL_ne _ _ _ ex]
          exact this
      · have hi2 := h.i2 x hx
        show chP x s.put = chE x (s.E ++ mkE s.cs.length c false dn) ++ reals (if x = c then q' else s.q x)
        rw [chE_append, chE_mkE, hi2]
        by_cases ex : x = c
        · subst ex
          rw [if_pos rfl, if_pos rfl, hF.fl, List.append_assoc]
        · rw [if_neg (fun h => ex h.symm), if_neg ex, List.append_nil]
      · obtain ⟨k1, k2, k3⟩ := h.pc x hx
        exact ⟨k1, Nat.lt_succ_of_lt k2, k3⟩
      · have he' : e ∈ s.E ++ mkE s.cs.length c false dn := he
        show EOk room (s.cs ++ [c]) (s.gs ++ [true]) e
        rcases List.mem_append.1 he' with he1 | he1
        · exact (h.ec e he1).more hln c true
        · have hgn : gsF (s.gs ++ [true]) s.cs.length = true := by rw [hln]; exact gsF_new _ _
          obtain ⟨f1, f2, f3, f4⟩ := mkE_mem he1
          refine ⟨by rw [f2]; exact hc, by rw [f1, List.length_append, List.length_singleton]; exact Nat.lt_succ_self _, by rw [f1, f2]; exact csF_new _ _, (fun hx => by rw [f3] at hx; cases hx), fun hw => ?_⟩
          unfold wholeE at hw
          rw [f1, hgn, Bool.not_true, wl_false] at hw
          cases hw
      · show (s.cs ++ [c]).length = (s.gs ++ [true]).length
        rw [List.length_append, List.length_append, hln]
        rfl
      · show (s.cs ++ [c]).length ≤ _
        have := h.lc
        rw [List.length_append, List.length_singleton]
        omega
      · exact ⟨Nat.le_succ_of_le h.lp.1, h.lp.2⟩
      · show s.D + 1 ≤ jn
        have := h.d1
        omega
      · exact mb_drop h (fun e he => (mkE_mem he).2.2.1)
def ST.puts (s : ST) (c : Nat) (p : PK) : ST := { s with l := putL s.l c p.enc, q := fun x => if x = c then s.q c ++ [p] else s.q x, put := s.put ++ [(c, p)] }
theorem restB_snoc (q : List PK) (p : PK) (g : Nat) (h : q = [] → g = 0) : restB (q ++ [p]) g = restB q g := by
  cases q with
  | nil => rw [h rfl, restB_zero, restB_zero]
  | cons a T => rfl
theorem chP_one (c x : Nat) (p : PK) : chP x [(c, p)] = if c = x then [p] else [] := by
  unfold chP
  by_cases h : c = x
  · rw [if_pos h, List.filter_cons, if_pos (by simpa using h)]; rfl
  · rw [if_neg h, List.filter_cons, if_neg (by simpa using h)]; rfl
theorem CI.puts {room jn i : Nat} {s : ST} (h : CI room jn i s) (c : Nat) (p : PK) (hc : c < 7) (hp : p.Ok) (hct : p.ct = i) (hap : realP p = true) (hi : i < jn) (hj : jn ≤ 200) : CI room jn (i + 1) (s.puts c p) := by
  have hpl := p.len
  have hlo := hp.lo
  refine ⟨fun x hx => ?_, fun x hx => ?_, fun x hx => ?_, fun x hx => ?_, ?_, h.ec, h.ln, Nat.le_succ_of_le h.lc, ?_, Nat.le_succ_of_le h.d1, h.d2, h.ma, h.mb, h.mi, h.ms, h.tn⟩
  · have hci := h.ci x hx
    by_cases ex : x = c
    · subst ex
      obtain ⟨h1, h2, h3, h4, h5, h6, h7, h8, h9, h10, h11, h12, h13⟩ := hci
      have hl : putL s.l x p.enc x = ⟨(s.l x).own, (s.l x).gone, (s.l x).ps ++ [p.enc]⟩ := if_pos rfl
      have hq : (if x = x then s.q x ++ [p] else s.q x) = s.q x ++ [p] := if_pos rfl
      have hg : s.q x = [] → (s.l x).gone = 0 := fun e => h3.g0 (by rw [h1, e]; rfl)
      have hr := restB_snoc (s.q x) p (s.l x).gone hg
      unfold ST.puts
      dsimp only
      rw [hl, hq]
      refine ⟨by show (s.l x).ps ++ [p.enc] = _; rw [h1, List.map_append]; rfl, fun y hy => ?_, ⟨h3.own, ?_, fun y hy => ?_, fun e => ?_, fun y S e => ?_⟩, by rw [h4, hr], h5, h6, h7, fun k1 k2 => by rw [hr]; exact h8 k1 k2, h9, fun k => by rw [hr]; exact h10 k, h11, h12, h13⟩
      · rcases List.mem_append.1 hy with h | h
        · exact h2 y h
        · rw [List.mem_singleton] at h; subst h; exact hp
      · show ((s.l x).ps ++ [p.enc]).length ≤ 200
        have := h.ws x hx
        rw [List.length_append, List.length_singleton]
        omega
      · rcases List.mem_append.1 hy with h | h
        · exact h3.enc y h
        · rw [List.mem_singleton] at h; subst h
          exact ⟨p.up, p.se, p.ap, p.pt, p.ct, p.ds, rfl, hp.ds, hp.ap, hp.pt, hp.ct, hp.lo, hp.hi⟩
      · have e' : (s.l x).ps ++ [p.enc] = [] := e
        simp at e'
      · have e' : (s.l x).ps ++ [p.enc] = y :: S := e
        show (s.l x).gone < y.length
        cases hps : (s.l x).ps with
        | nil =>
          rw [hps] at e'
          have e2 : p.enc = y := (List.cons.inj e').1
          rw [h3.g0 hps, ← e2, hpl]
          omega
        | cons a T =>
          rw [hps] at e'
          have e2 : a = y := (List.cons.inj e').1
          rw [← e2]
          exact h3.g1 a T hps
    · unfold ST.puts
      dsimp only
      rw [if_neg ex, show putL s.l c p.enc x = s.l x from if_neg ex]
      exact hci
  · show (putL s.l c p.enc x).ps.length ≤ i + 1
    have := h.ws x hx
    unfold putL
    by_cases ex : x = c
    · rw [if_pos ex]
      show ((s.l _).ps ++ [p.enc]).length ≤ i + 1
      rw [List.length_append, List.length_singleton, ← ex]
      omega
    · rw [if_neg ex]; omega
  · show chP x (s.put ++ [(c, p)]) = chE x s.E ++ reals (if x = c then s.q c ++ [p] else s.q x)
    rw [chP_append, chP_one, h.i2 x hx]
    by_cases ex : x = c
    · subst ex
      rw [if_pos rfl, if_pos rfl, reals_append, List.append_assoc]
      congr 2
      unfold reals
      rw [List.filter_cons, if_pos hap]
      rfl
    · rw [if_neg (fun h => ex h.symm), if_neg ex, List.append_nil]
  · rcases List.mem_append.1 hx with h1 | h1
    · obtain ⟨k1, k2, k3⟩ := h.pc x h1
      exact ⟨k1, Nat.lt_succ_of_lt k2, k3⟩
    · rw [List.mem_singleton] at h1
      subst h1
      exact ⟨hc, by show p.ct < i + 1; omega, hp⟩
  · show (s.put ++ [(c, p)]).Pairwise _
    rw [List.pairwise_append]
    refine ⟨h.pn, List.pairwise_singleton _ _, fun a ha b hb => ?_⟩
    rw [List.mem_singleton] at hb
    subst hb
    show a.2.ct < p.ct
    rw [hct]
    exact (h.pc a ha).2.1
  · show (s.put ++ [(c, p)]).length ≤ i + 1 ∧ (s.put ++ [(c, p)]).length ≤ jn
    have := h.lp
    rw [List.length_append, List.length_singleton]
    omega
end Go.Proofs.Ytjiipmalahhcpaa
