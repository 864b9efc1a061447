/- spoilt: bytes with something wrong at some places, and which. -/
import Derived.Test.YtendgihkjibbaaaDecS
import Derived.Test.YtendgihkjibbaaaPickS
namespace Go.Proofs.Ytendgihkjibbaaa
set_option linter.unusedVariables false
open Go.RowKit

/-- turns that came in: at and by, two cells each -/
structure RdTurn (w : World) (ao : Option Addr) (n cap : Nat) (ts : Nat → Int × Int) : Prop where
  le : n ≤ cap
  max : cap ≤ maxLen
  mem : 0 < n → ∃ b off, ao = some ⟨b, off, none⟩ ∧ b < w.heap.size ∧ ∀ j, j < n → w.cell? ⟨b, off + j * 2, none⟩ = some (.int .i64 (ts j).1) ∧ w.cell? ⟨b, off + j * 2 + 1, none⟩ = some (.int .i64 (ts j).2)
  wf : ∀ j, j < n → -9223372036854775808 ≤ (ts j).1 ∧ (ts j).1 ≤ 9223372036854775807 ∧ -9223372036854775808 ≤ (ts j).2 ∧ (ts j).2 ≤ 9223372036854775807

theorem RdTurn.below {w w' : World} {ao : Option Addr} {n cap : Nat} {ts : Nat → Int × Int} (h : RdTurn w ao n cap ts) (hb : Below w.heap.size w w') : RdTurn w' ao n cap ts :=
  ⟨h.le, h.max, fun hn => by
    obtain ⟨b, off, ha, hlt, hc⟩ := h.mem hn
    exact ⟨b, off, ha, Nat.lt_of_lt_of_le hlt hb.size, fun j hj => ⟨(hb.cell (p := ⟨b, off + j * 2, none⟩) hlt).trans (hc j hj).1, (hb.cell (p := ⟨b, off + j * 2 + 1, none⟩) hlt).trans (hc j hj).2⟩⟩, h.wf⟩

theorem RdTurn.grown {w w' : World} {row : Option Nat} {ao : Option Addr} {n cap : Nat} {ts : Nat → Int × Int} (h : RdTurn w ao n cap ts) (hg : w.grownBy w' row) (hne : ∀ b off, 0 < n → ao = some ⟨b, off, none⟩ → some b ≠ row) : RdTurn w' ao n cap ts :=
  ⟨h.le, h.max, fun hn => by
    obtain ⟨b, off, ha, hlt, hc⟩ := h.mem hn
    exact ⟨b, off, ha, Nat.lt_of_lt_of_le hlt hg.size, fun j hj => ⟨(World.cell?_of_block (w := w) (a := ⟨b, off + j * 2, none⟩) (hg.block b hlt (hne _ _ hn ha))).trans (hc j hj).1, (World.cell?_of_block (w := w) (a := ⟨b, off + j * 2 + 1, none⟩) (hg.block b hlt (hne _ _ hn ha))).trans (hc j hj).2⟩⟩, h.wf⟩
theorem RdTurn.block_lt {w : World} {ao : Option Addr} {n cap : Nat} {ts : Nat → Int × Int} (h : RdTurn w ao n cap ts) {b off : Nat} (hn : 0 < n) (ha : ao = some ⟨b, off, none⟩) : b < w.heap.size := by
  obtain ⟨b', off', ha', hlt, _⟩ := h.mem hn
  rw [ha] at ha'
  cases ha'
  exact hlt

/-- what spoilt makes of bytes b: wrong just at the places that it tells -/
structure Spo (b out at_ : List Nat) (n m : Nat) (ts : Nat → Int × Int) (k : Nat) : Prop where
  len : out.length = n
  all : AllB out
  nd : at_.Nodup
  lt : ∀ p, p ∈ at_ → p < n
  cnt : at_.length ≤ m
  dif : ∀ p, nth out p ≠ nth b p ↔ p ∈ at_
  src : ∀ p, p ∈ at_ → ∃ j, j < k ∧ p = pk (ts j).1 n
theorem Spo.start {b : List Nat} {n m : Nat} {ts : Nat → Int × Int} (hl : b.length = n) (hb : AllB b) : Spo b b [] n m ts 0 :=
  ⟨hl, hb, List.nodup_nil, fun p h => by simp at h, Nat.zero_le _, fun p => by simp, fun p h => by simp at h⟩
theorem Spo.skip {b out at_ : List Nat} {n m k : Nat} {ts : Nat → Int × Int} (h : Spo b out at_ n m ts k) : Spo b out at_ n m ts (k + 1) :=
  ⟨h.len, h.all, h.nd, h.lt, h.cnt, h.dif, fun p hp => by obtain ⟨j, h1, h2⟩ := h.src p hp; exact ⟨j, by omega, h2⟩⟩
theorem Spo.mono {b out at_ : List Nat} {n m k k' : Nat} {ts : Nat → Int × Int} (h : Spo b out at_ n m ts k) (hk : k ≤ k') : Spo b out at_ n m ts k' :=
  ⟨h.len, h.all, h.nd, h.lt, h.cnt, h.dif, fun p hp => by obtain ⟨j, h1, h2⟩ := h.src p hp; exact ⟨j, by omega, h2⟩⟩
theorem Spo.hit {b out at_ : List Nat} {n m k : Nat} {ts : Nat → Int × Int} (h : Spo b out at_ n m ts k) (hn : 0 < n) (hm : at_.length < m) (hnew : pk (ts k).1 n ∉ at_) {d : Nat} (hd : d ≠ 0) (hd2 : d < 256) :
    Spo b (out.set (pk (ts k).1 n) (nth out (pk (ts k).1 n) ^^^ d)) (at_ ++ [pk (ts k).1 n]) n m ts (k + 1) := by
  have hp := pk_lt (ts k).1 n hn
  have hsame : nth out (pk (ts k).1 n) = nth b (pk (ts k).1 n) := by
    rcases Nat.decEq (nth out (pk (ts k).1 n)) (nth b (pk (ts k).1 n)) with hh | hh
    · exact absurd ((h.dif _).1 hh) hnew
    · exact hh
  generalize hpe : pk (ts k).1 n = p at *
  refine ⟨by rw [List.length_set]; exact h.len, all_set h.all _ (Gf.xor_lt (nth_lt h.all _) hd2), ?_, fun q hq => ?_, by rw [List.length_append]; simp; omega, fun q => ?_, fun q hq => ?_⟩
  · rw [List.nodup_append]
    refine ⟨h.nd, by simp, fun a ha c hc e => ?_⟩
    rw [List.mem_singleton] at hc
    exact hnew (by rw [← hc, ← e]; exact ha)
  · rcases List.mem_append.1 hq with h1 | h1
    · exact h.lt q h1
    · rw [List.mem_singleton.1 h1]; exact hp
  · rw [nth_set _ _ _ _ (by rw [h.len]; exact hp), List.mem_append, List.mem_singleton]
    by_cases e : q = p
    · rw [if_pos e, e, hsame]
      refine ⟨fun _ => .inr rfl, fun _ e2 => hd ?_⟩
      have e3 : nth b p ^^^ (nth b p ^^^ d) = nth b p ^^^ nth b p := by rw [e2]
      rwa [← Nat.xor_assoc, Nat.xor_self, Nat.zero_xor] at e3
    · rw [if_neg e, h.dif q]
      exact ⟨.inl, fun h1 => h1.elim id (fun h2 => absurd h2 e)⟩
  · rcases List.mem_append.1 hq with h1 | h1
    · obtain ⟨j, h2, h3⟩ := h.src q h1
      exact ⟨j, by omega, h3⟩
    · exact ⟨k, by omega, by rw [List.mem_singleton.1 h1, hpe]⟩
theorem mem_take_succ (l : List Nat) (p q : Nat) (h : q < l.length) : (p ∈ l.take (q + 1)) ↔ (p ∈ l.take q ∨ nth l q = p) := by
  rw [take_snocN l q h, List.mem_append, List.mem_singleton]
  exact ⟨fun h => h.elim .inl (fun e => .inr e.symm), fun h => h.elim .inl (fun e => .inr e.symm)⟩

/-- is p among the first q? -/
def inTo (p : Nat) (l : List Nat) (q : Nat) : Bool := decide (p ∈ l.take q)
theorem inTo_zero (p : Nat) (l : List Nat) : inTo p l 0 = false := by simp [inTo]
theorem inTo_yes {p q : Nat} {l : List Nat} (h : q < l.length) (hi : inTo p l q = true) : inTo p l (q + 1) = true := by
  unfold inTo at *
  simp only [decide_eq_true_eq] at *
  exact (mem_take_succ l p q h).2 (.inl hi)
theorem inTo_no {p q : Nat} {l : List Nat} (h : q < l.length) (hi : inTo p l q = false) : inTo p l (q + 1) = decide (nth l q = p) := by
  unfold inTo at *
  simp only [decide_eq_false_iff_not] at hi
  have := mem_take_succ l p q h
  by_cases e : nth l q = p
  · simp only [decide_eq_true e, decide_eq_true_eq]; exact this.2 (.inr e)
  · simp only [decide_eq_false e, decide_eq_false_iff_not]; exact fun h2 => (this.1 h2).elim hi e
theorem inTo_all (p : Nat) (l : List Nat) : inTo p l l.length = true ↔ p ∈ l := by simp [inTo]

set_option maxRecDepth 100000 in
set_option maxHeartbeats 4000000 in
theorem spoilt_ok (ba ta : Option Addr) (n bc ln lc m : Nat) (bs : List Nat) (ts : Nat → Int × Int) (w : World) (hb : Rd w ba n bc (vb bs)) (hbb : AllB bs) (hT : RdTurn w ta ln lc ts) (hn1 : 0 < n) (hn : n ≤ 255) (hln : ln ≤ 140737488355328) (hm : m ≤ 1000) :
    Calls Try.prog 7 #[.slice ba n bc, .slice ta ln lc, .int .i64 (m : Int)] w fun e w' => ∃ oa oc aa ac out at_, e = .returned (.tuple #[.slice oa n oc, .slice aa at_.length ac]) ∧ Rd w' oa n oc (vb out) ∧ Rd w' aa at_.length ac (vi at_) ∧ Spo bs out at_ n m ts ln ∧ Below w.heap.size w w' := by
  have hbl : bs.length = n := by have := hb.len; rwa [vb_len] at this
  have Hbl := hid hbl
  clear hbl
  obtain ⟨i0, hi, hz0, hz1, hz2⟩ := info_parts Try.info5
  obtain ⟨j0, hji, jz0, jz1, jz2⟩ := info_parts Try.info3
  go_enter Try.func7, Try.ntmps7
  go_wp2_with (at_builtin; refine hold ?_)
  unfold Hid
  refine wpList_append_rd rfl _ _ 22 rfl w.heap.size 5 i0 (.int .u8 0) 1 Try.underlying22 hi hz0 hz1 hz2 rfl none 0 0 [] rfl (World.ownsRow_nil _ _ _ _) ba n bc (vb bs) rfl hb (vb_oneCell _) (by omega) (by unfold maxLen; omega) (Nat.le_refl _) ?_
  intro qa qc V oq gr BV
  rw [Nat.zero_add, List.nil_append] at oq
  rw [Nat.zero_add]
  obtain ⟨g, rfl, hg1, hg2⟩ := some_own oq (by omega)
  have nT : ∀ b off, 0 < ln → ta = some ⟨b, off, none⟩ → b ≠ g := fun b off h0 h => by have := hT.block_lt h0 h; omega
  have hT5 := hT.below BV
  clear gr
  go_wp2
  go_loopw [9, 10] (fun av i wr => ∃ (k bk : Nat) (o a : List Nat) (aa : Option Addr), k ≤ ln ∧ i = .int .i64 k ∧ av = .slice aa a.length bk ∧ Spo bs o a n m ts k ∧
    wr.ownsRow w.heap.size 5 1 (.slice (some ⟨g, 0, none⟩) n qc) n (vb o) ∧ wr.ownsRow V.heap.size 3 1 (.slice aa a.length bk) a.length (vi a) ∧ V.grownBy wr (some g)) (fun _ i _ => ln - (intOf i).toNat)
  case atStart => exact ⟨0, 0, bs, [], none, by omega, rfl, rfl, Spo.start Hbl.out hbb, oq, World.ownsRow_nil _ _ _ _, World.grownBy.refl _ _⟩
  case round =>
    obtain ⟨k, bk, o, a, aa, hk, rfl, rfl, hS, ho, hoa, hG⟩ := hrel
    have hTr := hT5.grown hG (fun b off h0 hh e => by cases e; exact nT _ _ h0 hh rfl)
    have haR := Rd.ofOwn hoa
    by_cases hlt : k < ln
    · by_cases hal : a.length < m
      · obtain ⟨tb, toff, rfl, htlt, htc⟩ := hTr.mem (by omega)
        obtain ⟨tc1, tc2⟩ := htc k hlt
        obtain ⟨tw1, tw2, tw3, tw4⟩ := hTr.wf k hlt
        have hpick := pick_st (ts k).1 (n : Int) wr tw1 tw2 (by omega) (by omega)
        rw [Int.toNat_natCast] at hpick
        have hp := pk_lt (ts k).1 n hn1
        clear htc
        have Hhit := hid (fun (h : pk (ts k).1 n ∉ a) (d : Nat) (hd : d ≠ 0) (hd2 : d < 256) => hS.hit (n := n) hn1 hal h hd hd2)
        have Hskip := hid (hS.skip)
        have hob := hS.all
        have hat := hS.cnt
        have hol := hS.len
        have Hol := hid hol
        clear hol
        have hav : ∀ x, x ∈ a → x < n := hS.lt
        have hav := hid hav
        clear hS
        generalize pk (ts k).1 n = p at *
        have hpick2 := fun W => pick_st (ts k).2 255 W tw3 tw4 (by omega) (by omega)
        have hp2 := pk_lt (ts k).2 (255 : Int).toNat (by decide)
        generalize pk (ts k).2 (255 : Int).toNat = d at *
        have hd255 : d < 255 := hp2
        have hpick3 := hid (fun W => hpick2 W)
        clear hp2
        generalize (ts k).1 = t1 at *
        generalize ht2 : (ts k).2 = t2 at *
        have Ht2 := hid ht2
        clear ht2
        have hal2 : (a.length : Int) < (m : Int) := by omega
        go_wp2_with fail
        refine hpick.mono ?_
        rintro e w' ⟨rfl, rfl⟩
        clear hpick
        have hap : Hid (∀ q, q < a.length → nth a q < 256) := fun q hq => by
          have := hav.out _ (show nth a q ∈ a by rw [nth_get hq]; exact List.getElem_mem _)
          omega
        go_wp2_with fail
        go_loopw [12, 13] (fun kn i wq => ∃ q : Nat, q ≤ a.length ∧ i = .int .i64 q ∧ kn = .bool (inTo p a q) ∧ wq = w') (fun _ i _ => a.length - (intOf i).toNat)
        case atStart => exact ⟨0, by omega, rfl, by rw [inTo_zero], rfl⟩
        case round =>
          obtain ⟨q, hq, rfl, rfl, rfl⟩ := hrel
          by_cases hlq : q < a.length
          · have haq := hap.out q hlq
            obtain ⟨xb, xo, rfl, hxlt, hxc⟩ := haR.celli q hlq
            cases hin : inTo p a q
            · have Hn := hid (inTo_no hlq hin)
              clear hin
              generalize hkn : inTo p a (q + 1) = kn at *
              have Hkn := hid hkn
              clear hkn
              generalize nth a q = u at *
              by_cases hup : u = p
              · have hd1 : ((u : Int) == (p : Int)) = true := by simp; omega
                have Hn : Hid (kn = true) := by have h := Hn.out; rw [decide_eq_true hup] at h; exact h
                clear hup
                go_wp2
                go_roundw
                case rel => exact ⟨q + 1, by omega, by go_num, by rw [Hkn.out, Hn.out], trivial⟩
                case measure => simp [intOf]; omega
              · have hd1 : ((u : Int) == (p : Int)) = false := by simp; omega
                have Hn : Hid (kn = false) := by have h := Hn.out; rw [decide_eq_false hup] at h; exact h
                clear hup
                go_wp2
                go_roundw
                case rel => exact ⟨q + 1, by omega, by go_num, by rw [Hkn.out, Hn.out], trivial⟩
                case measure => simp [intOf]; omega
            · have Hn := hid (inTo_yes hlq hin)
              clear hin
              go_wp2
              go_roundw
              case rel => exact ⟨q + 1, by omega, by go_num, by rw [Hn.out], trivial⟩
              case measure => simp [intOf]; omega
          · obtain rfl : a.length = q := by omega
            have Hall := hid (inTo_all p a)
            cases hin : inTo p a a.length
            · have hnot : Hid (p ∉ a) := fun h => by have := Hall.out.2 h; rw [hin] at this; cases this
              clear hin Hall
              have hd1 : 1 + d < 256 := by omega
              have Hnew := hid (Hhit.out hnot.out (1 + d) (by omega) hd1)
              have hgV : g < V.heap.size := hg2
              have b1 := below_alloc wr (.cells #[.int .i64 (p : Int)] 3)
              have hrd := rd_liti wr p
              have hVs := hG.size
              go_wp2_with (at_builtin; refine hold ?_)
              unfold Hid
              refine wpList_append_rd rfl _ _ 28 rfl V.heap.size 3 j0 (.int .i64 0) 8 Try.underlying28 hji jz0 jz1 jz2 rfl aa a.length bk _ rfl (ownsRow_below hoa b1) (some ⟨wr.heap.size, 0, none⟩) 1 1 (vi [p]) rfl hrd (vi_oneCell _) (by omega) (by unfold maxLen; omega) (by simp; omega) ?_
              intro gq cq W7 o7 gr Bx
              rw [← vi_append] at o7
              have B7 : Below V.heap.size wr W7 := (b1.mono hVs).trans Bx
              have ho7 := own_keep ho (B7.block g hgV)
              have hG7 := grown_below hG B7
              have hT7 := hT5.grown hG7 (fun b off h0 hh e => by cases e; exact nT _ _ h0 hh rfl)
              obtain ⟨tb2, toff2, heq, htlt2, htc2⟩ := hT7.mem (by omega)
              cases heq
              obtain ⟨_, tc7⟩ := htc2 k hlt
              rw [Ht2.out] at tc7
              clear gr Bx b1 hrd ho hoa B7 hG haR hTr htc2 tc1 tc2 hVs hap hpick2
              have hpick2 := hpick3.out
              have hal' : a.length + 1 = (a ++ [p]).length := by rw [List.length_append]; rfl
              have o7 : Hid (W7.ownsRow V.heap.size 3 1 (.slice gq (a ++ [p]).length cq) (a ++ [p]).length (vi (a ++ [p]))) := by rw [hal'] at o7; exact o7
              rw [hal']
              clear hal'
              generalize a ++ [p] = a2 at *
              have hol2 := Hol.out
              have hpc : W7.cell? ⟨g, p, none⟩ = some (.int .u8 (nth o p)) := by
                rw [ho7.cellAt p (by omega), vb_get _ _ (by omega)]
              have hpf : W7.frozen? ⟨g, p, none⟩ = false := ho7.frozenAt _
              have hp256 := nth_lt hob p
              have Hsd := hid (ho7.drew.stored p (.int .u8 ((nth o p ^^^ (1 + d) : Nat) : Int)))
              rw [vb_set] at Hsd
              have e1 : bits .xor .u8 (nth o p : Int) (1 + (d : Int)) = ((nth o p ^^^ (1 + d) : Nat) : Int) := by
                have h := u8_xor_nat (nth o p) (1 + d) (by omega) (by omega)
                rwa [show ((1 + d : Nat) : Int) = 1 + (d : Int) by omega] at h
              have s1 : IntKind.i64.wrap (1 + (d : Int)) = 1 + (d : Int) := IntWalk.i64_in _ (by omega)
              have s2 : IntKind.u8.wrap (1 + (d : Int)) = 1 + (d : Int) := by
                rw [IntKind.wrap_u8]; omega
              clear hol2
              generalize ho' : o.set p (nth o p ^^^ (1 + d)) = o' at *
              clear ho'
              generalize nth o p ^^^ (1 + d) = yd at *
              generalize nth o p = y at *
              go_wp2
              refine wp_region_still_tail 14 (by kernel_rfl) (by kernel_rfl) ?_
              simp only [List.take_succ_cons, List.take_zero, List.drop_succ_cons, List.drop_zero]
              repeat still_step
              still_call (hpick2 _)
              repeat still_step
              refine wpStill_nil ?_
              change wpList _ _ _ _ _ W7.drew
              have hne : (Value.slice gq a2.length cq).ownBlock ≠ some g := fun he => by
                have := (o7.out.lt g he).1
                omega
              have o8 := hid ((Kept2.left (b := g) Hsd.out.2).own o7.out.drew hne hne)
              have hG8 := grownBy_trans (grownBy_trans hG7 (grownBy_drew _ _)) Hsd.out.2
              clear s1 s2 hpick2
              go_wp2
              go_roundw
              case rel => exact ⟨k + 1, cq, o', a2, gq, by omega, by go_num, rfl, Hnew.out, Hsd.out.1, o8.out, hG8⟩
              case measure => simp [intOf]; omega
            · clear hin Hall
              go_wp2
              go_roundw
              case rel => exact ⟨k + 1, bk, o, a, aa, by omega, by go_num, rfl, Hskip.out, ho, hoa, hG⟩
              case measure => simp [intOf]; omega
      · have ht : decide ((k : Int) < (ln : Int)) = true := by simp; omega
        have hf : decide ((a.length : Int) < (m : Int)) = false := by simp; omega
        go_wp2
        go_ret2
        exact ⟨_, qc, aa, bk, o, a, rfl, Rd.ofOwn ho, haR, hS.mono (by omega), below_of_grown BV hG hg1⟩
    · obtain rfl : ln = k := by omega
      go_wp2
      go_ret2
      exact ⟨_, qc, aa, bk, o, a, rfl, Rd.ofOwn ho, haR, hS, below_of_grown BV hG hg1⟩
end Go.Proofs.Ytendgihkjibbaaa
