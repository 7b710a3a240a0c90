/- The walk of dreylaw19.OrderAsks: true for every list of values and of answers. Condition: the lists as they came in. -/
import Derived.Test.YtecoghabjcnbnaaHead
import Derived.BigRegion
namespace Go.Proofs.Ytecoghabjcnbnaa
open Go.RowKit
set_option linter.unusedVariables false
theorem asks_big {w : World} {A B : Option Addr} {n c m d : Nat} (h : 40 < n ∨ 400 < m) (hn : n ≤ 9223372036854775807) (hm : m ≤ 9223372036854775807) : Calls Try.prog 4 #[.slice A n c, .slice B m d] w fun e w' => e = .returned (.bool true) ∧ Below w.heap.size w w' := by
  by_cases h1 : 40 < n
  · have q : decide (40 < (n : Int)) = true := decide_eq_true (by omega)
    clear h
    go_enter Try.func4, Try.ntmps4
    go_wp2_with (go_at_call 7; refine (sorts_any _).mono ?_; rintro e w1 ⟨rfl, hb1⟩; have HB1 := Lib.hid hb1; clear hb1)
    go_ret
    exact ⟨rfl, HB1.out⟩
  · have q : decide (40 < (n : Int)) = false := decide_eq_false (by omega)
    have q2 : decide (400 < (m : Int)) = true := decide_eq_true (by omega)
    clear h
    go_enter Try.func4, Try.ntmps4
    go_wp2_with (go_at_call 7; refine (sorts_any _).mono ?_; rintro e w1 ⟨rfl, hb1⟩; have HB1 := Lib.hid hb1; clear hb1)
    go_ret
    exact ⟨rfl, HB1.out⟩
theorem Rd.int_at {w : World} {B : Option Addr} {m : Nat} {cs : List Int} (h : Rd w B m 1 (cs.map (Value.int .i64))) {k : Nat} (hk : k < m) : ∃ b o c, B = some ⟨b, o, none⟩ ∧ b < w.heap.size ∧ cs[k]? = some c ∧ w.cell? ⟨b, o + k, none⟩ = some (.int .i64 c) := by
  have hl : cs.length = m := by have := h.1; simpa using this
  have hv : cs[k]? = some (cs[k]'(by omega)) := List.getElem?_eq_getElem (by omega)
  obtain ⟨ad, rfl, hc⟩ := h.2 (fun e => by simp at e; subst e; simp at hl; omega)
  have c0 := hc k (.int .i64 (cs[k]'(by omega))) (by simp [hv])
  obtain ⟨b, o, sp⟩ := ad
  have hsp : sp = none := by simpa [Addr.add] using World.cell?_spot (hc 0 (.int .i64 (cs[0]'(by omega))) (by simp [List.getElem?_eq_getElem (show 0 < cs.length by omega)]))
  subst hsp
  rw [add_lit] at c0
  exact ⟨b, o, _, rfl, World.block_lt_of_cell? w _ c0, hv, c0⟩
/-- What holds at each round's head. -/
structure Asked (w w1 wr : World) (g : Nat) (v lv : Value) (n : Nat) (s : S3) : Prop where
  srt : Srt wr w1.heap.size g v s.1 s.2.1 s.2.2
  own : OwnV wr w1.heap.size lv s.1
  ok : OkS s
  len : s.1.length = n
  le : s.2.1 ≤ n + 1
  apart : ∀ b', v.ownBlock = some b' → lv.ownBlock ≠ some b'
  off : lv.ownBlock ≠ some g
  bel : Below w.heap.size w wr
  low : w.heap.size ≤ w1.heap.size
  glo : w1.heap.size ≤ g
theorem Asked.more {w w1 wr wx w6 : World} {g : Nat} {v lv : Value} {n : Nat} {s : S3} (h : Asked w w1 wr g v lv n s) (hb : Below wr.heap.size wr wx) (hk : Kp (fun b => b = g ∨ v.ownBlock = some b) wx w6) :
    OwnV w6 w1.heap.size lv s.1 ∧ Below w.heap.size w w6 := by
  refine ⟨(h.own.below hb).kp hk (fun b e hS => ?_), kp_below (h.bel.trans (hb.mono h.bel.size)) hk (fun b hb' hS => ?_)⟩
  · rcases hS with e2 | e2
    · exact h.off (by rw [← e2]; exact e)
    · exact h.apart b e2 e
  · have h1 := h.low
    have h2 := h.glo
    rcases hS with e2 | e2
    · omega
    · have := (h.srt.own.lo e2).1; omega
theorem Asked.turn {w w1 wr w6 : World} {g : Nat} {v lv : Value} {n : Nat} {s : S3} (h : Asked w w1 wr g v lv n s) (c : Int) (hs : Srt w6 w1.heap.size g v (tellS c s).1 (tellS c s).2.1 (tellS c s).2.2) (ho : OwnV w6 w1.heap.size lv (tellS c s).1) (hb : Below w.heap.size w w6) : Asked w w1 w6 g v lv n (tellS c s) :=
  ⟨hs, ho, tellS_ok h.ok, by rw [tellS_len]; exact h.len, by have := tellS_i c s (by rw [h.len]; exact h.le); rwa [h.len] at this, h.apart, h.off, hb, h.low, h.glo⟩
theorem tellS_none {c : Int} {us : List V} {i j : Nat} (h : ¬ i < us.length) : tellS c (us, i, j) = (us, i, j) := by unfold tellS; simp only; rw [if_neg h]
theorem OwnV.swp {w : World} {base b J cp : Nat} {vs : List V} (h : OwnV w base (.slice (some ⟨b, 0, none⟩) vs.length cp) vs) (hJ : J + 1 < vs.length) (x y : V) :
    OwnV ((((((w.setCell ⟨b, J * 3, none⟩ (.int .i64 y.k)).setCell ⟨b, J * 3 + 1, none⟩ (.int .i64 y.n)).setCell ⟨b, J * 3 + 2, none⟩ (.string y.s)).setCell ⟨b, (J + 1) * 3, none⟩ (.int .i64 x.k)).setCell ⟨b, (J + 1) * 3 + 1, none⟩ (.int .i64 x.n)).setCell ⟨b, (J + 1) * 3 + 2, none⟩ (.string x.s))
      base (.slice (some ⟨b, 0, none⟩) vs.length cp) (swp vs J x y) := by
  have h1 := h.put y (show J < vs.length by omega)
  have h2 : OwnV (((w.setCell ⟨b, J * 3, none⟩ (.int .i64 y.k)).setCell ⟨b, J * 3 + 1, none⟩ (.int .i64 y.n)).setCell ⟨b, J * 3 + 2, none⟩ (.string y.s)) base (.slice (some ⟨b, 0, none⟩) (vs.set J y).length cp) (vs.set J y) := by rw [List.length_set]; exact h1
  have h3 := h2.put x (show J + 1 < (vs.set J y).length by rw [List.length_set]; exact hJ)
  rw [List.length_set] at h3
  exact h3
theorem tell_down {c : Int} {us : List V} {i J : Nat} {x y : V} (hi : i < us.length) (hx : us[J]? = some x) (hy : us[J + 1]? = some y) (hc : 0 < c) :
    tellS c (us, i, J + 1) = (if J = 0 then (swp us J x y, i + 1, i + 1) else (swp us J x y, i, J)) := by
  have he : exch us J = swp us J x y := by unfold exch; rw [hx, hy]
  unfold tellS
  simp only
  rw [if_pos hi, if_pos hc, show J + 1 - 1 = J from rfl, he]
theorem Asked.swap {w w1 wr w6 : World} {g b J c i n : Nat} {v : Value} {us : List V} {x y : V} {cc : Int} (h : Asked w w1 wr g v (.slice (some ⟨b, 0, none⟩) n c) n (us, i, J + 1)) (hy : us[J + 1]? = some y)
    (hc : tellS cc (us, i, J + 1) = (if J = 0 then (swp us J x y, i + 1, i + 1) else (swp us J x y, i, J)))
    (hs : Srt w6 w1.heap.size g v (tellS cc (us, i, J + 1)).1 (tellS cc (us, i, J + 1)).2.1 (tellS cc (us, i, J + 1)).2.2) (ho : OwnV w6 w1.heap.size (.slice (some ⟨b, 0, none⟩) us.length c) us) (hb : Below w.heap.size w w6) (hne : ¬ (b = g ∨ v.ownBlock = some b)) (nn : Nat) :
    Asked w w1 (((((((w6.drewN nn).setCell ⟨b, J * 3, none⟩ (.int .i64 y.k)).setCell ⟨b, J * 3 + 1, none⟩ (.int .i64 y.n)).setCell ⟨b, J * 3 + 2, none⟩ (.string y.s)).setCell ⟨b, (J + 1) * 3, none⟩ (.int .i64 x.k)).setCell ⟨b, (J + 1) * 3 + 1, none⟩ (.int .i64 x.n)).setCell ⟨b, (J + 1) * 3 + 2, none⟩ (.string x.s))
      g v (.slice (some ⟨b, 0, none⟩) n c) n (tellS cc (us, i, J + 1)) := by
  have hn : us.length = n := h.len
  have hJ := (List.getElem?_eq_some_iff.1 hy).1
  have hk := ((((((((Kp.refl (fun z => z = b) w6).drewN nn).setCell (p := ⟨b, J * 3, none⟩) (.inr rfl) (.int .i64 y.k)).setCell (p := ⟨b, J * 3 + 1, none⟩) (.inr rfl) (.int .i64 y.n)).setCell (p := ⟨b, J * 3 + 2, none⟩) (.inr rfl) (.string y.s)).setCell (p := ⟨b, (J + 1) * 3, none⟩) (.inr rfl) (.int .i64 x.k)).setCell (p := ⟨b, (J + 1) * 3 + 1, none⟩) (.inr rfl) (.int .i64 x.n)).setCell (p := ⟨b, (J + 1) * 3 + 2, none⟩) (.inr rfl) (.string x.s))
  have hd : OwnV (w6.drewN nn) w1.heap.size (.slice (some ⟨b, 0, none⟩) us.length c) us := ho.kp (S := fun _ => False) ((Kp.refl _ w6).drewN nn) (fun _ _ => id)
  have h2 := OwnV.swp hd hJ x y
  rw [hn] at h2
  refine h.turn cc (hs.kp hk (fun e => hne (.inl e.symm)) (fun b' e e2 => hne (.inr (by rw [← e2]; exact e)))) ?_ (kp_below hb hk (fun b' hb' e => ?_))
  · rw [show (tellS cc (us, i, J + 1)).1 = swp us J x y by rw [hc]; split <;> rfl]
    exact h2
  · have h3 := (ho.lo (g := b) rfl).1
    have h4 := h.low
    omega
theorem Asked.drew {w w1 wr : World} {g : Nat} {v lv : Value} {n : Nat} {s : S3} (h : Asked w w1 wr g v lv n s) : Asked w w1 wr.drew g v lv n s :=
  ⟨h.srt.drewN 1, h.own.kp (S := fun _ => False) ((Kp.refl _ wr).drewN 1) (fun _ _ => id), h.ok, h.len, h.le, h.apart, h.off, below_drewN h.bel 1, h.low, h.glo⟩
set_option maxRecDepth 100000 in
set_option maxHeartbeats 16000000 in
theorem asks_walk {w : World} {A B : Option Addr} {n c m d : Nat} {vs : List V} {cs : List Int} (hv : RdV w A n vs) (hc : Rd w B m 1 (cs.map (Value.int .i64))) (hn : n ≤ 40) (hm : m ≤ 400) :
    Calls Try.prog 4 #[.slice A n c, .slice B m d] w fun e w' => e = .returned (.bool true) ∧ Below w.heap.size w w' := by
  have q : decide (40 < (n : Int)) = false := decide_eq_false (by omega)
  have q2 : decide (400 < (m : Int)) = false := decide_eq_false (by omega)
  have HV := Lib.hid hv
  have HC := Lib.hid hc
  have HL := Lib.hid hv.len
  obtain ⟨i0, hi, hz0, hz1, hz2⟩ := info_parts info26
  have HI := Lib.hid (And.intro hi (And.intro hz0 (And.intro hz1 hz2)))
  clear hv hc hi hz0 hz1 hz2
  go_enter Try.func4, Try.ntmps4
  go_wp2_with (first
    | (go_at_call 7; refine (sorts_any _).mono ?_; rintro e w1 ⟨rfl, hb1⟩; have HB1 := Lib.hid hb1; clear hb1)
    | (go_at_call 9; refine (order_new (HV.out.below HB1.out) (by omega)).mono ?_; rintro e w2 ⟨g, v, rfl, hg, hs, hb2⟩; have H2 := Lib.hid (And.intro hs (And.intro hb2 hg)); clear hs hb2 hg)
    | (at_builtin; refine wpList_append_rd rfl w2.heap.size (.tmp 28) (.tmp 29) 24 rfl 26 i0 _ 3 32 Try.underlying24 HI.out.1 HI.out.2.1 HI.out.2.2.1 HI.out.2.2.2 rfl (by omega) (.slice (some ⟨w2.heap.size, 0, none⟩) 0 0) 0 [] (by rfl) (by exact World.ownsRow_made w2 #[] 0 (Nat.le_refl _) (by unfold maxLen; omega) rfl) A n c (vcs vs) (by rfl) (by exact ((HV.out.below HB1.out).below H2.out.2.1).alloc _) (vcs_one _) (by unfold maxLen; omega) (by omega) (by simp) ?_; intro lv w3 hown3 hg3 hat3; have H3 := Lib.hid (And.intro hown3 (And.intro hg3 hat3)); clear hown3 hg3 hat3))
  have hl0 := HL.out
  have hst : OwnV w3 w1.heap.size lv vs ∧ Below w.heap.size w w3 ∧ Srt w3 w1.heap.size g v vs 1 1 ∧ (∀ b', v.ownBlock = some b' → lv.ownBlock ≠ some b') ∧ lv.ownBlock ≠ some g := by
    obtain ⟨hs2, hb2, hg2⟩ := H2.out
    obtain ⟨ho3, hg3, hat3⟩ := H3.out
    have z1 := hb2.size
    have hb3 : Below w2.heap.size w2 w3 := (below_alloc (Below.refl _ _) _).grown hg3 (by simp) (fun k hk => by simp [Value.ownBlock] at hk; omega)
    have ho : OwnV w3 w2.heap.size lv vs := by
      rw [Nat.zero_add, List.nil_append] at ho3
      unfold OwnV
      rw [hl0]
      exact ho3
    refine ⟨ho.mono z1, (HB1.out.trans (hb2.mono HB1.out.size)).trans (hb3.mono (Nat.le_trans HB1.out.size z1)), hs2.below hb3, fun b' e1 e2 => ?_, fun e2 => ?_⟩
    · have := (hs2.own.lo e1).2
      have := (ho.lo e2).1
      omega
    · have := hs2.blk.lt
      have := (ho.lo e2).1
      omega
  obtain ⟨A3, c3, hlv, hcl3, _⟩ := hst.1.rd
  rw [hl0] at hlv hcl3
  subst hlv
  have HST := Lib.hid hst
  have hw1 := HB1.out.size
  have hgg : w1.heap.size ≤ g := H2.out.2.2
  clear hst hl0
  go_loopw [7, 8, 33] (fun i j t wr => ∃ (k : Nat) (s : S3), k ≤ m ∧ t = .int .i64 k ∧ i = .int .i64 s.2.1 ∧ j = .int .i64 s.2.2 ∧ Asked w w1 wr g v (.slice A3 n c3) n s) (fun _ _ t _ => m - (intOf t).toNat)
  case atStart =>
    obtain ⟨a1, a2, a3, a4, a5⟩ := HST.out
    exact ⟨0, (vs, 1, 1), Nat.zero_le _, rfl, rfl, rfl, ⟨a3, a1, ⟨Nat.le_refl _, Nat.le_refl _⟩, HL.out, by simp, a4, a5, a2, hw1, hgg⟩⟩
  case round =>
    obtain ⟨k, ⟨us, i, j⟩, hk, rfl, rfl, rfl, hask⟩ := hrel
    have HA := Lib.hid hask
    have hi1 : i ≤ n + 1 := hask.le
    have hlen : us.length = n := hask.len
    have HLEN := Lib.hid hlen
    clear hask
    by_cases hlt : k < m
    · obtain ⟨bb, oo, cc, rfl, hbb, _, hcc⟩ := (HC.out.below HA.out.bel).int_at hlt
      have hk0 : (0 : Int) ≤ (k : Int) := by omega
      have hkm : (k : Int) < (m : Int) := by omega
      by_cases hi : i < n
      · obtain ⟨J, x, y, rfl, hx, hy⟩ := ask_two HA.out.ok (show i < us.length by omega)
        have HX := Lib.hid (And.intro hx hy)
        obtain ⟨b3, rfl⟩ := HA.out.own.head (show 0 < us.length by omega)
        obtain ⟨_, _, rfl', _, hr⟩ : ∃ A' c', (Value.slice (some ⟨b3, 0, none⟩) n c3) = .slice A' us.length c' ∧ us.length ≤ c' ∧ RdV wr A' us.length us := HA.out.own.rd
        have hJ1 : J + 1 < us.length := (List.getElem?_eq_some_iff.1 hy).1
        injection rfl' with e1 e2 e3
        subst e1 e3
        obtain ⟨p1, o1, x', hA1, hpb, hx', x0, x1, x2⟩ := hr.at_ (show J < us.length by omega)
        obtain ⟨p2, o2, y', hA2, _, hy', y0, y1, y2⟩ := hr.at_ hJ1
        injection hA1 with hA1
        injection hA1 with hA11 hA12
        injection hA2 with hA2
        injection hA2 with hA21 hA22
        subst hA11 hA12 hA21 hA22
        rw [hx] at hx'
        rw [hy] at hy'
        injection hx' with hx'
        injection hy' with hy'
        subst hx' hy'
        simp only [Nat.zero_add] at x0 x1 x2 y0 y1 y2
        have qi : decide ((i : Int) < (n : Int)) = true := decide_eq_true (by omega)
        have qi2 : decide (i < n) = true := decide_eq_true hi
        have hq1 := run_neq_V x x
        have hq2 := run_neq_V y y
        rw [veq_self] at hq1 hq2
        obtain ⟨k1, n1, s1⟩ := x
        obtain ⟨k2, n2, s2⟩ := y
        unfold V.agg at hq1 hq2
        simp only at x0 x1 x2 y0 y1 y2
        have z1 : IntKind.i64.wrap (((J + 1 : Nat) : Int) - 1) = (J : Int) := by rw [IntWalk.i64_in _ (by omega)]; omega
        have z2 : (0 : Int) ≤ (J : Int) := by omega
        have z3 : (J : Int) < (n : Int) := by omega
        have z4 : (0 : Int) ≤ (J : Int) + 1 := by omega
        have z5 : (J : Int) + 1 < (n : Int) := by omega
        have z6 : ((J : Int) + 1).toNat = J + 1 := by omega
        have HJ := Lib.hid hJ1
        clear hlen hx hy hr e2 hJ1
        by_cases hc : 0 < cc
        · have qc : decide (0 < cc) = true := decide_eq_true hc
          have qc2 : decide (cc ≤ 0) = false := decide_eq_false (by omega)
          have hnb : ¬ (b3 = g ∨ v.ownBlock = some b3) := fun e => e.elim (fun e => HA.out.off (by rw [← e]; rfl)) (fun e => HA.out.apart b3 e rfl)
          have HNB := Lib.hid hnb
          have HCC := Lib.hid (tell_down (show i < us.length by have := HLEN.out; omega) HX.out.1 HX.out.2 hc)
          clear hc hnb
          go_wp2_with (go_at_call 10; refine (pair_some HA.out.srt (by have := HLEN.out; show i < us.length; omega) HX.out.1 HX.out.2 (by have := HLEN.out; show us.length ≤ _; omega)).mono ?_; rintro e w5 ⟨rfl, hb5⟩; have l5 := Nat.lt_of_lt_of_le hpb hb5.size; have l6 := Nat.lt_succ_of_lt l5; have x0' := (hb5.cell (p := ⟨b3, J * 3, none⟩) hpb).trans x0; have x1' := (hb5.cell (p := ⟨b3, J * 3 + 1, none⟩) hpb).trans x1; have x2' := (hb5.cell (p := ⟨b3, J * 3 + 2, none⟩) hpb).trans x2; have y0' := (hb5.cell (p := ⟨b3, (J + 1) * 3, none⟩) hpb).trans y0; have y1' := (hb5.cell (p := ⟨b3, (J + 1) * 3 + 1, none⟩) hpb).trans y1; have y2' := (hb5.cell (p := ⟨b3, (J + 1) * 3 + 2, none⟩) hpb).trans y2; have HB5 := Lib.hid hb5; clear hb5; unfold V.agg)
          go_quiet (fail)
          go_wp2_with (go_at_call 11; refine (tell_any ((((HA.out.srt.below HB5.out).alloc _).alloc _).drewN _) HA.out.ok (by have := HLEN.out; show us.length ≤ _; omega) (by show i ≤ _; omega) cc).mono ?_; rintro e w6 ⟨rfl, hs6, hk6⟩; have H6 := Lib.hid (And.intro hs6 hk6); clear hs6 hk6)
          have hbx : Below wr.heap.size wr ((((w5.alloc (.cells #[.int .i64 k1, .int .i64 n1, .string s1] 26)).alloc (.cells #[.int .i64 k2, .int .i64 n2, .string s2] 26)))) := below_alloc (below_alloc HB5.out _) _
          have hkx := (Kp.of_below (S := fun b => b = g ∨ v.ownBlock = some b) hbx)
          have hkq := H6.out.2
          have xx0 := (hkq.cell (p := ⟨b3, J * 3, none⟩) (Nat.lt_of_lt_of_le hpb hbx.size) HNB.out).trans ((hbx.cell (p := ⟨b3, J * 3, none⟩) hpb).trans x0)
          have xx1 := (hkq.cell (p := ⟨b3, J * 3 + 1, none⟩) (Nat.lt_of_lt_of_le hpb hbx.size) HNB.out).trans ((hbx.cell (p := ⟨b3, J * 3 + 1, none⟩) hpb).trans x1)
          have xx2 := (hkq.cell (p := ⟨b3, J * 3 + 2, none⟩) (Nat.lt_of_lt_of_le hpb hbx.size) HNB.out).trans ((hbx.cell (p := ⟨b3, J * 3 + 2, none⟩) hpb).trans x2)
          have yy0 := (hkq.cell (p := ⟨b3, (J + 1) * 3, none⟩) (Nat.lt_of_lt_of_le hpb hbx.size) HNB.out).trans ((hbx.cell (p := ⟨b3, (J + 1) * 3, none⟩) hpb).trans y0)
          have yy1 := (hkq.cell (p := ⟨b3, (J + 1) * 3 + 1, none⟩) (Nat.lt_of_lt_of_le hpb hbx.size) HNB.out).trans ((hbx.cell (p := ⟨b3, (J + 1) * 3 + 1, none⟩) hpb).trans y1)
          have yy2 := (hkq.cell (p := ⟨b3, (J + 1) * 3 + 2, none⟩) (Nat.lt_of_lt_of_le hpb hbx.size) HNB.out).trans ((hbx.cell (p := ⟨b3, (J + 1) * 3 + 2, none⟩) hpb).trans y2)
          have ho6 := HA.out.more ((Kp.of_below (S := fun _ => False) hbx).drewN _ |>.below (fun _ _ h => h)) hkq
          have hl6 : OwnV w6 w1.heap.size (.slice (some ⟨b3, 0, none⟩) us.length c3) us := by have := ho6.1; rwa [show (Value.slice (some ⟨b3, 0, none⟩) n c3) = .slice (some ⟨b3, 0, none⟩) us.length c3 by rw [HLEN.out]] at this
          have HL6 := Lib.hid (And.intro hl6 ho6.2)
          have r0 := hl6.frozen (J * 3)
          have r1 := hl6.frozen (J * 3 + 1)
          have r2 := hl6.frozen (J * 3 + 2)
          have r3 := hl6.frozen ((J + 1) * 3)
          have r4 := hl6.frozen ((J + 1) * 3 + 1)
          have r5 := hl6.frozen ((J + 1) * 3 + 2)
          clear hbx hkx hkq ho6 hl6 x0 x1 x2 y0 y1 y2 x0' x1' x2' y0' y1' y2'
          have q8 : IntKind.i64.wrap (J : Int) = (J : Int) := IntWalk.i64_in _ (by omega)
          have q9 : IntKind.i64.wrap ((J : Int) + 1 - 1) = (J : Int) := by rw [IntWalk.i64_in _ (by omega)]; omega
          generalize hwq : w6 = wq
          have hWQ : ∃ n, wq = w6.drewN n := ⟨0, by rw [← hwq]; rfl⟩
          have HWQ := Lib.hid hWQ
          have rr0 : wq.frozen? ⟨b3, J * 3, none⟩ = false := by rw [← hwq]; exact r0
          have rr1 : wq.frozen? ⟨b3, J * 3 + 1, none⟩ = false := by rw [← hwq]; exact r1
          have rr2 : wq.frozen? ⟨b3, J * 3 + 2, none⟩ = false := by rw [← hwq]; exact r2
          have rr3 : wq.frozen? ⟨b3, (J + 1) * 3, none⟩ = false := by rw [← hwq]; exact r3
          have rr4 : wq.frozen? ⟨b3, (J + 1) * 3 + 1, none⟩ = false := by rw [← hwq]; exact r4
          have rr5 : wq.frozen? ⟨b3, (J + 1) * 3 + 2, none⟩ = false := by rw [← hwq]; exact r5
          have xq0 : wq.cell? ⟨b3, J * 3, none⟩ = some (.int .i64 k1) := by rw [← hwq]; exact xx0
          have xq1 : wq.cell? ⟨b3, J * 3 + 1, none⟩ = some (.int .i64 n1) := by rw [← hwq]; exact xx1
          have xq2 : wq.cell? ⟨b3, J * 3 + 2, none⟩ = some (.string s1) := by rw [← hwq]; exact xx2
          have yq0 : wq.cell? ⟨b3, (J + 1) * 3, none⟩ = some (.int .i64 k2) := by rw [← hwq]; exact yy0
          have yq1 : wq.cell? ⟨b3, (J + 1) * 3 + 1, none⟩ = some (.int .i64 n2) := by rw [← hwq]; exact yy1
          have yq2 : wq.cell? ⟨b3, (J + 1) * 3 + 2, none⟩ = some (.string s2) := by rw [← hwq]; exact yy2
          clear hwq hWQ r0 r1 r2 r3 r4 r5 xx0 xx1 xx2 yy0 yy1 yy2
          go_region
          go_wp2
          all_goals
            obtain ⟨nn, rfl⟩ := HWQ.out
            have hsw := (HA.out.swap HX.out.2 HCC.out H6.out.1 HL6.out.1 HL6.out.2 HNB.out nn).drew
            rw [HCC.out] at hsw
          · rw [if_pos (by omega)] at hsw
            exact ⟨⟨k + 1, (_, i + 1, i + 1), by omega, by go_num, by go_num, by go_num, hsw⟩, by simp [intOf]; omega⟩
          · rw [if_neg (by omega)] at hsw
            exact ⟨⟨k + 1, (_, i, J), by omega, by go_num, rfl, rfl, hsw⟩, by simp [intOf]; omega⟩
        · have qc : decide (0 < cc) = false := decide_eq_false hc
          have qc2 : decide (cc ≤ 0) = true := decide_eq_true (by omega)
          have HCC := Lib.hid hc
          clear hc
          go_wp2_with (go_at_call 10; refine (pair_some HA.out.srt (by have := HLEN.out; show i < us.length; omega) HX.out.1 HX.out.2 (by have := HLEN.out; show us.length ≤ _; omega)).mono ?_; rintro e w5 ⟨rfl, hb5⟩; have l5 := Nat.lt_of_lt_of_le hpb hb5.size; have l6 := Nat.lt_succ_of_lt l5; have x0' := (hb5.cell (p := ⟨b3, J * 3, none⟩) hpb).trans x0; have x1' := (hb5.cell (p := ⟨b3, J * 3 + 1, none⟩) hpb).trans x1; have x2' := (hb5.cell (p := ⟨b3, J * 3 + 2, none⟩) hpb).trans x2; have y0' := (hb5.cell (p := ⟨b3, (J + 1) * 3, none⟩) hpb).trans y0; have y1' := (hb5.cell (p := ⟨b3, (J + 1) * 3 + 1, none⟩) hpb).trans y1; have y2' := (hb5.cell (p := ⟨b3, (J + 1) * 3 + 2, none⟩) hpb).trans y2; have HB5 := Lib.hid hb5; clear hb5; unfold V.agg)
          go_quiet (fail)
          go_wp2_with (go_at_call 11; refine (tell_any ((((HA.out.srt.below HB5.out).alloc _).alloc _).drewN _) HA.out.ok (by have := HLEN.out; show us.length ≤ _; omega) (by show i ≤ _; omega) cc).mono ?_; rintro e w6 ⟨rfl, hs6, hk6⟩; have H6 := Lib.hid (And.intro hs6 hk6); clear hs6 hk6)
          go_roundw
          case rel =>
            obtain ⟨hs6, hk6⟩ := H6.out
            have ho6 := HA.out.more ((Kp.of_below (S := fun _ => False) (below_alloc (below_alloc HB5.out _) _)).drewN _ |>.below (fun _ _ h => h)) hk6
            have e : tellS cc (us, i, J + 1) = (us, i + 1, i + 1) := by unfold tellS; simp only; rw [if_pos (by have := HLEN.out; omega), if_neg (by have := HCC.out; omega)]
            have ht := HA.out.turn cc hs6 (by rw [e]; exact ho6.1) ho6.2
            rw [e] at ht
            exact ⟨k + 1, (us, i + 1, i + 1), by omega, by go_num, by go_num, by go_num, ht⟩
          case measure => simp [intOf]; omega
      · have qi : decide ((i : Int) < (n : Int)) = false := decide_eq_false (by omega)
        have qi2 : decide (i < n) = false := decide_eq_false hi
        clear hlen
        go_wp2_with (first
          | (go_at_call 10; refine (pair_none HA.out.srt (by have := HLEN.out; show us.length ≤ i; omega) (by show i ≤ _; omega)).mono ?_; rintro e w5 ⟨rfl, hb5⟩; have HB5 := Lib.hid hb5; clear hb5; unfold V.agg V.null)
          | (go_at_call 11; refine (tell_any (((HA.out.srt.below HB5.out).alloc _).alloc _) HA.out.ok (by have := HLEN.out; show us.length ≤ _; omega) (by show i ≤ _; omega) cc).mono ?_; rintro e w6 ⟨rfl, hs6, hk6⟩; have H6 := Lib.hid (And.intro hs6 hk6); clear hs6 hk6))
        go_roundw
        case rel =>
          have hne : ¬ i < us.length := by have := HLEN.out; omega
          obtain ⟨hs6, hk6⟩ := H6.out
          have ho6 := HA.out.more (below_alloc (below_alloc HB5.out _) _) hk6
          have e := tellS_none (c := cc) (j := j) hne
          have ht := HA.out.turn cc hs6 (by rw [e]; exact ho6.1) ho6.2
          rw [e] at ht
          exact ⟨k + 1, (us, i, j), by omega, by go_num, rfl, rfl, ht⟩
        case measure => simp [intOf]; omega
    · obtain rfl : k = m := by omega
      obtain ⟨A4, c4, rfl', hcap, hr⟩ := HA.out.own.rd
      injection rfl' with e1 e2 e3
      subst e1 e3
      clear e2 hlt
      rw [hlen] at hr
      have HR := Lib.hid hr
      clear hr hcap hlen
      go_wp2_with (go_at_call 13; refine (sort_values HA.out.srt (by have := HLEN.out; show us.length ≤ _; omega)).mono ?_; rintro e w5 ⟨ov, rfl, ho5, hb5⟩; have H5 := Lib.hid (And.intro ho5 hb5); clear ho5 hb5; obtain ⟨A5, c5, rfl, _, hr5⟩ := H5.out.1.rd; rw [HLEN.out] at hr5; have HR5 := Lib.hid hr5; clear hr5; simp only [HLEN.out])
      go_loopw [107] (fun t wr2 => ∃ (k2 nn : Nat), k2 ≤ n ∧ t = .int .i64 k2 ∧ wr2 = w5.drewN nn) (fun t _ => n - (intOf t).toNat)
      case atStart => exact ⟨0, 0, Nat.zero_le _, rfl, rfl⟩
      case round =>
        obtain ⟨k2, nn, hk2, rfl, rfl⟩ := hrel
        by_cases h2 : k2 < n
        · obtain ⟨p1, o1, x, rfl, hpb, hx', x0, x1, x2⟩ := HR5.out.at_ h2
          obtain ⟨p2, o2, y, rfl, hpb2, hy', y0, y1, y2⟩ := RdV.at_ (show RdV w5 A3 n us from HR.out.below H5.out.2) h2
          rw [hx'] at hy'
          injection hy' with hy'
          subst hy'
          have hq1 := run_neq_V x x
          rw [veq_self] at hq1
          obtain ⟨kx, nx, sx⟩ := x
          unfold V.agg at hq1
          simp only at x0 x1 x2 y0 y1 y2
          have z0 : decide ((k2 : Int) < (n : Int)) = true := decide_eq_true (by omega)
          have z1 : (0 : Int) ≤ (k2 : Int) := by omega
          have z2 : (k2 : Int) < (n : Int) := by omega
          clear hx'
          go_wp2
          go_quiet (fail)
          go_wp2
          go_roundw
          case rel => exact ⟨k2 + 1, _, by omega, by go_num, rfl⟩
          case measure => simp [intOf]; omega
        · have z0 : decide ((k2 : Int) < (n : Int)) = false := decide_eq_false (by omega)
          obtain rfl : k2 = n := by omega
          go_wp2
          go_ret
          exact ⟨by simp, below_drewN (HA.out.bel.trans (H5.out.2.mono HA.out.bel.size)) _⟩
end Go.Proofs.Ytecoghabjcnbnaa
