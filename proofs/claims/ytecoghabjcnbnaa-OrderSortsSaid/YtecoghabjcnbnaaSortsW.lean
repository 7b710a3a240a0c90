/- The walk of dreylaw19.OrderSorts. Condition: the list as it came in. -/
import Derived.Test.YtecoghabjcnbnaaSing
import Derived.Deep.RegionHeld3
import Derived.WalkArith
namespace Go.Proofs.Ytecoghabjcnbnaa
open Go.RowKit
set_option linter.unusedVariables false
set_option linter.unusedSimpArgs false
theorem keep8 {W : World} {a b p0 p1 p2 p3 p4 p5 : Nat} {v0 v1 v2 v3 v4 v5 : Value} (o : Obj) (h : W.cell? ⟨a, p0, none⟩ = some v0 ∧ W.cell? ⟨a, p1, none⟩ = some v1 ∧ W.cell? ⟨a, p2, none⟩ = some v2 ∧ W.cell? ⟨b, p3, none⟩ = some v3 ∧ W.cell? ⟨b, p4, none⟩ = some v4 ∧ W.cell? ⟨b, p5, none⟩ = some v5 ∧ a < W.heap.size ∧ b < W.heap.size) :
    (W.alloc o).cell? ⟨a, p0, none⟩ = some v0 ∧ (W.alloc o).cell? ⟨a, p1, none⟩ = some v1 ∧ (W.alloc o).cell? ⟨a, p2, none⟩ = some v2 ∧ (W.alloc o).cell? ⟨b, p3, none⟩ = some v3 ∧ (W.alloc o).cell? ⟨b, p4, none⟩ = some v4 ∧ (W.alloc o).cell? ⟨b, p5, none⟩ = some v5 ∧ a < (W.alloc o).heap.size ∧ b < (W.alloc o).heap.size := by
  obtain ⟨h0, h1, h2, h3, h4, h5, h6, h7⟩ := h
  exact ⟨(World.cell?_alloc_lt _ _ _ h6).trans h0, (World.cell?_alloc_lt _ _ _ h6).trans h1, (World.cell?_alloc_lt _ _ _ h6).trans h2, (World.cell?_alloc_lt _ _ _ h7).trans h3, (World.cell?_alloc_lt _ _ _ h7).trans h4, (World.cell?_alloc_lt _ _ _ h7).trans h5, by simp; omega, by simp; omega⟩
theorem osorts_big {w : World} {A : Option Addr} {n c : Nat} (h : 80 < n) (hn : n ≤ 9223372036854775807) :
    Calls Try.prog 3 #[.slice A n c] w fun e w' => e = .returned (.bool true) ∧ Below w.heap.size w w' := by
  have q : decide (80 < (n : Int)) = true := decide_eq_true (by omega)
  clear h
  go_enter Try.func3, Try.ntmps3
  go_wp2_with (go_at_call 7; refine (sorts_any _).mono ?_; rintro e w1 ⟨rfl, hb1⟩; have HB1 := Lib.hid hb1; clear hb1)
  go_ret
  exact ⟨rfl, HB1.out⟩
set_option maxRecDepth 100000 in
set_option maxHeartbeats 16000000 in
theorem osorts_walk {w : World} {A : Option Addr} {n c : Nat} {cs : List Int} (hc : Rd w A n 1 (cs.map (Value.int .i64))) (hn : n ≤ 80) :
    Calls Try.prog 3 #[.slice A n c] w fun e w' => e = .returned (.bool true) ∧ Below w.heap.size w w' := by
  have q : decide (80 < (n : Int)) = false := decide_eq_false (by omega)
  have HC := Lib.hid hc
  obtain ⟨i0, hi, hz0, hz1, hz2⟩ := info_parts info26
  have HI := Lib.hid (And.intro hi (And.intro hz0 (And.intro hz1 hz2)))
  clear hc hi hz0 hz1 hz2
  go_enter Try.func3, Try.ntmps3
  go_wp2_with (go_at_call 7; refine (sorts_any _).mono ?_; rintro e w4 ⟨rfl, hb1⟩; have HB4 := Lib.hid hb1; clear hb1)
  have hlc : cs.length = n := by have := HC.out.1; simpa using this
  have HLV := Lib.hid ((ents_len cs).trans hlc)
  have HE := Lib.hid (And.intro (ents_int cs (by omega)) (ents_stab cs (by omega)))
  have HAT := Lib.hid (fun (i : Nat) (c : Int) (h : cs[i]? = some c) => ents_at h)
  obtain ⟨vs, hvs⟩ : ∃ vs : List V, vs = ents cs := ⟨_, rfl⟩
  rw [← hvs] at HLV HE HAT
  clear hlc hvs
  go_loopw [3, 26] (fun vl t wr => ∃ (k : Nat), k ≤ n ∧ t = .int .i64 k ∧ OwnV wr w4.heap.size vl (vs.take k) ∧ Below w4.heap.size w4 wr) (fun _ t _ => n - (intOf t).toNat)
  case atStart => exact ⟨0, Nat.zero_le _, rfl, World.ownsRow_nil _ _ _ _, Below.refl _ _⟩
  case round =>
    obtain ⟨k, hk, rfl, hvl, hbr⟩ := hrel
    have HVL := Lib.hid hvl
    have HBR := Lib.hid hbr
    have hBw : Below w.heap.size w wr := HB4.out.trans (hbr.mono HB4.out.size)
    have HBW := Lib.hid hBw
    have hl2 : (vs.take k).length = k := by have := HLV.out; simp; omega
    obtain ⟨A6, c6, rfl, hcap6, hr6⟩ := hvl.rd
    rw [hl2] at hr6 hcap6
    have HR6 := Lib.hid hr6
    have HL2 := Lib.hid hl2
    by_cases hlt : k < n
    · obtain ⟨bb, oo, cc, rfl, hbb, hck, hcc⟩ := (HC.out.below hBw).int_at hlt
      have hk0 : (0 : Int) ≤ (k : Int) := by omega
      have hkn : (k : Int) < (n : Int) := by omega
      have HK := Lib.hid (HAT.out k cc hck)
      have h10 := tm10 cc
      have hm1 : IntKind.i64.wrap (cc.tmod 10) = cc.tmod 10 := IntWalk.i64_in _ (by omega)
      have HM1 := Lib.hid hm1
      obtain ⟨t10, ht10⟩ : ∃ t10, cc.tmod 10 = t10 := ⟨_, rfl⟩
      rw [ht10] at h10 HK
      have hw1 : IntKind.i64.wrap t10 = t10 := IntWalk.i64_in _ (by omega)
      have HW1 := Lib.hid (And.intro hw1 (And.intro (show IntKind.i64.wrap (t10 * 1000) = t10 * 1000 from IntWalk.i64_in _ (by omega)) (show IntKind.i64.wrap (t10 * 1000 + k) = t10 * 1000 + k from IntWalk.i64_in _ (by omega))))
      clear hvl hbr hBw hr6 hck hm1 hw1
      rw [hl2]
      clear hl2
      go_wp2_with (first
        | (go_at_call 8; refine (int_any _ _).mono ?_; rintro e w1 ⟨rfl, rfl⟩; unfold V.agg V.int; try simp only)
        | (at_builtin; refine wpList_append_rd rfl w4.heap.size (.tmp 31) (.tmp 38) 24 rfl 26 i0 _ 3 32 Try.underlying24 HI.out.1 HI.out.2.1 HI.out.2.2.1 HI.out.2.2.2 rfl (by omega) (.slice A6 k c6) k (vcs (vs.take k)) (by rfl) (by have h := HVL.out.below (below_alloc (below_alloc (Below.refl _ _) (.cells #[.int .i64 2, .int .i64 (t10 * 1000 + (k : Int)), .string ⟨#[]⟩] 26)) (.cells #[.int .i64 2, .int .i64 (t10 * 1000 + (k : Int)), .string ⟨#[]⟩] 26)); unfold OwnV at h; rw [HL2.out] at h; exact h) (some ⟨wr.heap.size + 1, 0, none⟩) 1 1 (vcs [V.int (t10 * 1000 + (k : Int))]) (by rfl) (by exact Rd.of_blk (Blk.made (by simp) 26 (vcs [V.int (t10 * 1000 + (k : Int))])) rfl) (vcs_one _) (by unfold maxLen; omega) (by omega) (by have := HBR.out.size; simp; omega) ?_; intro v7 w7 hown7 hg7 hat7; have H7 := Lib.hid (And.intro hown7 (And.intro hg7 hat7)); clear hown7 hg7 hat7))
      go_roundw
      case rel =>
        obtain ⟨ho7, hg7, _⟩ := H7.out
        refine ⟨k + 1, by omega, by go_num, ?_, ?_⟩
        · rw [List.take_add_one, HK.out]
          exact own_more (by rw [HL2.out]; exact ho7)
        · exact (HBR.out.trans ((below_alloc (below_alloc (Below.refl _ _) _) _).mono HBR.out.size)).grown hg7 (by have := HBR.out.size; simp; omega) (fun b hb => (HVL.out.lo (g := b) (by rw [HL2.out]; exact hb)).1)
      case measure => simp [intOf]; omega
    · obtain rfl : k = n := by omega
      have hvk : vs.take k = vs := List.take_of_length_le (by rw [HLV.out]; omega)
      rw [hvk] at HR6 HVL
      rw [hl2]
      clear hvl hbr hBw hr6 hvk hl2 HL2
      go_wp2_with (go_at_call 9; refine (order_new HR6.out (by omega)).mono ?_; rintro e w5 ⟨g5, v5, rfl, hg, hs, hb2⟩; have H5 := Lib.hid (And.intro hs (And.intro hb2 hg)); clear hs hb2 hg)
      have hA6 : ∀ ad, A6 = some ad → ad.block < wr.heap.size := fun ad e => by
        obtain ⟨b, o, sp⟩ := ad
        exact (HVL.out.lo (g := b) (by rw [e]; rfl)).2
      have HA6 := Lib.hid hA6
      clear hA6
      obtain ⟨wb, hwb⟩ : ∃ wb, wb = wr := ⟨_, rfl⟩
      have hsing : Sing wr w5 g5 v5 k vs 0 (vs, 1, 1) := Sing.start H5.out.1 HLV.out HE.out.2 H5.out.2.1 H5.out.2.2
      have HS0 := Lib.hid hsing
      rw [← hwb] at HS0 HBW HR6 HBR HA6
      clear hsing
      have hkk : k * k ≤ 6400 := Nat.le_trans (Nat.mul_le_mul hn hn) (by omega)
      obtain ⟨M, hM⟩ : ∃ M : Nat, k * k = M := ⟨_, rfl⟩
      have hMi : (k : Int) * (k : Int) = (M : Int) := by rw [← hM]; simp
      have HY5 := Lib.hid (show wrap64 (10 + wrap64 ((k : Int) * (k : Int))) = (M : Int) + 10 by have e1 : wrap64 ((k : Int) * (k : Int)) = (M : Int) := (by unfold wrap64; omega); rw [e1]; unfold wrap64; omega)
      clear hMi
      rw [hM] at hkk
      have HM := Lib.hid hM
      clear hM
      go_loopw [49] (fun t wr2 => ∃ (r : Nat) (s : S3), t = .int .i64 r ∧ Sing wb wr2 g5 v5 k vs r s) (fun t _ => M + 10 - (intOf t).toNat)
      case atStart => exact ⟨0, (vs, 1, 1), rfl, HS0.out⟩
      case round =>
        obtain ⟨r, ⟨us, i, j⟩, rfl, hw2⟩ := hrel
        have HR := Lib.hid hw2
        have hi1 : i ≤ k + 1 := hw2.le
        have hlen : us.length = k := hw2.len
        have HLEN := Lib.hid hlen
        have hok := hw2.ok
        have hr1 : r ≤ M + 1 := by have := hw2.mu; rw [HM.out] at this; omega
        have z0 : decide ((r : Int) < wrap64 (10 + wrap64 ((k : Int) * (k : Int)))) = true := decide_eq_true (by rw [HY5.out]; omega)
        have z0' : (r : Int) < wrap64 (10 + wrap64 ((k : Int) * (k : Int))) := by rw [HY5.out]; omega
        clear hw2
        by_cases hi : i < k
        · obtain ⟨J, x, y, rfl, hx, hy⟩ := ask_two hok (show i < us.length by omega)
          have hxi := (HE.out.1 x ((HR.out.mem x).1 (List.mem_of_getElem? hx)))
          have hyi := (HE.out.1 y ((HR.out.mem y).1 (List.mem_of_getElem? hy)))
          have hx2 : us[J]? = some (V.int x.n) := by rw [← hxi.1]; exact hx
          have hy2 : us[J + 1]? = some (V.int y.n) := by rw [← hyi.1]; exact hy
          obtain ⟨a, ha⟩ : ∃ a, x.n = a := ⟨_, rfl⟩
          obtain ⟨b, hb⟩ : ∃ b, y.n = b := ⟨_, rfl⟩
          obtain ⟨_, ha1, ha2⟩ := hxi
          obtain ⟨_, hb1, hb2⟩ := hyi
          rw [ha] at hx2 ha1 ha2
          rw [hb] at hy2 hb1 hb2
          have HX := Lib.hid (And.intro hx2 hy2)
          clear hok hlen hx hy hx2 hy2 ha hb
          have HT := Lib.hid (fun (wx W : World) (h : Below wr.heap.size wr wx) (h2 : Below wx.heap.size wx W) => (tell_any (HR.out.below (h.trans (h2.mono h.size))).srt HR.out.ok (by have := HLEN.out; show us.length ≤ _; omega) (by show i ≤ _; omega) (tenI a - tenI b)))
          have hta : -1000 ≤ tenI a ∧ tenI a ≤ 1000 := by unfold tenI; omega
          have htb : -1000 ≤ tenI b ∧ tenI b ≤ 1000 := by unfold tenI; omega
          have hwt : IntKind.i64.wrap (tenI a - tenI b) = tenI a - tenI b := IntWalk.i64_in _ (by omega)
          go_wp2_with (go_at_call 10; refine (pair_some HR.out.srt (by have := HLEN.out; show i < us.length; omega) HX.out.1 HX.out.2 (by have := HLEN.out; show us.length ≤ _; omega)).mono ?_; rintro e w7 ⟨rfl, hb7⟩; have HB7 := Lib.hid hb7; clear hb7; unfold V.agg V.int)
          have hne : ∀ b', w7.heap.size ≤ b' → ¬ (b' = g5 ∨ v5.ownBlock = some b') := fun b' hb' e => by
            have h1 := HB7.out.size
            rcases e with e | e
            · have := HR.out.srt.blk.lt; omega
            · have := (HR.out.srt.own.lo e).2; omega
          have hne0 := hne w7.heap.size (Nat.le_refl _)
          have hne1 := hne (w7.heap.size + 1) (by omega)
          have HNE := Lib.hid hne
          clear hne
          have hn1 : w7.heap.size < w7.heap.size + 1 + 1 := by omega
          have hn2 : w7.heap.size + 1 < w7.heap.size + 1 + 1 := by omega
          have hn3 : w7.heap.size < w7.heap.size + 1 + 1 + 1 := by omega
          have hn4 : w7.heap.size + 1 < w7.heap.size + 1 + 1 + 1 := by omega
          go_region_held3 (fun w' => w'.cell? ⟨w7.heap.size, 0, none⟩ = some (.int .i64 2) ∧ w'.cell? ⟨w7.heap.size, 1, none⟩ = some (.int .i64 a) ∧ w'.cell? ⟨w7.heap.size, 2, none⟩ = some (.string ⟨#[]⟩) ∧ w'.cell? ⟨w7.heap.size + 1, 0, none⟩ = some (.int .i64 2) ∧ w'.cell? ⟨w7.heap.size + 1, 1, none⟩ = some (.int .i64 b) ∧ w'.cell? ⟨w7.heap.size + 1, 2, none⟩ = some (.string ⟨#[]⟩)) ((first | (refine ⟨?_, ?_, ?_, ?_, ?_, ?_⟩ <;> (rw [hk9.cell (by first | (simp; done) | (simp; omega)) (by first | exact hne0 | exact hne1)]; go_simp)) | (refine ⟨?_, ?_, ?_, ?_, ?_, ?_⟩ <;> go_simp)))
              (first
                | (go_at_call 12; refine (tens_any _ (by omega) (by omega) _).mono ?_; rintro e w' ⟨rfl, rfl⟩)
                | (go_at_call 11; refine (HT.out _ _ HB7.out (by repeat (first | exact Below.refl _ _ | refine Below.drew ?_ | refine below_alloc ?_ _))).mono ?_; rintro e w9 ⟨rfl, hs9, hk9⟩))
          go_wp2
          go_roundw
          case rel =>
            exact ⟨r + 1, _, by go_num, Sing.next (HR.out.below (HB7.out.trans (Below.mono (by repeat (first | exact Below.refl _ _ | refine Below.drew ?_ | refine below_alloc ?_ _)) HB7.out.size))) (show i < us.length by have := HLEN.out; omega) HX.out.1 HX.out.2 rfl hs9 hk9⟩
          case measure => simp [intOf]; omega
        · have hki : k ≤ i := by omega
          have HRI := Lib.hid (fun (p q : Nat) (x y : V) (h1 : p < q) (h2 : us[p]? = some x) (h3 : us[q]? = some y) => HR.out.rise hki h1 h2 h3)
          clear hok hlen
          have hmm := @run_makeMap Try.prog
          go_wp2_with (first
            | (go_at_call 10; first
                | (refine (pair_none HR.out.srt (by have := HLEN.out; show us.length ≤ i; omega) (by show i ≤ _; omega)).mono ?_; rintro e w7 ⟨rfl, hb7⟩; have HB7 := Lib.hid hb7; have HR7 := Lib.hid (HR.out.below (below_alloc (below_alloc hb7 (.cells #[.int .i64 0, .int .i64 0, .string ⟨#[]⟩] 26)) (.cells #[.int .i64 0, .int .i64 0, .string ⟨#[]⟩] 26))); clear hb7; unfold V.agg V.null)
                | (refine (pair_none HR7.out.srt (by have := HLEN.out; show us.length ≤ i; omega) (by show i ≤ _; omega)).mono ?_; rintro e w8 ⟨rfl, hb8⟩; have HB8 := Lib.hid hb8; have HR8 := Lib.hid (HR7.out.below (below_alloc (below_alloc hb8 (.cells #[.int .i64 0, .int .i64 0, .string ⟨#[]⟩] 26)) (.cells #[.int .i64 0, .int .i64 0, .string ⟨#[]⟩] 26))); clear hb8; unfold V.agg V.null))
            | (go_at_call 13; refine (sort_values HR8.out.srt (by have := HLEN.out; show us.length ≤ _; omega)).mono ?_; rintro e w9 ⟨v9, rfl, ho9, hb9⟩; obtain ⟨A9, c9, rfl, _, hr9⟩ := ho9.rd; have H9 := Lib.hid (And.intro ho9 hb9); rw [HLEN.out] at hr9; have HR9 := Lib.hid hr9; clear ho9 hr9 hb9; simp only [HLEN.out]))
          clear hmm
          have hA9 : ∀ ad, A9 = some ad → ad.block < w9.heap.size := fun ad e => by
            obtain ⟨b, o, sp⟩ := ad
            exact (H9.out.1.lo (g := b) (by rw [e]; rfl)).2
          have HA9 := Lib.hid hA9
          clear hA9
          go_loopw [79] (fun t wr3 => ∃ (p : Nat), p ≤ k ∧ t = .int .i64 p ∧ SM wr3 w9.heap.size (seenF (us.take p)) p ∧ Kp (fun b => b = w9.heap.size) (w9.alloc (.map #[] 0)) wr3) (fun t _ => k - (intOf t).toNat)
          case atStart => exact ⟨0, Nat.zero_le _, rfl, SM.new w9, Kp.refl _ _⟩
          case round =>
            obtain ⟨p, hp, rfl, hsm, hkp⟩ := hrel
            have HSM := Lib.hid hsm
            have HKP := Lib.hid hkp
            have hmb := hsm.lt
            have hr3 : RdV wr A9 k us := (Rd.alloc HR9.out _).kp hkp (fun ad e (h : ad.block = w9.heap.size) => absurd (HA9.out ad e) (by omega))
            by_cases hpk : p < k
            · obtain ⟨b9, o9, x, rfl, hpb, hx, x0, x1, x2⟩ := RdV.at_ hr3 hpk
              have hxi := HE.out.1 x ((HR.out.mem x).1 (List.mem_of_getElem? hx))
              obtain ⟨kx, nx, sx⟩ := x
              obtain ⟨hxe, hx1, hx2⟩ := hxi
              simp only [V.int] at hxe hx1 hx2
              injection hxe with e1 _ e3
              subst e1 e3
              simp only at x0 x1 x2
              have z1 : (0 : Int) ≤ (p : Int) := by omega
              have z2 : (p : Int) < (k : Int) := by omega
              have hwf : wfk nx := WalkArith.wf_i64 ⟨by omega, by omega⟩
              have hnew : seenF (us.take p) nx = false := seenF_new (x := V.int nx) (fun q y hq hy => (HRI.out q p y (V.int nx) hq hy hx).1)
              have hnext : updB (seenF (us.take p)) nx = seenF (us.take (p + 1)) := seenF_next (x := V.int nx) hx
              obtain ⟨w', hrun, hsm2, hg2, hsz2⟩ := SM.put ((HSM.out.kp (S := fun _ => False) ((Kp.refl _ _).alloc (.cells #[.int .i64 2, .int .i64 nx, .string ⟨#[]⟩] 26)) id)) Try.underlying35 (by omega) hwf hnew
              rw [hnext] at hsm2
              unfold V.agg V.int at hrun
              have hk3 : Kp (fun b => b = w9.heap.size) (wr.alloc (.cells #[.int .i64 2, .int .i64 nx, .string ⟨#[]⟩] 26)) w' := Kp.of_grown hg2 (fun g e => by injection e with e; exact e.symm)
              have hsz : w'.heap.size = wr.heap.size + 1 := by rw [hsz2]; simp
              have hb9 : b9 ≠ w9.heap.size := by have := HA9.out _ rfl; simp only at this; omega
              have hr4 : RdV w' (some ⟨b9, o9, none⟩) k us := (Rd.alloc hr3 _).kp hk3 (fun ad e (h : ad.block = w9.heap.size) => by have := HA9.out ad e; omega)
              have t0 : w'.cell? ⟨wr.heap.size, 0, none⟩ = some (.int .i64 2) := (hk3.cell (p := ⟨wr.heap.size, 0, none⟩) (by simp) (fun (e : wr.heap.size = w9.heap.size) => by omega)).trans (by go_simp)
              have t1 : w'.cell? ⟨wr.heap.size, 1, none⟩ = some (.int .i64 nx) := (hk3.cell (p := ⟨wr.heap.size, 1, none⟩) (by simp) (fun (e : wr.heap.size = w9.heap.size) => by omega)).trans (by go_simp)
              have t2 : w'.cell? ⟨wr.heap.size, 2, none⟩ = some (.string ⟨#[]⟩) := (hk3.cell (p := ⟨wr.heap.size, 2, none⟩) (by simp) (fun (e : wr.heap.size = w9.heap.size) => by omega)).trans (by go_simp)
              have H3 := Lib.hid (And.intro hsm2 hk3)
              have hbw : b9 < w'.heap.size := by omega
              have htw : wr.heap.size < w'.heap.size := by omega
              have hpa : b9 < wr.heap.size + 1 := by omega
              clear hsm2 hk3 hg2 hsz2 hsm hkp hnew hnext hr3
              by_cases hp0 : p = 0
              · have q0 : decide ((0 : Int) < (p : Int)) = false := decide_eq_false (by omega)
                have q0n : decide (0 < p) = false := decide_eq_false (by omega)
                clear hr4 hp0
                go_wp2
                go_quiet (fail)
                go_wp2
                go_roundw
                case rel => exact ⟨p + 1, by omega, by go_num, H3.out.1.kp (S := fun _ => False) ((Kp.refl _ w').drewN _) id, ((HKP.out.alloc _).trans H3.out.2 (fun b _ h => h)).drewN _⟩
                case measure => simp [intOf]; omega
              · obtain ⟨P, hP⟩ : ∃ P, p = P + 1 := ⟨p - 1, by omega⟩
                have q0 : decide ((0 : Int) < (p : Int)) = true := decide_eq_true (by omega)
                have q0n : decide (0 < p) = true := decide_eq_true (by omega)
                obtain ⟨b8, o8, y, hA8, hpb8, hy, y0, y1, y2⟩ := RdV.at_ hr4 (show P < k by omega)
                injection hA8 with hA8
                injection hA8 with hA81 hA82
                subst hA81 hA82
                have hyi := HE.out.1 y ((HR.out.mem y).1 (List.mem_of_getElem? hy))
                have hlt := HRI.out P p y _ (by omega) hy hx
                obtain ⟨ky, ny, sy⟩ := y
                obtain ⟨hye, hy1, hy2⟩ := hyi
                simp only [V.int] at hye hy1 hy2
                injection hye with e1 _ e3
                subst e1 e3
                simp only at y0 y1 y2
                obtain ⟨hlt1, hlt2⟩ := hlt
                simp only [KT] at hlt1 hlt2
                have z3 : IntKind.i64.wrap ((p : Int) - 1) = (P : Int) := by rw [IntWalk.i64_in _ (by omega)]; omega
                have z4 : (0 : Int) ≤ (P : Int) := by omega
                have z5 : (P : Int) < (k : Int) := by omega
                have q1 : decide (tenI nx < tenI ny) = false := decide_eq_false (by omega)
                have q3 : decide (nx < ny) = false := decide_eq_false (by omega)
                have HP := Lib.hid hP
                clear hr4 hp0 hP hlt1 hlt2
                by_cases ht : tenI ny = tenI nx
                · have q2 : (tenI ny == tenI nx) = true := by simpa using ht
                  clear ht
                  go_wp2
                  go_region_held3 (fun wx => wx.cell? ⟨wr.heap.size, 0, none⟩ = some (.int .i64 2) ∧ wx.cell? ⟨wr.heap.size, 1, none⟩ = some (.int .i64 nx) ∧ wx.cell? ⟨wr.heap.size, 2, none⟩ = some (.string ⟨#[]⟩) ∧ wx.cell? ⟨b9, o9 + P * 3, none⟩ = some (.int .i64 2) ∧ wx.cell? ⟨b9, o9 + P * 3 + 1, none⟩ = some (.int .i64 ny) ∧ wx.cell? ⟨b9, o9 + P * 3 + 2, none⟩ = some (.string ⟨#[]⟩) ∧ wr.heap.size < wx.heap.size ∧ b9 < wx.heap.size) ((first | exact ⟨t0, t1, t2, y0, y1, y2, htw, hbw⟩ | exact keep8 _ (by assumption) | assumption))
                    (first
                      | (go_at_call 12; refine (tens_any _ (by omega) (by omega) _).mono ?_; rintro e w'' ⟨rfl, rfl⟩))
                  go_wp2
                  go_roundw
                  case rel =>
                    have hkx : ∀ (W : World), Kp (fun _ => False) w' W → SM W w9.heap.size (seenF (us.take (p + 1))) (p + 1) ∧ Kp (fun b => b = w9.heap.size) (w9.alloc (.map #[] 0)) W := fun W h => ⟨H3.out.1.kp h id, ((HKP.out.alloc _).trans H3.out.2 (fun b _ h => h)).trans h (fun _ _ h => h.elim)⟩
                    exact ⟨p + 1, by omega, by go_num, hkx _ (by repeat (first | exact Kp.refl _ _ | refine Kp.drew ?_ | refine Kp.alloc ?_ _))⟩
                  case measure => simp [intOf]; omega
                · have q2 : (tenI ny == tenI nx) = false := by simpa using ht
                  have q2b : decide (tenI ny = tenI nx) = false := decide_eq_false ht
                  clear ht
                  go_wp2
                  refine wp_region_held_drew (S := fun wx => wx.cell? ⟨wr.heap.size, 0, none⟩ = some (.int .i64 2) ∧ wx.cell? ⟨wr.heap.size, 1, none⟩ = some (.int .i64 nx) ∧ wx.cell? ⟨wr.heap.size, 2, none⟩ = some (.string ⟨#[]⟩) ∧ wx.cell? ⟨b9, o9 + P * 3, none⟩ = some (.int .i64 2) ∧ wx.cell? ⟨b9, o9 + P * 3 + 1, none⟩ = some (.int .i64 ny) ∧ wx.cell? ⟨b9, o9 + P * 3 + 2, none⟩ = some (.string ⟨#[]⟩) ∧ wr.heap.size < wx.heap.size ∧ b9 < wx.heap.size) (by kernel_rfl) ?_ (fun hHeld => ?_)
                  · exact ⟨t0, t1, t2, y0, y1, y2, htw, hbw⟩
                  refine wpAnyH_take (i := 0) (v := ?_) (by simp only [List.getElem?_toArray, List.getElem?_cons_succ, List.getElem?_cons_zero]; rfl) (by kernel_rfl) (by kernel_rfl) (by kernel_rfl) (by intro _ _ _ h; exact h) (Or.inl ⟨by rfl, ?_⟩) (by assumption) ?_
                  rotate_left
                  · (intro wq hSw; (try dsimp only at hSw); go_simp; try with_reducible rfl)
                  try simp only [Act.put, List.setIfInBounds_toArray, List.set_cons_zero, List.set_cons_succ]
                  refine wpAnyH_take (i := 1) (v := ?_) (by simp only [List.getElem?_toArray, List.getElem?_cons_succ, List.getElem?_cons_zero]; rfl) (by kernel_rfl) (by kernel_rfl) (by kernel_rfl) (by intro _ _ _ h; exact h) (Or.inl ⟨by rfl, ?_⟩) (by assumption) ?_
                  rotate_left
                  · (intro wq hSw; (try dsimp only at hSw); go_simp; try with_reducible rfl)
                  try simp only [Act.put, List.setIfInBounds_toArray, List.set_cons_zero, List.set_cons_succ]
                  refine wpAnyH_take (i := 2) (v := ?_) (by simp only [List.getElem?_toArray, List.getElem?_cons_succ, List.getElem?_cons_zero]; rfl) (by kernel_rfl) (by kernel_rfl) (by kernel_rfl) (by intro _ _ _ h; exact h) (Or.inl ⟨by rfl, ?_⟩) (by assumption) ?_
                  rotate_left
                  · (intro wq hSw; (try dsimp only at hSw); go_simp; try with_reducible rfl)
                  try simp only [Act.put, List.setIfInBounds_toArray, List.set_cons_zero, List.set_cons_succ]
                  refine wpAnyH_take (i := 3) (v := ?_) (by simp only [List.getElem?_toArray, List.getElem?_cons_succ, List.getElem?_cons_zero]; rfl) (by kernel_rfl) (by kernel_rfl) (by kernel_rfl) (by intro _ _ _ h; exact h) (Or.inl ⟨by rfl, ?_⟩) (by assumption) ?_
                  rotate_left
                  · (intro wq hSw; (try dsimp only at hSw); go_simp; try with_reducible rfl)
                  try simp only [Act.put, List.setIfInBounds_toArray, List.set_cons_zero, List.set_cons_succ]
                  refine wpAnyH_take (i := 4) (v := ?_) (by simp only [List.getElem?_toArray, List.getElem?_cons_succ, List.getElem?_cons_zero]; rfl) (by kernel_rfl) (by kernel_rfl) (by kernel_rfl) (by intro _ _ _ h; exact h) (Or.inl ⟨by rfl, ?_⟩) (by assumption) ?_
                  rotate_left
                  · (intro wq hSw; (try dsimp only at hSw); go_simp; try with_reducible rfl)
                  try simp only [Act.put, List.setIfInBounds_toArray, List.set_cons_zero, List.set_cons_succ]
                  refine wpAnyH_take (i := 5) (v := ?_) (by simp only [List.getElem?_toArray, List.getElem?_cons_succ, List.getElem?_cons_zero]; rfl) (by kernel_rfl) (by kernel_rfl) (by kernel_rfl) (by intro _ _ _ h; exact h) (Or.inl ⟨by rfl, ?_⟩) (by assumption) ?_
                  rotate_left
                  · (intro wq hSw; (try dsimp only at hSw); go_simp; try with_reducible rfl)
                  try simp only [Act.put, List.setIfInBounds_toArray, List.set_cons_zero, List.set_cons_succ]
                  refine wpAnyH_take (i := 6) (v := ?_) (by simp only [List.getElem?_toArray, List.getElem?_cons_succ, List.getElem?_cons_zero]; rfl) (by kernel_rfl) (by kernel_rfl) (by kernel_rfl) (by intro _ _ _ h; exact h) (Or.inl ⟨by rfl, ?_⟩) (by assumption) ?_
                  rotate_left
                  · (intro wq hSw; (try dsimp only at hSw); go_simp; try with_reducible rfl)
                  try simp only [Act.put, List.setIfInBounds_toArray, List.set_cons_zero, List.set_cons_succ]
                  refine wpAnyH_take (i := 7) (v := ?_) (by simp only [List.getElem?_toArray, List.getElem?_cons_succ, List.getElem?_cons_zero]; rfl) (by kernel_rfl) (by kernel_rfl) (by kernel_rfl) (by intro _ _ _ h; exact h) (Or.inl ⟨by rfl, ?_⟩) (by assumption) ?_
                  rotate_left
                  · (intro wq hSw; (try dsimp only at hSw); go_simp; try with_reducible rfl)
                  try simp only [Act.put, List.setIfInBounds_toArray, List.set_cons_zero, List.set_cons_succ]
                  refine wpAnyH_take (i := 9) (v := ?_) (by simp only [List.getElem?_toArray, List.getElem?_cons_succ, List.getElem?_cons_zero]; rfl) (by kernel_rfl) (by kernel_rfl) (by kernel_rfl) (by intro _ _ _ h; exact h) (Or.inl ⟨by rfl, ?_⟩) (by assumption) ?_
                  rotate_left
                  · (intro wq hSw; (try dsimp only at hSw); go_simp; try with_reducible rfl)
                  try simp only [Act.put, List.setIfInBounds_toArray, List.set_cons_zero, List.set_cons_succ]
                  refine wpAnyH_ready (rs := [8]) (by kernel_rfl) (by simp) ?_
                  refine AllReadyH.cons (by simp only [List.getElem?_toArray, List.getElem?_cons_succ, List.getElem?_cons_zero]; rfl) (fun K hK => ?_) ?_
                  rotate_left
                  · exact AllReadyH.nil
                  go_simp
                  refine (tens_any _ (by omega) (by omega) _).mono ?_; rintro e w'' ⟨rfl, rfl⟩; go_wp2
                  refine hK.out _ _ ?_ (fun hHeld => ?_)
                  · exact keep8 _ (by assumption)
                  clear hK K
                  try simp only [Act.put, List.setIfInBounds_toArray, List.set_cons_zero, List.set_cons_succ]
                  refine wpAnyH_ready (rs := [10]) (by kernel_rfl) (by simp) ?_
                  refine AllReadyH.cons (by simp only [List.getElem?_toArray, List.getElem?_cons_succ, List.getElem?_cons_zero]; rfl) (fun K hK => ?_) ?_
                  rotate_left
                  · exact AllReadyH.nil
                  go_simp
                  refine (tens_any _ (by omega) (by omega) _).mono ?_; rintro e w'' ⟨rfl, rfl⟩; go_wp2
                  refine hK.out _ _ ?_ (fun hHeld => ?_)
                  · exact keep8 _ (by assumption)
                  clear hK K
                  try simp only [Act.put, List.setIfInBounds_toArray, List.set_cons_zero, List.set_cons_succ]
                  refine wpAnyH_take (i := 11) (v := ?_) (by simp only [List.getElem?_toArray, List.getElem?_cons_succ, List.getElem?_cons_zero]; rfl) (by kernel_rfl) (by kernel_rfl) (by kernel_rfl) (by intro _ _ _ h; exact h) (Or.inl ⟨by rfl, ?_⟩) (by assumption) ?_
                  rotate_left
                  · (intro wq hSw; (try dsimp only at hSw); go_simp; try with_reducible rfl)
                  try simp only [Act.put, List.setIfInBounds_toArray, List.set_cons_zero, List.set_cons_succ]
                  refine wpAnyH_take (i := 12) (v := ?_) (by simp only [List.getElem?_toArray, List.getElem?_cons_succ, List.getElem?_cons_zero]; rfl) (by kernel_rfl) (by kernel_rfl) (by kernel_rfl) (by intro _ _ _ h; exact h) (Or.inl ⟨by rfl, ?_⟩) (by assumption) ?_
                  rotate_left
                  · (intro wq hSw; (try dsimp only at hSw); go_simp; try with_reducible rfl)
                  try simp only [Act.put, List.setIfInBounds_toArray, List.set_cons_zero, List.set_cons_succ]
                  refine wpAnyH_take (i := 13) (v := ?_) (by simp only [List.getElem?_toArray, List.getElem?_cons_succ, List.getElem?_cons_zero]; rfl) (by kernel_rfl) (by kernel_rfl) (by kernel_rfl) (by intro _ _ _ h; exact h) (Or.inl ⟨by rfl, ?_⟩) (by assumption) ?_
                  rotate_left
                  · (intro wq hSw; (try dsimp only at hSw); go_simp; try with_reducible rfl)
                  try simp only [Act.put, List.setIfInBounds_toArray, List.set_cons_zero, List.set_cons_succ]
                  refine wpAnyH_take (i := 14) (v := ?_) (by simp only [List.getElem?_toArray, List.getElem?_cons_succ, List.getElem?_cons_zero]; rfl) (by kernel_rfl) (by kernel_rfl) (by kernel_rfl) (by intro _ _ _ h; exact h) (Or.inl ⟨by rfl, ?_⟩) (by assumption) ?_
                  rotate_left
                  · (intro wq hSw; (try dsimp only at hSw); go_simp; try with_reducible rfl)
                  try simp only [Act.put, List.setIfInBounds_toArray, List.set_cons_zero, List.set_cons_succ]
                  refine wpAnyH_take (i := 15) (v := ?_) (by simp only [List.getElem?_toArray, List.getElem?_cons_succ, List.getElem?_cons_zero]; rfl) (by kernel_rfl) (by kernel_rfl) (by kernel_rfl) (by intro _ _ _ h; exact h) (Or.inl ⟨by rfl, ?_⟩) (by assumption) ?_
                  rotate_left
                  · (intro wq hSw; (try dsimp only at hSw); go_simp; try with_reducible rfl)
                  try simp only [Act.put, List.setIfInBounds_toArray, List.set_cons_zero, List.set_cons_succ]
                  refine wpAnyH_take (i := 16) (v := ?_) (by simp only [List.getElem?_toArray, List.getElem?_cons_succ, List.getElem?_cons_zero]; rfl) (by kernel_rfl) (by kernel_rfl) (by kernel_rfl) (by intro _ _ _ h; exact h) (Or.inl ⟨by rfl, ?_⟩) (by assumption) ?_
                  rotate_left
                  · (intro wq hSw; (try dsimp only at hSw); go_simp; try with_reducible rfl)
                  try simp only [Act.put, List.setIfInBounds_toArray, List.set_cons_zero, List.set_cons_succ]
                  refine wpAnyH_take (i := 17) (v := ?_) (by simp only [List.getElem?_toArray, List.getElem?_cons_succ, List.getElem?_cons_zero]; rfl) (by kernel_rfl) (by kernel_rfl) (by kernel_rfl) (by intro _ _ _ h; exact h) (Or.inl ⟨by rfl, ?_⟩) (by assumption) ?_
                  rotate_left
                  · (intro wq hSw; (try dsimp only at hSw); go_simp; try with_reducible rfl)
                  try simp only [Act.put, List.setIfInBounds_toArray, List.set_cons_zero, List.set_cons_succ]
                  refine wpAnyH_take (i := 19) (v := ?_) (by simp only [List.getElem?_toArray, List.getElem?_cons_succ, List.getElem?_cons_zero]; rfl) (by kernel_rfl) (by kernel_rfl) (by kernel_rfl) (by intro _ _ _ h; exact h) (Or.inl ⟨by rfl, ?_⟩) (by assumption) ?_
                  rotate_left
                  · (intro wq hSw; (try dsimp only at hSw); go_simp; try with_reducible rfl)
                  try simp only [Act.put, List.setIfInBounds_toArray, List.set_cons_zero, List.set_cons_succ]
                  refine wpAnyH_ready (rs := [18]) (by kernel_rfl) (by simp) ?_
                  refine AllReadyH.cons (by simp only [List.getElem?_toArray, List.getElem?_cons_succ, List.getElem?_cons_zero]; rfl) (fun K hK => ?_) ?_
                  rotate_left
                  · exact AllReadyH.nil
                  go_simp
                  refine (tens_any _ (by omega) (by omega) _).mono ?_; rintro e w'' ⟨rfl, rfl⟩; go_wp2
                  refine hK.out _ _ ?_ (fun hHeld => ?_)
                  · exact keep8 _ (by assumption)
                  clear hK K
                  try simp only [Act.put, List.setIfInBounds_toArray, List.set_cons_zero, List.set_cons_succ]
                  refine wpAnyH_ready (rs := [20]) (by kernel_rfl) (by simp) ?_
                  refine AllReadyH.cons (by simp only [List.getElem?_toArray, List.getElem?_cons_succ, List.getElem?_cons_zero]; rfl) (fun K hK => ?_) ?_
                  rotate_left
                  · exact AllReadyH.nil
                  go_simp
                  refine (tens_any _ (by omega) (by omega) _).mono ?_; rintro e w'' ⟨rfl, rfl⟩; go_wp2
                  refine hK.out _ _ ?_ (fun hHeld => ?_)
                  · exact keep8 _ (by assumption)
                  clear hK K
                  try simp only [Act.put, List.setIfInBounds_toArray, List.set_cons_zero, List.set_cons_succ]
                  refine wpAnyH_take (i := 21) (v := ?_) (by simp only [List.getElem?_toArray, List.getElem?_cons_succ, List.getElem?_cons_zero]; rfl) (by kernel_rfl) (by kernel_rfl) (by kernel_rfl) (by intro _ _ _ h; exact h) (Or.inl ⟨by rfl, ?_⟩) (by assumption) ?_
                  rotate_left
                  · (intro wq hSw; (try dsimp only at hSw); go_simp; try with_reducible rfl)
                  try simp only [Act.put, List.setIfInBounds_toArray, List.set_cons_zero, List.set_cons_succ]
                  refine wpAnyH_take (i := 22) (v := ?_) (by simp only [List.getElem?_toArray, List.getElem?_cons_succ, List.getElem?_cons_zero]; rfl) (by kernel_rfl) (by kernel_rfl) (by kernel_rfl) (by intro _ _ _ h; exact h) (Or.inl ⟨by rfl, ?_⟩) (by assumption) ?_
                  rotate_left
                  · (intro wq hSw; (try dsimp only at hSw); go_simp; try with_reducible rfl)
                  try simp only [Act.put, List.setIfInBounds_toArray, List.set_cons_zero, List.set_cons_succ]
                  refine wpAnyH_take (i := 23) (v := undef) (by simp only [List.getElem?_toArray, List.getElem?_cons_succ, List.getElem?_cons_zero]; rfl) (by kernel_rfl) (by kernel_rfl) (by kernel_rfl) (by intro _ _ _ h; exact h) (Or.inr ⟨by rfl, rfl⟩) (by assumption) ?_
                  try simp only [Act.put, List.setIfInBounds_toArray, List.set_cons_zero, List.set_cons_succ]
                  refine wpAnyH_take (i := 24) (v := undef) (by simp only [List.getElem?_toArray, List.getElem?_cons_succ, List.getElem?_cons_zero]; rfl) (by kernel_rfl) (by kernel_rfl) (by kernel_rfl) (by intro _ _ _ h; exact h) (Or.inr ⟨by rfl, rfl⟩) (by assumption) ?_
                  try simp only [Act.put, List.setIfInBounds_toArray, List.set_cons_zero, List.set_cons_succ]
                  refine wpAnyH_take (i := 25) (v := undef) (by simp only [List.getElem?_toArray, List.getElem?_cons_succ, List.getElem?_cons_zero]; rfl) (by kernel_rfl) (by kernel_rfl) (by kernel_rfl) (by intro _ _ _ h; exact h) (Or.inr ⟨by rfl, rfl⟩) (by assumption) ?_
                  try simp only [Act.put, List.setIfInBounds_toArray, List.set_cons_zero, List.set_cons_succ]
                  refine wpAnyH_take (i := 26) (v := undef) (by simp only [List.getElem?_toArray, List.getElem?_cons_succ, List.getElem?_cons_zero]; rfl) (by kernel_rfl) (by kernel_rfl) (by kernel_rfl) (by intro _ _ _ h; exact h) (Or.inr ⟨by rfl, rfl⟩) (by assumption) ?_
                  try simp only [Act.put, List.setIfInBounds_toArray, List.set_cons_zero, List.set_cons_succ]
                  refine wpAnyH_take (i := 27) (v := undef) (by simp only [List.getElem?_toArray, List.getElem?_cons_succ, List.getElem?_cons_zero]; rfl) (by kernel_rfl) (by kernel_rfl) (by kernel_rfl) (by intro _ _ _ h; exact h) (Or.inr ⟨by rfl, rfl⟩) (by assumption) ?_
                  try simp only [Act.put, List.setIfInBounds_toArray, List.set_cons_zero, List.set_cons_succ]
                  refine wpAnyH_take (i := 28) (v := undef) (by simp only [List.getElem?_toArray, List.getElem?_cons_succ, List.getElem?_cons_zero]; rfl) (by kernel_rfl) (by kernel_rfl) (by kernel_rfl) (by intro _ _ _ h; exact h) (Or.inr ⟨by rfl, rfl⟩) (by assumption) ?_
                  try simp only [Act.put, List.setIfInBounds_toArray, List.set_cons_zero, List.set_cons_succ]
                  refine wpAnyH_take (i := 29) (v := undef) (by simp only [List.getElem?_toArray, List.getElem?_cons_succ, List.getElem?_cons_zero]; rfl) (by kernel_rfl) (by kernel_rfl) (by kernel_rfl) (by intro _ _ _ h; exact h) (Or.inr ⟨by rfl, rfl⟩) (by assumption) ?_
                  try simp only [Act.put, List.setIfInBounds_toArray, List.set_cons_zero, List.set_cons_succ]
                  refine wpAnyH_take (i := 30) (v := undef) (by simp only [List.getElem?_toArray, List.getElem?_cons_succ, List.getElem?_cons_zero]; rfl) (by kernel_rfl) (by kernel_rfl) (by kernel_rfl) (by intro _ _ _ h; exact h) (Or.inr ⟨by rfl, rfl⟩) (by assumption) ?_
                  try simp only [Act.put, List.setIfInBounds_toArray, List.set_cons_zero, List.set_cons_succ]
                  refine wpAnyH_take (i := 31) (v := undef) (by simp only [List.getElem?_toArray, List.getElem?_cons_succ, List.getElem?_cons_zero]; rfl) (by kernel_rfl) (by kernel_rfl) (by kernel_rfl) (by intro _ _ _ h; exact h) (Or.inr ⟨by rfl, rfl⟩) (by assumption) ?_
                  try simp only [Act.put, List.setIfInBounds_toArray, List.set_cons_zero, List.set_cons_succ]
                  refine wpAnyH_take (i := 32) (v := ?_) (by simp only [List.getElem?_toArray, List.getElem?_cons_succ, List.getElem?_cons_zero]; rfl) (by kernel_rfl) (by kernel_rfl) (by kernel_rfl) (by intro _ _ _ h; exact h) (Or.inl ⟨by rfl, ?_⟩) (by assumption) ?_
                  rotate_left
                  · (intro wq hSw; (try dsimp only at hSw); go_simp; try with_reducible rfl)
                  try simp only [Act.put, List.setIfInBounds_toArray, List.set_cons_zero, List.set_cons_succ]
                  refine wpAnyH_take (i := 33) (v := ?_) (by simp only [List.getElem?_toArray, List.getElem?_cons_succ, List.getElem?_cons_zero]; rfl) (by kernel_rfl) (by kernel_rfl) (by kernel_rfl) (by intro _ _ _ h; exact h) (Or.inl ⟨by rfl, ?_⟩) (by assumption) ?_
                  rotate_left
                  · (intro wq hSw; (try dsimp only at hSw); go_simp; try with_reducible rfl)
                  try simp only [Act.put, List.setIfInBounds_toArray, List.set_cons_zero, List.set_cons_succ]
                  refine wpAnyH_take (i := 34) (v := ?_) (by simp only [List.getElem?_toArray, List.getElem?_cons_succ, List.getElem?_cons_zero]; rfl) (by kernel_rfl) (by kernel_rfl) (by kernel_rfl) (by intro _ _ _ h; exact h) (Or.inl ⟨by rfl, ?_⟩) (by assumption) ?_
                  rotate_left
                  · (intro wq hSw; (try dsimp only at hSw); go_simp; try with_reducible rfl)
                  try simp only [Act.put, List.setIfInBounds_toArray, List.set_cons_zero, List.set_cons_succ]
                  refine wpAnyH_done (by kernel_rfl) ?_ _
                  go_wp2
                  go_roundw
                  case rel =>
                    have hkx : ∀ (W : World), Kp (fun _ => False) w' W → SM W w9.heap.size (seenF (us.take (p + 1))) (p + 1) ∧ Kp (fun b => b = w9.heap.size) (w9.alloc (.map #[] 0)) W := fun W h => ⟨H3.out.1.kp h id, ((HKP.out.alloc _).trans H3.out.2 (fun b _ h => h)).trans h (fun _ _ h => h.elim)⟩
                    exact ⟨p + 1, by omega, by go_num, hkx _ (by repeat (first | exact Kp.refl _ _ | refine Kp.drew ?_ | refine Kp.alloc ?_ _))⟩
                  case measure => simp [intOf]; omega
            · have q4 : decide ((p : Int) < (k : Int)) = false := decide_eq_false (by omega)
              obtain rfl : p = k := by omega
              have hus : us.take p = us := List.take_of_length_le (by have := HLEN.out; omega)
              rw [hus] at HSM
              have hb39 : Below wb.heap.size wb w9 := HR8.out.bel.trans (H9.out.2.mono HR8.out.bel.size)
              have hr6 : RdV wr A6 p vs := (Rd.alloc (HR6.out.below hb39) _).kp hkp (fun ad e (h : ad.block = w9.heap.size) => by have := HA6.out ad e; have := hb39.size; omega)
              have hbe : Below w.heap.size w wr := kp_below ((HBW.out.trans (hb39.mono HBW.out.size)).alloc (Nat.le_trans HBW.out.size hb39.size) _) hkp (fun b hb (h : b = w9.heap.size) => by have := HBW.out.size; have := hb39.size; omega)
              have HR63 := Lib.hid hr6
              have HBE := Lib.hid hbe
              have HVLEN := Lib.hid HLV.out
              clear hsm hkp hr3 hus hb39 hr6 hbe q4 hpk
              have hz0 : ∀ W, (zeroValue 4).run Try.prog W = .ok (.bool false) W := fun W => by kernel_rfl
              have HZ := Lib.hid hz0
              clear hz0
              go_wp2
              go_loopw [124] (fun t wr4 => ∃ (q : Nat), q ≤ p ∧ t = .int .i64 q ∧ Below wr.heap.size wr wr4) (fun t _ => p - (intOf t).toNat)
              case atStart => exact ⟨0, Nat.zero_le _, rfl, Below.refl _ _⟩
              case round =>
                obtain ⟨q4, hq4, rfl, hb4⟩ := hrel
                have HB4q := Lib.hid hb4
                have hsm4 := HSM.out.below hb4
                by_cases hqk : q4 < p
                · obtain ⟨b6, o6, x, rfl, hxb, hx, x0, x1, x2⟩ := RdV.at_ (HR63.out.below hb4) hqk
                  have hxv := List.mem_of_getElem? hx
                  have hxi := HE.out.1 x hxv
                  have hin := seenF_in ((HR.out.mem x).2 hxv)
                  obtain ⟨kx, nx, sx⟩ := x
                  obtain ⟨hxe, hx1, hx2⟩ := hxi
                  simp only [V.int] at hxe hx1 hx2 hin
                  injection hxe with e1 _ e3
                  subst e1 e3
                  simp only at x0 x1 x2
                  have z1 : (0 : Int) ≤ (q4 : Int) := by omega
                  have z2 : (q4 : Int) < (p : Int) := by omega
                  have hwf : wfk nx := WalkArith.wf_i64 ⟨by omega, by omega⟩
                  have hrun := SM.look ((hsm4.kp (S := fun _ => False) ((Kp.refl _ _).alloc (.cells #[.int .i64 2, .int .i64 nx, .string ⟨#[]⟩] 26)) id)) Try.underlying35 HZ.out hwf
                  rw [hin] at hrun
                  unfold V.agg V.int at hrun
                  clear hsm4 hb4 hx hxv hin
                  go_wp2
                  go_roundw
                  case rel => exact ⟨q4 + 1, by omega, by go_num, HB4q.out.trans ((below_alloc (Below.refl _ _) _).mono HB4q.out.size)⟩
                  case measure => simp [intOf]; omega
                · have z5 : decide ((q4 : Int) < (p : Int)) = false := decide_eq_false (by omega)
                  have hlen := fun ty => SM.len hsm4 Try.underlying35 ty
                  clear hsm4 hb4
                  go_wp2
                  go_ret
                  exact ⟨rfl, HBE.out.trans (HB4q.out.mono HBE.out.size)⟩
end Go.Proofs.Ytecoghabjcnbnaa
