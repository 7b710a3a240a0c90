/- The walk of dreytop.WholeSorts. Conditions: the list as it came in. -/
import Derived.Test.YtecoghabjcnbnaaTots
import Derived.Test.YtecoghabjcnbnaaAsks
namespace Go.Proofs.Ytecoghabjcnbnaa
open Go.RowKit
set_option linter.unusedVariables false
theorem values_len {w : World} {g : Nat} {base sb k : Nat} {sv : Value} {svs : List V} {si sj : Int} (hb : Blk w g 42 (fcs (-1) V.null V.null (.slice none 0 0) 0 0 0 V.null (ptr sb) (-1))) (hs : Srt w base sb sv svs si sj) (hk : svs.length = k) (hsn : k ≤ 1000) :
    Calls Try.prog 16 #[.pointer (some ⟨g, 0, none⟩)] w fun e w' => ∃ A c, e = .returned (.slice A (k + 3) c) ∧ Below w.heap.size w w' := by
  refine (values_sort (regs := []) hb (Rd.nil _ _ _) (by omega) hs (by omega) (by omega)).mono ?_
  rintro e w' ⟨v, rfl, ho, hb⟩
  obtain ⟨A, c, rfl, _, _⟩ := ho.rd
  have e : ((([V.null, V.null, V.null] ++ ([] : List V)) ++ svs).length) = k + 3 := by simp [hk]
  rw [e]
  exact ⟨A, c, rfl, hb⟩
theorem sorter_at (s : Nat) (cl se : V) (w : World) : Calls Try.prog 14 #[ptr s, cl.agg, se.agg] w fun e w' => ∃ G, e = .returned (.pointer (some ⟨G, 0, none⟩)) ∧ w.heap.size ≤ G ∧ Below w.heap.size w w' ∧ Blk w' G 42 (fcs (-1) cl se (.slice none 0 0) 0 0 0 V.null (ptr s) (-1)) := by
  refine (sorter_any s cl se w).mono ?_
  rintro e w' ⟨rfl, _, hb, hk⟩
  exact ⟨w.heap.size + 2, rfl, by omega, hb, hk⟩
set_option maxRecDepth 100000 in
set_option maxHeartbeats 4000000 in
theorem wsorts_big {w : World} {A : Option Addr} {n c : Nat} {L : Int} (h : 40 < n ∨ L < 0 ∨ 40 < L) (hn : n ≤ 9223372036854775807) :
    Calls Try.prog 5 #[.slice A n c, .int .i64 L] w fun e w' => e = .returned (.bool true) ∧ Below w.heap.size w w' := by
  by_cases h1 : 40 < n
  · have q : decide (40 < (n : Int)) = true := decide_eq_true (by omega)
    clear h
    go_enter Try.func5, Try.ntmps5
    go_wp2_with (first
      | (go_at_call 8; refine (int_any _ _).mono ?_; rintro e w1 ⟨rfl, rfl⟩; unfold V.agg V.int; try simp only)
      | (go_at_call 9; refine (order_new (vs := [V.int 1]) (by exact Rd.of_blk (Blk.made (by simp) 26 (vcs [V.int 1])) rfl) (by omega)).mono ?_; rintro e w2 ⟨g, v, rfl, hg, hs, hb2⟩; have H2 := Lib.hid (And.intro hs (And.intro hb2 hg)); clear hs hb2 hg)
      | (go_at_call 15; refine (null_any _).mono ?_; rintro e wn ⟨rfl, rfl⟩; unfold V.agg V.null; try simp only)
      | (go_at_call 14; refine (sorter_at _ V.null V.null _).mono ?_; rintro e w3 ⟨G, rfl, hG, hb3, hk3⟩; have c14 : w3.cell? ⟨G, 14, none⟩ = some (.pointer (some ⟨g, 0, none⟩)) := hk3.cell rfl; have hGl := hk3.lt; have hs3 := ((H2.out.1.alloc _).alloc _).below hb3; have hb23 := (below_two H2.out.2.1 (Nat.le_refl _)).trans (below_two hb3 (below_two H2.out.2.1 (Nat.le_refl _)).size); have H3 := Lib.hid (And.intro hs3 (And.intro hb23 (And.intro hk3 hG))); have hq1 := fun W => run_eql_ptr_nil (P := Try.prog) W (tp := 38) ⟨G, 0, none⟩ Try.underlying38; have hq2 := fun W => run_eql_ptr_nil (P := Try.prog) W (tp := 28) ⟨g, 0, none⟩ Try.underlying28; clear hs3 hb3 hk3 hb23 hG)
      | (go_at_call 16; refine (values_sort (regs := []) H3.out.2.2.1 (Rd.nil _ _ _) (by omega) H3.out.1 (by simp) (by omega)).mono ?_; rintro e w4 ⟨v4, rfl, ho4, hb4⟩; obtain ⟨A4, c4, rfl, _, _⟩ := ho4.rd; have H4 := Lib.hid hb4; clear ho4 hb4))
    go_ret
    exact ⟨rfl, H3.out.2.1.trans (H4.out.mono H3.out.2.1.size)⟩
  · have q : decide (40 < (n : Int)) = false := decide_eq_false (by omega)
    by_cases h2 : L < 0
    · have q2 : decide (L < 0) = true := decide_eq_true h2
      clear h
      go_enter Try.func5, Try.ntmps5
      go_wp2_with (first
        | (go_at_call 8; refine (int_any _ _).mono ?_; rintro e w1 ⟨rfl, rfl⟩; unfold V.agg V.int; try simp only)
        | (go_at_call 9; refine (order_new (vs := [V.int 1]) (by exact Rd.of_blk (Blk.made (by simp) 26 (vcs [V.int 1])) rfl) (by omega)).mono ?_; rintro e w2 ⟨g, v, rfl, hg, hs, hb2⟩; have H2 := Lib.hid (And.intro hs (And.intro hb2 hg)); clear hs hb2 hg)
        | (go_at_call 15; refine (null_any _).mono ?_; rintro e wn ⟨rfl, rfl⟩; unfold V.agg V.null; try simp only)
        | (go_at_call 14; refine (sorter_at _ V.null V.null _).mono ?_; rintro e w3 ⟨G, rfl, hG, hb3, hk3⟩; have c14 : w3.cell? ⟨G, 14, none⟩ = some (.pointer (some ⟨g, 0, none⟩)) := hk3.cell rfl; have hGl := hk3.lt; have hs3 := ((H2.out.1.alloc _).alloc _).below hb3; have hb23 := (below_two H2.out.2.1 (Nat.le_refl _)).trans (below_two hb3 (below_two H2.out.2.1 (Nat.le_refl _)).size); have H3 := Lib.hid (And.intro hs3 (And.intro hb23 (And.intro hk3 hG))); have hq1 := fun W => run_eql_ptr_nil (P := Try.prog) W (tp := 38) ⟨G, 0, none⟩ Try.underlying38; have hq2 := fun W => run_eql_ptr_nil (P := Try.prog) W (tp := 28) ⟨g, 0, none⟩ Try.underlying28; clear hs3 hb3 hk3 hb23 hG)
        | (go_at_call 16; refine (values_sort (regs := []) H3.out.2.2.1 (Rd.nil _ _ _) (by omega) H3.out.1 (by simp) (by omega)).mono ?_; rintro e w4 ⟨v4, rfl, ho4, hb4⟩; obtain ⟨A4, c4, rfl, _, _⟩ := ho4.rd; have H4 := Lib.hid hb4; clear ho4 hb4))
      go_ret
      exact ⟨rfl, H3.out.2.1.trans (H4.out.mono H3.out.2.1.size)⟩
    · have q2 : decide (L < 0) = false := decide_eq_false h2
      have q3 : decide (40 < L) = true := decide_eq_true (by omega)
      clear h
      go_enter Try.func5, Try.ntmps5
      go_wp2_with (first
        | (go_at_call 8; refine (int_any _ _).mono ?_; rintro e w1 ⟨rfl, rfl⟩; unfold V.agg V.int; try simp only)
        | (go_at_call 9; refine (order_new (vs := [V.int 1]) (by exact Rd.of_blk (Blk.made (by simp) 26 (vcs [V.int 1])) rfl) (by omega)).mono ?_; rintro e w2 ⟨g, v, rfl, hg, hs, hb2⟩; have H2 := Lib.hid (And.intro hs (And.intro hb2 hg)); clear hs hb2 hg)
        | (go_at_call 15; refine (null_any _).mono ?_; rintro e wn ⟨rfl, rfl⟩; unfold V.agg V.null; try simp only)
        | (go_at_call 14; refine (sorter_at _ V.null V.null _).mono ?_; rintro e w3 ⟨G, rfl, hG, hb3, hk3⟩; have c14 : w3.cell? ⟨G, 14, none⟩ = some (.pointer (some ⟨g, 0, none⟩)) := hk3.cell rfl; have hGl := hk3.lt; have hs3 := ((H2.out.1.alloc _).alloc _).below hb3; have hb23 := (below_two H2.out.2.1 (Nat.le_refl _)).trans (below_two hb3 (below_two H2.out.2.1 (Nat.le_refl _)).size); have H3 := Lib.hid (And.intro hs3 (And.intro hb23 (And.intro hk3 hG))); have hq1 := fun W => run_eql_ptr_nil (P := Try.prog) W (tp := 38) ⟨G, 0, none⟩ Try.underlying38; have hq2 := fun W => run_eql_ptr_nil (P := Try.prog) W (tp := 28) ⟨g, 0, none⟩ Try.underlying28; clear hs3 hb3 hk3 hb23 hG)
        | (go_at_call 16; refine (values_sort (regs := []) H3.out.2.2.1 (Rd.nil _ _ _) (by omega) H3.out.1 (by simp) (by omega)).mono ?_; rintro e w4 ⟨v4, rfl, ho4, hb4⟩; obtain ⟨A4, c4, rfl, _, _⟩ := ho4.rd; have H4 := Lib.hid hb4; clear ho4 hb4))
      go_ret
      exact ⟨rfl, H3.out.2.1.trans (H4.out.mono H3.out.2.1.size)⟩
set_option maxRecDepth 100000 in
set_option maxHeartbeats 16000000 in
theorem wsorts_walk {w : World} {A : Option Addr} {n c : Nat} {L : Int} {cs : List Int} (hc : Rd w A n 1 (cs.map (Value.int .i64))) (hn : n ≤ 40) (hL0 : 0 ≤ L) (hL1 : L ≤ 40) :
    Calls Try.prog 5 #[.slice A n c, .int .i64 L] w fun e w' => e = .returned (.bool true) ∧ Below w.heap.size w w' := by
  have q : decide (40 < (n : Int)) = false := decide_eq_false (by omega)
  have q2 : decide (L < 0) = false := decide_eq_false (by omega)
  have q3 : decide (40 < L) = false := decide_eq_false (by omega)
  have HC := Lib.hid hc
  have HL := Lib.hid (And.intro hL0 hL1)
  obtain ⟨i0, hi, hz0, hz1, hz2⟩ := info_parts info26
  have HI := Lib.hid (And.intro hi (And.intro hz0 (And.intro hz1 hz2)))
  clear hc hL0 hL1 hi hz0 hz1 hz2
  go_enter Try.func5, Try.ntmps5
  go_wp2_with (first
    | (go_at_call 8; refine (int_any _ _).mono ?_; rintro e w1 ⟨rfl, rfl⟩; unfold V.agg V.int; try simp only)
    | (go_at_call 9; refine (order_new (vs := [V.int 1]) (by exact Rd.of_blk (Blk.made (by simp) 26 (vcs [V.int 1])) rfl) (by omega)).mono ?_; rintro e w2 ⟨g, v, rfl, hg, hs, hb2⟩; have H2 := Lib.hid (And.intro hs (And.intro hb2 hg)); clear hs hb2 hg)
    | (go_at_call 15; refine (null_any _).mono ?_; rintro e wn ⟨rfl, rfl⟩; unfold V.agg V.null; try simp only)
    | (go_at_call 14; refine (sorter_at _ V.null V.null _).mono ?_; rintro e w3 ⟨G, rfl, hG, hb3, hk3⟩; have c14 : w3.cell? ⟨G, 14, none⟩ = some (.pointer (some ⟨g, 0, none⟩)) := hk3.cell rfl; have hGl := hk3.lt; have hs3 := ((H2.out.1.alloc _).alloc _).below hb3; have hb23 := (below_two H2.out.2.1 (Nat.le_refl _)).trans (below_two hb3 (below_two H2.out.2.1 (Nat.le_refl _)).size); have H3 := Lib.hid (And.intro hs3 (And.intro hb23 (And.intro hk3 hG))); have hq1 := fun W => run_eql_ptr_nil (P := Try.prog) W (tp := 38) ⟨G, 0, none⟩ Try.underlying38; have hq2 := fun W => run_eql_ptr_nil (P := Try.prog) W (tp := 28) ⟨g, 0, none⟩ Try.underlying28; clear hs3 hb3 hk3 hb23 hG)
    | (go_at_call 16; refine (values_sort (regs := []) H3.out.2.2.1 (Rd.nil _ _ _) (by omega) H3.out.1 (by simp) (by omega)).mono ?_; rintro e w4 ⟨v4, rfl, ho4, hb4⟩; obtain ⟨A4, c4, rfl, _, _⟩ := ho4.rd; have H4 := Lib.hid hb4; clear ho4 hb4))
  have hb4 : Below w.heap.size w w4 := H3.out.2.1.trans (H4.out.mono H3.out.2.1.size)
  have HB4 := Lib.hid hb4
  have hlc : cs.length = n := by have := HC.out.1; simpa using this
  obtain ⟨vs, hvs⟩ : ∃ vs : List V, vs = cs.map V.int := ⟨_, rfl⟩
  have hlv : vs.length = n := by rw [hvs]; simpa using hlc
  have HLV := Lib.hid hlv
  have HVS := Lib.hid hvs
  clear hb4 hlc hlv hvs
  go_loopw [6, 7, 57] (fun vl sm t wr => ∃ (k : Nat), k ≤ n ∧ t = .int .i64 k ∧ OwnV wr w4.heap.size vl (vs.take k) ∧ sm = .int .i64 (wrap64 (tot (vs.take k))) ∧ Below w4.heap.size w4 wr) (fun _ _ t _ => n - (intOf t).toNat)
  case atStart => exact ⟨0, Nat.zero_le _, rfl, World.ownsRow_nil _ _ _ _, by simp [tot, wrap64], Below.refl _ _⟩
  case round =>
    obtain ⟨k, hk, rfl, hvl, rfl, hbr⟩ := hrel
    have HVL := Lib.hid hvl
    have HBR := Lib.hid hbr
    have hBw : Below w.heap.size w wr := HB4.out.trans (hbr.mono HB4.out.size)
    have HBW := Lib.hid hBw
    have hl2 : (vs.take k).length = k := by have := HLV.out; simp; omega
    obtain ⟨A6, c6, rfl, hcap6, hr6⟩ := hvl.rd
    rw [hl2] at hr6 hcap6
    have HR6 := Lib.hid hr6
    have HL2 := Lib.hid hl2
    by_cases hlt : k < n
    · obtain ⟨bb, oo, cc, rfl, hbb, hck, hcc⟩ := (HC.out.below hBw).int_at hlt
      have hk0 : (0 : Int) ≤ (k : Int) := by omega
      have hkn : (k : Int) < (n : Int) := by omega
      have hvk : vs[k]? = some (V.int cc) := by rw [HVS.out]; simp [hck]
      have HK := Lib.hid hvk
      clear hvl hbr hBw hr6 hvk
      rw [hl2]
      clear hl2
      go_wp2_with (first
        | (go_at_call 8; refine (int_any _ _).mono ?_; rintro e w1 ⟨rfl, rfl⟩; unfold V.agg V.int; try simp only)
        | (at_builtin; refine wpList_append_rd rfl w4.heap.size (.tmp 61) (.tmp 64) 24 rfl 26 i0 _ 3 32 Try.underlying24 HI.out.1 HI.out.2.1 HI.out.2.2.1 HI.out.2.2.2 rfl (by omega) (.slice A6 k c6) k (vcs (vs.take k)) (by rfl) (by have h := HVL.out.below (below_alloc (below_alloc (Below.refl _ _) (.cells #[.int .i64 2, .int .i64 cc, .string ⟨#[]⟩] 26)) (.cells #[.int .i64 2, .int .i64 cc, .string ⟨#[]⟩] 26)); unfold OwnV at h; rw [HL2.out] at h; exact h) (some ⟨wr.heap.size + 1, 0, none⟩) 1 1 (vcs [V.int cc]) (by rfl) (by exact Rd.of_blk (Blk.made (by simp) 26 (vcs [V.int cc])) rfl) (vcs_one _) (by unfold maxLen; omega) (by omega) (by have := HBR.out.size; simp; omega) ?_; intro v7 w7 hown7 hg7 hat7; have H7 := Lib.hid (And.intro hown7 (And.intro hg7 hat7)); clear hown7 hg7 hat7))
      go_roundw
      case rel =>
        obtain ⟨ho7, hg7, _⟩ := H7.out
        have ht := tot_take HK.out
        refine ⟨k + 1, by omega, by go_num, ?_, ?_, ?_⟩
        · rw [List.take_add_one, HK.out]
          exact own_more (by rw [HL2.out]; exact ho7)
        · rw [ht, show (V.int cc).n = cc from rfl, wrap_add]
        · exact (HBR.out.trans ((below_alloc (below_alloc (Below.refl _ _) _) _).mono HBR.out.size)).grown hg7 (by have := HBR.out.size; simp; omega) (fun b hb => (HVL.out.lo (g := b) (by rw [HL2.out]; exact hb)).1)
      case measure => simp [intOf]; omega
    · obtain rfl : k = n := by omega
      have hvk : vs.take k = vs := List.take_of_length_le (by rw [HLV.out]; omega)
      rw [hvk] at HR6 HVL
      rw [hl2, hvk]
      clear hvl hbr hBw hr6 hvk hl2 HL2
      go_wp2_with (first
        | (go_at_call 15; refine (null_any _).mono ?_; rintro e wn ⟨rfl, rfl⟩; unfold V.agg V.null; try simp only)
        | (go_at_call 9; refine (order_new HR6.out (by omega)).mono ?_; rintro e w5 ⟨g5, v5, rfl, hg, hs, hb2⟩; have H5 := Lib.hid (And.intro hs (And.intro hb2 hg)); clear hs hb2 hg)
        | (go_at_call 14; refine (sorter_at _ V.null V.null _).mono ?_; rintro e w6 ⟨G6, rfl, hG, hb3, hk3⟩; have hs3 := ((H5.out.1.alloc _).alloc _).below hb3; have hb23 := H5.out.2.1.trans (below_two hb3 H5.out.2.1.size); have H6 := Lib.hid (And.intro hs3 (And.intro hb23 (And.intro hk3 hG))); clear hs3 hb3 hk3 hb23 hG))
      obtain ⟨hs6, hb6, hk6, hG6⟩ := H6.out
      have hw5 : wr.heap.size ≤ g5 := H5.out.2.2
      have hl5 := H5.out.1.blk.lt
      have ho5 := H5.out.1.own
      have hG6' : w5.heap.size ≤ G6 := Nat.le_trans (by simp; omega) hG6
      have hlt6 : ∀ ad, A6 = some ad → ad.block < wr.heap.size := fun ad e => by
        obtain ⟨b, o, sp⟩ := ad
        exact (HVL.out.lo (g := b) (by rw [e]; rfl)).2
      have hW : Whl w wr w6 g5 G6 v5 k vs A6 L 0 (vs, 1, 1) :=
        ⟨hs6, ⟨Nat.le_refl _, Nat.le_refl _⟩, HLV.out, by simp, by rw [HVS.out]; intro x hx; obtain ⟨y, _, rfl⟩ := List.mem_map.1 hx; rfl, rfl, hk6, fun e => e.elim (fun e => by omega) (fun e => by have := (ho5.lo e).2; omega),
          HR6.out.below hb6, HBW.out.trans (hb6.mono HBW.out.size), HBW.out.size, hlt6, hw5, fun _ => ⟨by have := mu_start vs; rw [HLV.out] at this; exact this, 0, rfl⟩⟩
      have HW := Lib.hid hW
      clear hs6 hb6 hk6 hG6 hw5 hl5 ho5 hlt6 hW hG6'
      obtain ⟨wb, hwb⟩ : ∃ wb, wb = wr := ⟨_, rfl⟩
      rw [← hwb] at HW
      have hkk : k * k ≤ 1600 := Nat.le_trans (Nat.mul_le_mul hn hn) (by omega)
      obtain ⟨M, hM⟩ : ∃ M : Nat, k * k + 1 = M := ⟨_, rfl⟩
      have hMi : (k : Int) * (k : Int) + 1 = (M : Int) := by rw [← hM]; simp
      have hM1 : M ≤ 1601 := by omega
      have HY5 := Lib.hid (show wrap64 (wrap64 ((k : Int) * (k : Int)) + 1) = (M : Int) by have e1 : wrap64 ((k : Int) * (k : Int)) = (M : Int) - 1 := (by unfold wrap64; omega); rw [e1]; unfold wrap64; omega)
      clear hMi
      have HM := Lib.hid hM
      have hints : Ints vs := by rw [HVS.out]; intro x hx; obtain ⟨y, _, rfl⟩ := List.mem_map.1 hx; rfl
      have HINT := Lib.hid hints
      clear hints
      clear hM hkk
      go_loopw [81] (fun t wr2 => ∃ (r : Nat) (s : S3), t = .int .i64 r ∧ r ≤ M ∧ Whl w wb wr2 g5 G6 v5 k vs A6 L r s) (fun t _ => M - (intOf t).toNat)
      case atStart => exact ⟨0, (vs, 1, 1), rfl, Nat.zero_le _, HW.out⟩
      case round =>
        obtain ⟨r, ⟨us, i, j⟩, rfl, hr, hw2⟩ := hrel
        have HR := Lib.hid hw2
        have hgl := hw2.blk.lt
        have c14 : wr.cell? ⟨G6, 14, none⟩ = some (.pointer (some ⟨g5, 0, none⟩)) := hw2.blk.cell rfl
        have hi1 : i ≤ k + 1 := hw2.le
        have hlen : us.length = k := hw2.len
        have HLEN := Lib.hid hlen
        have hok := hw2.ok
        clear hw2
        by_cases hrr : r < M
        · by_cases hi : i < k
          · obtain ⟨J, x, y, rfl, hx, hy⟩ := ask_two hok (show i < us.length by omega)
            have hxi := HR.out.ints x (List.mem_of_getElem? hx)
            have hyi := HR.out.ints y (List.mem_of_getElem? hy)
            have hx2 : us[J]? = some (V.int x.n) := by rw [← hxi]; exact hx
            have hy2 : us[J + 1]? = some (V.int y.n) := by rw [← hyi]; exact hy
            obtain ⟨a, ha⟩ : ∃ a, x.n = a := ⟨_, rfl⟩
            obtain ⟨b, hb⟩ : ∃ b, y.n = b := ⟨_, rfl⟩
            rw [ha] at hx2
            rw [hb] at hy2
            have HX := Lib.hid (And.intro hx2 hy2)
            clear hok hlen hx hy hxi hyi hx2 hy2 ha hb
            have z0 : decide ((r : Int) < wrap64 (wrap64 ((k : Int) * (k : Int)) + 1)) = true := decide_eq_true (by rw [HY5.out]; omega)
            have z0' : (r : Int) < wrap64 (wrap64 ((k : Int) * (k : Int)) + 1) := by rw [HY5.out]; omega
            by_cases hrl : (r : Int) < L
            · have zr : decide ((r : Int) < L) = true := decide_eq_true hrl
              go_wp2_with (first
                | (go_at_call 10; refine (pair_some HR.out.srt (by have := HLEN.out; show i < us.length; omega) HX.out.1 HX.out.2 (by have := HLEN.out; show us.length ≤ _; omega)).mono ?_; rintro e w7 ⟨rfl, hb7⟩; have HB7 := Lib.hid hb7; clear hb7; unfold V.agg V.int)
                | (go_at_call 17; refine (compare_int a b _).mono ?_; rintro e w8 ⟨rfl, hb8⟩; have hb78 := HB7.out.trans (below_two hb8 HB7.out.size); have HR8 := Lib.hid (HR.out.below hb78); have c14c := (hb78.cell (p := ⟨G6, 14, none⟩) hgl).trans c14; clear hb8 hb78)
                | (go_at_call 11; refine (tell_any HR8.out.srt HR8.out.ok (by have := HLEN.out; show us.length ≤ _; omega) (by show i ≤ _; omega) _).mono ?_; rintro e w9 ⟨rfl, hs9, hk9⟩; have hw9 := HR8.out.next hk9 _ hs9 (by have := HLEN.out; show i < us.length; omega) (fun hL => absurd hrl (by omega)); clear hs9 hk9; generalize tellS _ (us, i, J + 1) = S at hw9; have c14d : w9.cell? ⟨G6, 14, none⟩ = some (.pointer (some ⟨g5, 0, none⟩)) := hw9.blk.cell rfl; have HS := Lib.hid hw9.len; have HW9 := Lib.hid hw9; clear hw9)
                | (go_at_call 13; refine (sort_values HW9.out.srt (by have := HS.out; omega)).mono ?_; rintro e w10 ⟨v10, rfl, ho10, hb10⟩; obtain ⟨A10, c10, rfl, _, hr10⟩ := ho10.rd; have H10 := Lib.hid (And.intro hr10 hb10); clear ho10 hr10 hb10; simp only [HS.out]))
              go_loopw [16, 119] (fun sm t wr3 => ∃ (p : Nat), p ≤ k ∧ t = .int .i64 p ∧ sm = .int .i64 (wrap64 (tot (S.1.take p))) ∧ Below w10.heap.size w10 wr3) (fun _ t _ => k - (intOf t).toNat)
              case atStart => exact ⟨0, Nat.zero_le _, rfl, by simp [tot, wrap64], Below.refl _ _⟩
              case round =>
                obtain ⟨p, hp, rfl, rfl, hbp⟩ := hrel
                have HBP := Lib.hid hbp
                by_cases hpk : p < k
                · have hr10 := H10.out.1.below hbp
                  rw [HS.out] at hr10
                  obtain ⟨p1, o1, x', rfl, hpb, hx', x0, x1, x2⟩ := RdV.at_ hr10 hpk
                  have z1 : (0 : Int) ≤ (p : Int) := by omega
                  have z2 : (p : Int) < (k : Int) := by omega
                  have HXP := Lib.hid hx'
                  obtain ⟨kx, nx, sx⟩ := x'
                  simp only at x0 x1 x2
                  clear hr10 hbp hx'
                  go_wp2
                  go_roundw
                  case rel =>
                    have ht := tot_take HXP.out
                    exact ⟨p + 1, by omega, by go_num, by rw [ht, wrap_add], HBP.out.trans ((below_alloc (Below.refl _ _) _).mono HBP.out.size)⟩
                  case measure => simp [intOf]; omega
                · have z5 : decide ((p : Int) < (k : Int)) = false := decide_eq_false (by omega)
                  obtain rfl : p = k := by omega
                  have et : tot (S.1.take p) = tot vs := by rw [List.take_of_length_le (by rw [HS.out]; omega)]; exact HW9.out.tots
                  rw [et]
                  clear et
                  have hw11 := HW9.out.below (H10.out.2.trans (hbp.mono H10.out.2.size))
                  have HW11 := Lib.hid hw11
                  have z8 : (((p : Int) + 3) != (3 + (p : Int))) = false := by rw [Int.add_comm]; simp
                  clear hw11 hbp z5
                  go_wp2_with (go_at_call 16; refine (values_len HW11.out.blk HW11.out.srt HS.out (by omega)).mono ?_; rintro e w12 ⟨A12, c12, rfl, hb12⟩; have H12 := Lib.hid hb12; clear hb12)
                  exact ⟨⟨r + 1, S, by go_num, by omega, HW11.out.below H12.out⟩, by simp [intOf]; omega⟩
            · have zr : decide ((r : Int) < L) = false := decide_eq_false hrl
              go_wp2_with (first
                | (go_at_call 10; refine (pair_some HR.out.srt (by have := HLEN.out; show i < us.length; omega) HX.out.1 HX.out.2 (by have := HLEN.out; show us.length ≤ _; omega)).mono ?_; rintro e w7 ⟨rfl, hb7⟩; have HB7 := Lib.hid hb7; clear hb7; unfold V.agg V.int)
                | (go_at_call 17; refine (compare_int a b _).mono ?_; rintro e w8 ⟨rfl, hb8⟩; have hb78 := HB7.out.trans (below_two hb8 HB7.out.size); have HR8 := Lib.hid (HR.out.below hb78); have c14c := (hb78.cell (p := ⟨G6, 14, none⟩) hgl).trans c14; clear hb8 hb78)
                | (go_at_call 11; refine (tell_any HR8.out.srt HR8.out.ok (by have := HLEN.out; show us.length ≤ _; omega) (by show i ≤ _; omega) _).mono ?_; rintro e w9 ⟨rfl, hs9, hk9⟩; have hw9 := HR8.out.next hk9 _ hs9 (by have := HLEN.out; show i < us.length; omega) (fun hL => stepI_two HX.out.1 HX.out.2); clear hs9 hk9; generalize tellS _ (us, i, J + 1) = S at hw9; have c14d : w9.cell? ⟨G6, 14, none⟩ = some (.pointer (some ⟨g5, 0, none⟩)) := hw9.blk.cell rfl; have HS := Lib.hid hw9.len; have HW9 := Lib.hid hw9; clear hw9)
                | (go_at_call 13; refine (sort_values HW9.out.srt (by have := HS.out; omega)).mono ?_; rintro e w10 ⟨v10, rfl, ho10, hb10⟩; obtain ⟨A10, c10, rfl, _, hr10⟩ := ho10.rd; have H10 := Lib.hid (And.intro hr10 hb10); clear ho10 hr10 hb10; simp only [HS.out]))
              go_loopw [16, 119] (fun sm t wr3 => ∃ (p : Nat), p ≤ k ∧ t = .int .i64 p ∧ sm = .int .i64 (wrap64 (tot (S.1.take p))) ∧ Below w10.heap.size w10 wr3) (fun _ t _ => k - (intOf t).toNat)
              case atStart => exact ⟨0, Nat.zero_le _, rfl, by simp [tot, wrap64], Below.refl _ _⟩
              case round =>
                obtain ⟨p, hp, rfl, rfl, hbp⟩ := hrel
                have HBP := Lib.hid hbp
                by_cases hpk : p < k
                · have hr10 := H10.out.1.below hbp
                  rw [HS.out] at hr10
                  obtain ⟨p1, o1, x', rfl, hpb, hx', x0, x1, x2⟩ := RdV.at_ hr10 hpk
                  have z1 : (0 : Int) ≤ (p : Int) := by omega
                  have z2 : (p : Int) < (k : Int) := by omega
                  have HXP := Lib.hid hx'
                  obtain ⟨kx, nx, sx⟩ := x'
                  simp only at x0 x1 x2
                  clear hr10 hbp hx'
                  go_wp2
                  go_roundw
                  case rel =>
                    have ht := tot_take HXP.out
                    exact ⟨p + 1, by omega, by go_num, by rw [ht, wrap_add], HBP.out.trans ((below_alloc (Below.refl _ _) _).mono HBP.out.size)⟩
                  case measure => simp [intOf]; omega
                · have z5 : decide ((p : Int) < (k : Int)) = false := decide_eq_false (by omega)
                  obtain rfl : p = k := by omega
                  have et : tot (S.1.take p) = tot vs := by rw [List.take_of_length_le (by rw [HS.out]; omega)]; exact HW9.out.tots
                  rw [et]
                  clear et
                  have hw11 := HW9.out.below (H10.out.2.trans (hbp.mono H10.out.2.size))
                  have HW11 := Lib.hid hw11
                  have z8 : (((p : Int) + 3) != (3 + (p : Int))) = false := by rw [Int.add_comm]; simp
                  clear hw11 hbp z5
                  go_wp2_with (go_at_call 16; refine (values_len HW11.out.blk HW11.out.srt HS.out (by omega)).mono ?_; rintro e w12 ⟨A12, c12, rfl, hb12⟩; have H12 := Lib.hid hb12; clear hb12)
                  exact ⟨⟨r + 1, S, by go_num, by omega, HW11.out.below H12.out⟩, by simp [intOf]; omega⟩
          · have hend : L ≤ 0 → us.length ≤ i := fun _ => by omega
            have HEND := Lib.hid hend
            clear hok hlen hend
            have z0 : decide ((r : Int) < wrap64 (wrap64 ((k : Int) * (k : Int)) + 1)) = true := decide_eq_true (by rw [HY5.out]; omega)
            have z0' : (r : Int) < wrap64 (wrap64 ((k : Int) * (k : Int)) + 1) := by rw [HY5.out]; omega
            go_wp2_with (first
              | (go_at_call 10; refine (pair_none HR.out.srt (by have := HLEN.out; show us.length ≤ i; omega) (by show i ≤ _; omega)).mono ?_; rintro e w7 ⟨rfl, hb7⟩; have HB7 := Lib.hid hb7; have HR7 := Lib.hid (HR.out.below (below_alloc (below_alloc hb7 (.cells #[.int .i64 0, .int .i64 0, .string ⟨#[]⟩] 26)) (.cells #[.int .i64 0, .int .i64 0, .string ⟨#[]⟩] 26))); have c14b : w7.cell? ⟨G6, 14, none⟩ = some (.pointer (some ⟨g5, 0, none⟩)) := (hb7.cell hgl).trans c14; have hgl7 := Nat.lt_of_lt_of_le hgl hb7.size; have hgl8 := Nat.lt_succ_of_lt hgl7; clear hb7; unfold V.agg V.null)
              | (go_at_call 13; refine (sort_values HR7.out.srt (by have := HLEN.out; show us.length ≤ _; omega)).mono ?_; rintro e w8 ⟨v8, rfl, ho8, hb8⟩; obtain ⟨A8, c8, rfl, _, hr8⟩ := ho8.rd; have H8 := Lib.hid (And.intro hr8 hb8); clear ho8 hr8 hb8; simp only [HLEN.out])
              | (go_at_call 18; refine (plain_any (Rd.below HR7.out.src H8.out.2) (by omega) HINT.out).mono ?_; rintro e w9 ⟨v9, s9, m9, rfl, ho9, hi9, hd9, hl9, hn9, hb9⟩; obtain ⟨A9, c9, rfl, _, hr9⟩ := ho9.rd; have hl9' := hl9.trans HLV.out; have H9 := Lib.hid (And.intro hr9 (And.intro hb9 (And.intro hi9 hd9))); have HL9 := Lib.hid hl9'; clear ho9 hr9 hb9 hi9 hd9 hl9 hn9; simp only [hl9']; clear hl9'))
            go_loopw [162] (fun t wr3 => ∃ (p nn : Nat), p ≤ k ∧ t = .int .i64 p ∧ wr3 = w9.drewN nn) (fun t _ => k - (intOf t).toNat)
            case atStart => exact ⟨0, 0, Nat.zero_le _, rfl, rfl⟩
            case round =>
              obtain ⟨p, nn, hp, rfl, rfl⟩ := hrel
              by_cases hpk : p < k
              · have hr8 := H8.out.1.below H9.out.2.1
                rw [HLEN.out] at hr8
                have hr9 := H9.out.1
                rw [HL9.out] at hr9
                obtain ⟨p1, o1, x, rfl, hpb, hx', x0, x1, x2⟩ := RdV.at_ hr8 hpk
                obtain ⟨p2, o2, y, rfl, hpb2, hy', y0, y1, y2⟩ := RdV.at_ hr9 hpk
                have z1 : (0 : Int) ≤ (p : Int) := by omega
                have z2 : (p : Int) < (k : Int) := by omega
                clear hr8 hr9
                by_cases hL : L = 0
                · have e := HR7.out.run (by omega)
                  obtain ⟨_, m1, e1⟩ := e
                  have hus : us = s9.1 := by
                    have e2 := iterI_eq (k := m1) (m := m9) (s := (vs, 1, 1)) (by rw [e1]; exact HEND.out (by omega)) (by rw [H9.out.2.2.1]; exact H9.out.2.2.2)
                    rw [e1, H9.out.2.2.1] at e2
                    rw [← e2]
                  rw [← hus, hx'] at hy'
                  injection hy' with hy'
                  subst hy'
                  subst hL
                  have hq1 := run_neq_V x x
                  rw [veq_self] at hq1
                  obtain ⟨kx, nx, sx⟩ := x
                  unfold V.agg at hq1
                  simp only at x0 x1 x2 y0 y1 y2
                  clear hx' hus e1
                  go_wp2
                  go_quiet (fail)
                  go_wp2
                  go_roundw
                  case rel => exact ⟨p + 1, _, by omega, by go_num, rfl⟩
                  case measure => simp [intOf]; omega
                · have zL : (L == 0) = false := by simp [hL]
                  have zL2 : decide (L = 0) = false := decide_eq_false hL
                  clear hx' hy'
                  go_wp2
                  go_quiet (fail)
                  go_wp2
                  go_roundw
                  case rel => exact ⟨p + 1, _, by omega, by go_num, rfl⟩
                  case measure => simp [intOf]; omega
              · have z0 : decide ((p : Int) < (k : Int)) = false := decide_eq_false (by omega)
                obtain rfl : p = k := by omega
                go_wp2
                go_ret
                exact ⟨rfl, below_drewN ((HR7.out.bel.trans (H8.out.2.mono HR7.out.bel.size)).trans (H9.out.2.1.mono (HR7.out.bel.trans (H8.out.2.mono HR7.out.bel.size)).size)) _⟩
        · have hend : L ≤ 0 → us.length ≤ i := fun hL => by
            have h1 := (HR.out.run hL).1
            have h2 := HM.out
            exact mu_ended hok (by omega)
          have HEND := Lib.hid hend
          clear hok hlen hend
          have z0 : decide ((r : Int) < wrap64 (wrap64 ((k : Int) * (k : Int)) + 1)) = false := decide_eq_false (by rw [HY5.out]; omega)
          have z0' : wrap64 (wrap64 ((k : Int) * (k : Int)) + 1) ≤ (r : Int) := by rw [HY5.out]; omega
          go_wp2_with (first
            | (fail; refine (pair_none HR.out.srt (by have := HLEN.out; show us.length ≤ i; omega) (by show i ≤ _; omega)).mono ?_; rintro e w7 ⟨rfl, hb7⟩; have HB7 := Lib.hid hb7; have HR7 := Lib.hid (HR.out.below (below_alloc (below_alloc hb7 (.cells #[.int .i64 0, .int .i64 0, .string ⟨#[]⟩] 26)) (.cells #[.int .i64 0, .int .i64 0, .string ⟨#[]⟩] 26))); have c14b : w7.cell? ⟨G6, 14, none⟩ = some (.pointer (some ⟨g5, 0, none⟩)) := (hb7.cell hgl).trans c14; have hgl7 := Nat.lt_of_lt_of_le hgl hb7.size; have hgl8 := Nat.lt_succ_of_lt hgl7; clear hb7; unfold V.agg V.null)
            | (go_at_call 13; refine (sort_values HR.out.srt (by have := HLEN.out; show us.length ≤ _; omega)).mono ?_; rintro e w8 ⟨v8, rfl, ho8, hb8⟩; obtain ⟨A8, c8, rfl, _, hr8⟩ := ho8.rd; have H8 := Lib.hid (And.intro hr8 hb8); clear ho8 hr8 hb8; simp only [HLEN.out])
            | (go_at_call 18; refine (plain_any (Rd.below HR.out.src H8.out.2) (by omega) HINT.out).mono ?_; rintro e w9 ⟨v9, s9, m9, rfl, ho9, hi9, hd9, hl9, hn9, hb9⟩; obtain ⟨A9, c9, rfl, _, hr9⟩ := ho9.rd; have hl9' := hl9.trans HLV.out; have H9 := Lib.hid (And.intro hr9 (And.intro hb9 (And.intro hi9 hd9))); have HL9 := Lib.hid hl9'; clear ho9 hr9 hb9 hi9 hd9 hl9 hn9; simp only [hl9']; clear hl9'))
          go_loopw [162] (fun t wr3 => ∃ (p nn : Nat), p ≤ k ∧ t = .int .i64 p ∧ wr3 = w9.drewN nn) (fun t _ => k - (intOf t).toNat)
          case atStart => exact ⟨0, 0, Nat.zero_le _, rfl, rfl⟩
          case round =>
            obtain ⟨p, nn, hp, rfl, rfl⟩ := hrel
            by_cases hpk : p < k
            · have hr8 := H8.out.1.below H9.out.2.1
              rw [HLEN.out] at hr8
              have hr9 := H9.out.1
              rw [HL9.out] at hr9
              obtain ⟨p1, o1, x, rfl, hpb, hx', x0, x1, x2⟩ := RdV.at_ hr8 hpk
              obtain ⟨p2, o2, y, rfl, hpb2, hy', y0, y1, y2⟩ := RdV.at_ hr9 hpk
              have z1 : (0 : Int) ≤ (p : Int) := by omega
              have z2 : (p : Int) < (k : Int) := by omega
              clear hr8 hr9
              by_cases hL : L = 0
              · have e := HR.out.run (by omega)
                obtain ⟨_, m1, e1⟩ := e
                have hus : us = s9.1 := by
                  have e2 := iterI_eq (k := m1) (m := m9) (s := (vs, 1, 1)) (by rw [e1]; exact HEND.out (by omega)) (by rw [H9.out.2.2.1]; exact H9.out.2.2.2)
                  rw [e1, H9.out.2.2.1] at e2
                  rw [← e2]
                rw [← hus, hx'] at hy'
                injection hy' with hy'
                subst hy'
                subst hL
                have hq1 := run_neq_V x x
                rw [veq_self] at hq1
                obtain ⟨kx, nx, sx⟩ := x
                unfold V.agg at hq1
                simp only at x0 x1 x2 y0 y1 y2
                clear hx' hus e1
                go_wp2
                go_quiet (fail)
                go_wp2
                go_roundw
                case rel => exact ⟨p + 1, _, by omega, by go_num, rfl⟩
                case measure => simp [intOf]; omega
              · have zL : (L == 0) = false := by simp [hL]
                have zL2 : decide (L = 0) = false := decide_eq_false hL
                clear hx' hy'
                go_wp2
                go_quiet (fail)
                go_wp2
                go_roundw
                case rel => exact ⟨p + 1, _, by omega, by go_num, rfl⟩
                case measure => simp [intOf]; omega
            · have z0 : decide ((p : Int) < (k : Int)) = false := decide_eq_false (by omega)
              obtain rfl : p = k := by omega
              go_wp2
              go_ret
              exact ⟨rfl, below_drewN ((HR.out.bel.trans (H8.out.2.mono HR.out.bel.size)).trans (H9.out.2.1.mono (HR.out.bel.trans (H8.out.2.mono HR.out.bel.size)).size)) _⟩
end Go.Proofs.Ytecoghabjcnbnaa
