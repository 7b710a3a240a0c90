/- The contract of WholeValues' inner function: the texts of a piece of the list, put together. Condition: no more than 60 texts of 200 bytes. -/
import Derived.Test.YtcjmoobdoinbkaaLists
namespace Go.Proofs.Ytcjmoobdoinbkaa
open Go.RowKit
set_option linter.unusedVariables false
/-- Texts put together. -/
def catB (ts : List ByteArray) : ByteArray := ts.foldl (· ++ ·) ⟨#[]⟩
theorem catB_snoc (ts : List ByteArray) (t : ByteArray) : catB (ts ++ [t]) = catB ts ++ t := by simp [catB]
theorem catB_take {ts : List ByteArray} {k : Nat} {t : ByteArray} (h : ts[k]? = some t) : catB (ts.take (k + 1)) = catB (ts.take k) ++ t := by
  rw [List.take_add_one, h]; exact catB_snoc _ _
theorem catB_size (ts : List ByteArray) (h : ∀ t ∈ ts, t.size ≤ 200) : (catB ts).size ≤ ts.length * 200 := by
  have : ∀ n (ts : List ByteArray), ts.length = n → (∀ t ∈ ts, t.size ≤ 200) → (catB ts).size ≤ n * 200 := by
    intro n
    induction n with
    | zero => intro ts hl _; obtain rfl := List.eq_nil_of_length_eq_zero hl; exact Nat.le_of_eq rfl
    | succ n ih =>
      intro ts hl h
      rcases List.eq_nil_or_concat ts with rfl | ⟨a, t, rfl⟩
      · simp at hl
      · rw [List.concat_eq_append] at hl h ⊢
        have h1 := ih a (by simpa using hl) (fun t ht => h t (by simp [ht]))
        have h2 := h t (by simp)
        rw [catB_snoc, app_size]; omega
  exact this _ ts rfl h
def strs (ts : List ByteArray) : List V := ts.map V.str
theorem strs_at {ts : List ByteArray} {k : Nat} {x : V} (h : (strs ts)[k]? = some x) : ∃ t, ts[k]? = some t ∧ x = V.str t := by
  unfold strs at h
  rw [List.getElem?_map] at h
  rcases ht : ts[k]? with _ | t
  · rw [ht] at h; cases h
  · rw [ht] at h; injection h with h; exact ⟨t, rfl, h.symm⟩
theorem strs_piece (ts : List ByteArray) (a m : Nat) : ((strs ts).drop a).take m = strs ((ts.drop a).take m) := by simp [strs, List.map_drop, List.map_take]
theorem own_rdv {w : World} {base : Nat} {A : Option Addr} {n c : Nat} {vs : List V} (h : OwnV w base (.slice A n c) vs) : RdV w A n vs := by
  obtain ⟨A', c', e, _, hr⟩ := h.rd
  injection e with e1 e2 e3
  subst e1 e2
  exact hr
theorem bel_kp {B : Nat} {S : Nat → Prop} {w w1 w2 : World} (hb : Below B w w1) (hk : Kp S w1 w2) (hS : ∀ b, S b → B ≤ b) (hB : B ≤ w1.heap.size) : Below B w w2 :=
  hb.trans ⟨hk.os, hk.tape, hk.output, hk.size, fun b h => hk.block b (by omega) (fun e => by have := hS b e; omega)⟩
/-- What the inner function leaves. -/
def Summed (w : World) (s : ByteArray) (e : Ending) (w' : World) : Prop := e = .returned (.tuple #[.agg #[.int .i64 3, .int .i64 0, .string s], .bool true]) ∧ Below w.heap.size w w'
set_option maxRecDepth 100000 in
set_option maxHeartbeats 4000000 in
theorem sum_any {w : World} {lp g : Nat} {A : Option Addr} {n c a b : Nat} {ts : List ByteArray} (hp : Blk w lp 55 [.pointer (some ⟨g, 0, none⟩)]) (hb : Blk w g 86 [.slice A n c]) (hv : RdV w A n (strs ts)) (hn : n ≤ 60) (hnc : n ≤ c) (hab : a ≤ b) (hbn : b ≤ n) (hts : ∀ t ∈ ts, t.size ≤ 200) :
    Calls Try.prog 48 #[.int .i64 (a : Int), .int .i64 (b : Int), .pointer (some ⟨lp, 0, none⟩)] w (Summed w (catB ((ts.drop a).take (b - a)))) := by
  obtain ⟨ps, hps⟩ : ∃ ps, (ts.drop a).take (b - a) = ps := ⟨_, rfl⟩
  obtain ⟨m, hm⟩ : ∃ m, b - a = m := ⟨_, rfl⟩
  have htl : ts.length = n := by have := hv.len; simpa [strs] using this
  have hpl : ps.length = m := by rw [← hps, List.length_take, List.length_drop, ← hm]; omega
  have hm60 : m ≤ 60 := by omega
  have hpt : ∀ t ∈ ps, t.size ≤ 200 := fun t ht => hts t (by rw [← hps] at ht; exact List.mem_of_mem_drop (List.mem_of_mem_take ht))
  have hsl : ∀ W, Below w.heap.size w W → Calls Try.prog 49 #[.pointer (some ⟨g, 0, none⟩), .int .i64 (a : Int), .int .i64 (b : Int)] W (Cut W (strs ps)) := fun W hW => by
    have := slice_any (hb.below hW hb.lt) (hv.below hW) (by omega) hnc hab hbn
    rwa [strs_piece, hps] at this
  rw [hps]
  have cp := hp.cell (i := 0) rfl
  have hlp := hp.lt
  have hlp1 : lp < w.heap.size + 1 := by omega
  have hlp2 : lp < w.heap.size + 1 + 1 := by omega
  have hlen : (strs ps).length = m := by simp [strs, hpl]
  have HSL := Lib.hid hsl
  have HLEN := Lib.hid hlen
  have HPT := Lib.hid (And.intro hpt hpl)
  clear hp hb hv hps hm hab hbn hts hsl hpt hpl htl hlen
  go_enter Try.func48, Try.ntmps48
  go_wp2_with (first
    | (go_at_call 43; refine (str_any ⟨#[]⟩ _).mono ?_; rintro e w4 ⟨rfl, rfl⟩; simp only [V.str, V.agg])
    | (go_at_call 49; refine (HSL.out _ (by repeat (first | exact Below.refl _ _ | refine below_alloc ?_ _))).mono ?_; rintro e w3 ⟨g3, v3, rfl, hl3, hb3⟩; obtain ⟨A3, c3, rfl, hc3, hr3⟩ := hl3.sl; rw [HLEN.out] at hl3 hc3 hr3; have H3 := Lib.hid (And.intro hl3 (And.intro hb3 hr3)); clear hl3 hb3 hr3)
    | (go_at_call 50; refine (all_any H3.out.1.blk H3.out.2.2 (by omega)).mono ?_; rintro e w4 ⟨v4, rfl, ho4, hb4⟩; obtain ⟨A4, c4, rfl, hc4, _⟩ := ho4.rd; rw [HLEN.out] at ho4 hc4; have H4 := Lib.hid (And.intro ho4 hb4); clear ho4 hb4; rw [HLEN.out]))
  have ba : Below w.heap.size w (((w.alloc (.cells #[.int .i64 0, .int .i64 0, .string ⟨#[]⟩] 50)).alloc (.cells #[.int .i64 3, .int .i64 0, .string ⟨#[]⟩] 50)).alloc (.cells #[.int .i64 3, .int .i64 0, .string ⟨#[]⟩] 50)) := below_alloc (below_alloc (below_alloc (Below.refl _ _) _) _) _
  have B3 := ba.trans (H3.out.2.1.mono ba.size)
  have B4 := Lib.hid (B3.trans (H4.out.2.mono B3.size))
  have hz3 := H3.out.2.1.size
  have hz4 := H4.out.2.size
  simp only [World.size_alloc] at hz3
  have Z4 : Hid (Blk w4 w.heap.size 50 [.int .i64 0, .int .i64 0, .string ⟨#[]⟩]) := ((((Blk.new w 50 [.int .i64 0, .int .i64 0, .string ⟨#[]⟩]).alloc _).alloc _).below H3.out.2.1 (by simp; omega)).below H4.out.2 (by omega)
  have O4 : Hid (Blk w4 (w.heap.size + 1 + 1) 50 [.int .i64 3, .int .i64 0, .string ⟨#[]⟩]) := ((Blk.made (by simp) 50 [.int .i64 3, .int .i64 0, .string ⟨#[]⟩]).below H3.out.2.1 (by simp)).below H4.out.2 (by omega)
  clear ba B3
  go_loopw [26] (fun v26 wr => ∃ k : Nat, k ≤ m ∧ v26 = .int .i64 k ∧ Blk wr (w.heap.size + 1 + 1) 50 [.int .i64 3, .int .i64 0, .string (catB (ps.take k))] ∧ Kp (fun b => b = w.heap.size + 1 + 1) w4 wr) (fun v26 _ => m - (intOf v26).toNat)
  case atStart => exact ⟨0, Nat.zero_le _, rfl, O4.out, Kp.refl _ _⟩
  case round =>
    obtain ⟨k, hk, rfl, hblk, hkp⟩ := hrel
    have hown : OwnV wr w3.heap.size (.slice A4 m c4) (strs ps) := H4.out.1.kp hkp (fun q hq (e : q = w.heap.size + 1 + 1) => by have := (H4.out.1.lo hq).1; omega)
    have hrd := own_rdv hown
    have y0 := hblk.cell (i := 0) rfl
    have y1 := hblk.cell (i := 1) rfl
    have y2 := hblk.cell (i := 2) rfl
    have hyl := hblk.lt
    have ZR : Hid (Blk wr w.heap.size 50 [.int .i64 0, .int .i64 0, .string ⟨#[]⟩]) := Z4.out.kp hkp (fun (e : w.heap.size = w.heap.size + 1 + 1) => by omega)
    have H5 := Lib.hid (And.intro hblk hkp)
    clear hblk hkp hown
    by_cases hlt : k < m
    · obtain ⟨b0, o0, x, rfl, hxb, hx, x0, x1, x2⟩ := RdV.at_ hrd hlt
      obtain ⟨t, ht, rfl⟩ := strs_at hx
      simp only [V.str] at x0 x1 x2
      have hadd : ∀ W, Calls Try.prog 42 #[.agg #[.int .i64 3, .int .i64 0, .string (catB (ps.take k))], .agg #[.int .i64 3, .int .i64 0, .string t]] W (Added W (catB (ps.take (k + 1)))) := fun W => by
        rw [catB_take ht]
        have h1 := catB_size (ps.take k) (fun t ht => HPT.out.1 t (List.mem_of_mem_take ht))
        have h2 := HPT.out.1 t (List.mem_of_getElem? ht)
        rw [List.length_take] at h1
        exact add_str 0 _ 0 t W (by omega)
      obtain ⟨S, hS⟩ : ∃ S, catB (ps.take k) = S := ⟨_, rfl⟩
      obtain ⟨S', hS'⟩ : ∃ S', catB (ps.take (k + 1)) = S' := ⟨_, rfl⟩
      rw [hS] at y2
      rw [hS, hS'] at hadd
      have HADD := Lib.hid hadd
      have HSS := Lib.hid (And.intro hS hS')
      have z1 : (0 : Int) ≤ (k : Int) := by omega
      have z2 : (k : Int) < (m : Int) := by omega
      clear hrd hx ht hS hS' hadd
      go_wp2_with (go_at_call 42; refine (HADD.out _).mono ?_; rintro e w6 ⟨rfl, hb6⟩; have hB : Blk w6 (w.heap.size + 1 + 1) 50 [.int .i64 3, .int .i64 0, .string (catB (ps.take k))] := (H5.out.1.alloc _).below hb6 (by have := H5.out.1.lt; simp; omega); have c0 := hB.cell (i := 0) rfl; have c1 := hB.cell (i := 1) rfl; have c2 := hB.cell (i := 2) rfl; have f0 := hB.frozen 0; have f1 := hB.frozen 1; have f2 := hB.frozen 2; have hlt6 := hB.lt; have H6 := Lib.hid (And.intro hb6 hB); clear hb6 hB)
      obtain ⟨hblk, hkp⟩ := H5.out
      obtain ⟨hb6, hB⟩ := H6.out
      refine ⟨⟨k + 1, by omega, by go_num, ?_, ?_⟩, by simp [intOf]; omega⟩
      · rw [HSS.out.2]
        exact ((hB.set_ 0 (.int .i64 3)).set_ 1 (.int .i64 0)).set_ 2 (.string S')
      · have h1 : Kp (fun b => b = w.heap.size + 1 + 1) w4 w6 := (hkp.alloc (.cells #[.int .i64 3, .int .i64 0, .string t] 50)).trans (Kp.of_below (S := fun _ => False) hb6) (fun _ _ e => e.elim)
        exact ((h1.setCell (p := ⟨w.heap.size + 1 + 1, 0, none⟩) (.inr rfl) _).setCell (p := ⟨w.heap.size + 1 + 1, 1, none⟩) (.inr rfl) _).setCell (p := ⟨w.heap.size + 1 + 1, 2, none⟩) (.inr rfl) _
    · obtain rfl : k = m := by omega
      have r0 := ZR.out.cell (i := 0) rfl
      have r1 := ZR.out.cell (i := 1) rfl
      have r2 := ZR.out.cell (i := 2) rfl
      have f0 := ZR.out.frozen 0
      have f1 := ZR.out.frozen 1
      have f2 := ZR.out.frozen 2
      have hall : ps.take k = ps := List.take_of_length_le (by have := HPT.out.2; omega)
      rw [hall] at y2
      have HALL := Lib.hid hall
      obtain ⟨S, hS⟩ : ∃ S, catB ps = S := ⟨_, rfl⟩
      rw [hS] at y2
      have HS := Lib.hid hS
      clear hrd hall hS
      go_wp2
      rw [HS.out]
      have hBF := ((ZR.out.set_ 0 (.int .i64 3)).set_ 1 (.int .i64 0)).set_ 2 (.string S)
      have m0 := hBF.cell (i := 0) (v := .int .i64 3) rfl
      have m1 := hBF.cell (i := 1) (v := .int .i64 0) rfl
      have m2 := hBF.cell (i := 2) (v := .string S) rfl
      refine bodyPost_ret (v := .tuple #[.agg #[.int .i64 3, .int .i64 0, .string S], .bool true]) (by simp [results, Try.results48, go_sem, m0, m1, m2]) rfl ⟨rfl, ?_⟩
      have hb := bel_kp B4.out H5.out.2 (fun b e => by omega) (by omega)
      exact ((hb.setCell (p := ⟨w.heap.size, 0, none⟩) (Nat.le_refl _) _).setCell (p := ⟨w.heap.size, 1, none⟩) (Nat.le_refl _) _).setCell (p := ⟨w.heap.size, 2, none⟩) (Nat.le_refl _) _
end Go.Proofs.Ytcjmoobdoinbkaa
