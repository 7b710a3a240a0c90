/- WholeDigits' walk. Condition: no list of more than 60 numbers (the others leave at once). -/
import Derived.Test.YtcjmoobdoinbkaaDigLaw
namespace Go.Proofs.Ytcjmoobdoinbkaa
open Go.RowKit
set_option linter.unusedVariables false
theorem Rd.form1 {w : World} {A : Option Addr} {n : Nat} {xs : List Value} (h : Rd w A n 1 xs) (hn : 0 < n) : ∃ b o, A = some ⟨b, o, none⟩ ∧ b < w.heap.size ∧ ∀ k v, xs[k]? = some v → w.cell? ⟨b, o + k, none⟩ = some v := by
  have hl := h.1
  have hne : xs ≠ [] := fun e => by rw [e] at hl; simp at hl; omega
  obtain ⟨ad, rfl, hc⟩ := h.2 hne
  have h0 : 0 < xs.length := by omega
  have c0 := hc 0 _ (List.getElem?_eq_getElem h0)
  obtain ⟨b, o, sp⟩ := ad
  have hsp : sp = none := by simpa [Addr.add] using World.cell?_spot c0
  subst hsp
  refine ⟨b, o, rfl, by simpa [Addr.add] using World.block_lt_of_cell? w _ c0, fun k v hv => ?_⟩
  have := hc k v hv
  rwa [add_lit] at this
theorem c_text7 (w : World) : Calls Try.prog 15 #[.int .i64 7] w fun e w' => e = .returned (.string ⟨#[55]⟩) ∧ Below w.heap.size w w' := by
  have h := text_any 7 w ⟨by omega, by omega⟩
  rwa [show inL 7 10 = [55] from by decide +kernel] at h
theorem c_split (w : World) : Calls Try.prog 40 #[.string ⟨#[97, 44, 98]⟩, .string ⟨#[44]⟩] w fun e w' => ∃ A c, e = .returned (.slice A 2 c) ∧ Below w.heap.size w w' := by
  refine (split_any ⟨#[97, 44, 98]⟩ 44 w (by decide)).mono ?_
  rintro e w' ⟨v, cap, h1, _, h3⟩
  exact ⟨v, cap, h1, h3⟩
theorem bys_mk (l : List UInt8) : bys ⟨l.toArray⟩ = l := rfl
theorem size_mk (l : List UInt8) : ByteArray.size ⟨l.toArray⟩ = l.length := by simp [ByteArray.size]
theorem mk_append (a b : List UInt8) : (⟨a.toArray⟩ : ByteArray) ++ ⟨b.toArray⟩ = ⟨(a ++ b).toArray⟩ := by
  apply ByteArray.ext
  simp [ByteArray.data_append]
/-- What is asked of a piece. -/
structure Piece (a : Int) (n : Nat) (T U : ByteArray) : Prop where
  up : ∀ W, Calls Try.prog 41 #[.string T] W fun e w' => e = .returned (.string U) ∧ Below W.heap.size W w'
  parse : ∀ W, Calls Try.prog 14 #[.string U, .int .i64 (n : Int)] W fun e w' => e = .returned (.tuple #[.int .i64 a, .int .i64 0]) ∧ W = w'
  lead : ∀ W, Calls Try.prog 16 #[.string T] W fun e w' => ∃ m j, e = .returned (.tuple #[.int .i64 m, .int .i64 j]) ∧ W = w' ∧ (n = 10 → m = a ∧ j = (T.size : Int))
theorem piece_any (a : Int) (n : Nat) (ia : I64 a) (hn1 : 2 ≤ n) (hn2 : n ≤ 36) : Piece a n ⟨(inL a n).toArray⟩ ⟨(upL (inL a n)).toArray⟩ := by
  have hl := in_len a n ia hn1 hn2
  refine ⟨fun W => ?_, fun W => ?_, fun W => ?_⟩
  · exact upper_any ⟨(inL a n).toArray⟩ W (by rw [size_mk]; omega)
  · have h := parse_any ⟨(upL (inL a n)).toArray⟩ n W (by omega) (by omega) (by rw [size_mk]; simp [upL]; omega)
    rwa [bys_mk, parse_up, parse_in a n ia hn1 hn2] at h
  · refine (lead_any ⟨(inL a n).toArray⟩ W (by rw [size_mk]; omega)).mono ?_
    rintro e w' ⟨h1, h2⟩
    refine ⟨_, _, h1, h2, ?_⟩
    rintro rfl
    rw [bys_mk, lead_in a ia, size_mk]
    exact ⟨rfl, rfl⟩
theorem digits_out {w : World} {A : Option Addr} {n c : Nat} {b : Int} (hn : n ≤ 9223372036854775807) (h : n = 0 ∨ 60 < n ∨ b < 2 ∨ 36 < b) :
    Calls Try.prog 10 #[.slice A n c, .int .i64 b] w fun e w' => e = .returned (.bool true) ∧ Below w.heap.size w w' := by
  have q1 : ((n : Int) == 0) = decide (n = 0) := by
    by_cases e : n = 0
    · subst e; rfl
    · rw [decide_eq_false e]; simpa using e
  have q2 : decide (60 < (n : Int)) = decide (60 < n) := by congr 1; simp only [eq_iff_iff]; omega
  have q3 := hn
  clear hn
  go_enter Try.func10, Try.ntmps10
  go_wp2_with (first
    | (go_at_call 15; refine (c_text7 _).mono ?_; rintro e w1 ⟨rfl, hb1⟩; have HB1 := Lib.hid hb1; clear hb1)
    | (go_at_call 40; refine (c_split _).mono ?_; rintro e w2 ⟨A2, c2, rfl, hb2⟩; have HB2 := Lib.hid hb2; clear hb2))
  all_goals (try go_ret)
  all_goals first
    | exact ⟨rfl, HB1.out.trans (HB2.out.mono HB1.out.size)⟩
    | (exfalso; simp_all; omega)
    | (exfalso; omega)
set_option maxRecDepth 100000 in
set_option maxHeartbeats 4000000 in
theorem digits_walk {w : World} {A : Option Addr} {n c B : Nat} {zs : List Int} (hc : Rd w A n 1 (zs.map (Value.int .i64))) (hz : ∀ x ∈ zs, (Lit.int .i64 x).wf = true) (hn0 : 0 < n) (hn : n ≤ 60) (hB1 : 2 ≤ B) (hB2 : B ≤ 36) :
    Calls Try.prog 10 #[.slice A n c, .int .i64 (B : Int)] w fun e w' => e = .returned (.bool true) ∧ Below w.heap.size w w' := by
  obtain ⟨b0, o0, rfl, hb0, hcs⟩ := hc.form1 hn0
  have hzl : zs.length = n := by have := hc.1; simpa using this
  obtain ⟨f, hf⟩ : ∃ f : Nat → Int, ∀ k, k < n → zs[k]? = some (f k) := ⟨fun k => zs.getD k 0, fun k hk => by simp [List.getD, List.getElem?_eq_getElem (show k < zs.length by omega)]⟩
  have hfi : ∀ k, k < n → I64 (f k) := fun k hk => wf_i64 (hz _ (List.mem_of_getElem? (hf k hk)))
  have hcell : ∀ k, k < n → ∀ W, Below w.heap.size w W → W.cell? ⟨b0, o0 + k, none⟩ = some (.int .i64 (f k)) := fun k hk W hW => (hW.cell hb0).trans (hcs k _ (by simp [hf k hk]))
  obtain ⟨T, hT⟩ : ∃ T : Nat → ByteArray, ∀ k, T k = ⟨(inL (f k) B).toArray⟩ := ⟨_, fun _ => rfl⟩
  obtain ⟨U, hU⟩ : ∃ U : Nat → ByteArray, ∀ k, U k = ⟨(upL (inL (f k) B)).toArray⟩ := ⟨_, fun _ => rfl⟩
  obtain ⟨S, hS⟩ : ∃ S : Nat → ByteArray, ∀ k, S k = ⟨(allK 59 (fun i => inL (f i) B) k).toArray⟩ := ⟨_, fun _ => rfl⟩
  have hin : ∀ k, k < n → ∀ W, Calls Try.prog 13 #[.int .i64 (f k), .int .i64 (B : Int)] W fun e w' => e = .returned (.tuple #[.string (T k), .int .i64 0]) ∧ Below W.heap.size W w' := fun k hk W => by rw [hT]; exact in_any (f k) B W (hfi k hk) hB1 hB2
  have hpc : ∀ k, k < n → Piece (f k) B (T k) (U k) := fun k hk => by rw [hT, hU]; exact piece_any (f k) B (hfi k hk) hB1 hB2
  have hspl : ∀ W, Calls Try.prog 40 #[.string (S n), .string ⟨#[59]⟩] W fun e w' => ∃ P cap, e = .returned (.slice P n cap) ∧ Rd w' P n 1 ((List.range n).map fun k => .string (T k)) ∧ Below W.heap.size W w' := fun W => by
    have hlen := allK_len 59 (fun i => inL (f i) B) 65 n (fun i hi => in_len (f i) B (hfi i hi) hB1 hB2)
    rw [hS]
    refine (split_any ⟨(allK 59 (fun i => inL (f i) B) n).toArray⟩ 59 W (by rw [size_mk]; omega)).mono ?_
    rintro e w' ⟨v, cap, h1, h2, h3⟩
    rw [bys_mk, pieces_all 59 _ n hn0 (fun i hi => in_no (f i) B (hfi i hi) hB1 hB2)] at h1 h2
    rw [List.length_map, List.length_range] at h1 h2
    refine ⟨v, cap, h1, ?_, h3⟩
    rw [List.map_map] at h2
    have e2 : (List.range n).map (strV ∘ fun i => inL (f i) B) = (List.range n).map fun k => .string (T k) := by
      congr 1; funext k; simp [strV, hT]
    rwa [e2] at h2
  have hS0 : S 0 = ⟨#[]⟩ := by rw [hS]; rfl
  have hS1 : S 0 ++ T 0 = S 1 := by rw [hS, hT, hS, mk_append]; simp [allK]
  have hSk : ∀ k, 0 < k → S k ++ ⟨#[59]⟩ ++ T k = S (k + 1) := fun k hk => by rw [hS, hT, hS, show (⟨#[59]⟩ : ByteArray) = ⟨[59].toArray⟩ from rfl, mk_append, mk_append, allK, if_pos hk]
  have hsz : ∀ k, k < n → (S k).size + 1 + (T k).size ≤ 5000 := fun k hk => by
    have h1 := allK_len 59 (fun i => inL (f i) B) 65 k (fun i hi => in_len (f i) B (hfi i (by omega)) hB1 hB2)
    have h2 := in_len (f k) B (hfi k hk) hB1 hB2
    rw [hS, hT, size_mk, size_mk]; omega
  have HSZ := Lib.hid hsz
  have HCELL := Lib.hid hcell
  have HIN := Lib.hid hin
  have HPC := Lib.hid hpc
  have HSPL := Lib.hid hspl
  have HSS := Lib.hid (And.intro hS0 (And.intro hS1 hSk))
  have q1 : ((n : Int) == 0) = false := by simp; omega
  have q2 : decide (60 < (n : Int)) = false := decide_eq_false (by omega)
  have q3 : decide ((B : Int) < 2) = false := decide_eq_false (by omega)
  have q4 : decide (36 < (B : Int)) = false := decide_eq_false (by omega)
  clear hsz hc hz hcs hzl hf hfi hcell hT hU hS hin hpc hspl hS0 hS1 hSk
  go_enter Try.func10, Try.ntmps10
  go_wp2_with (first
    | (go_at_call 15; refine (c_text7 _).mono ?_; rintro e w1 ⟨rfl, hb1⟩; have HB1 := Lib.hid hb1; clear hb1)
    | (go_at_call 40; refine (c_split _).mono ?_; rintro e w2 ⟨A2, c2, rfl, hb2⟩; have HB2 := Lib.hid hb2; clear hb2))
  have HB := Lib.hid (HB1.out.trans (HB2.out.mono HB1.out.size))
  go_loopw [5, 42] (fun v5 v42 wr => ∃ k : Nat, k ≤ n ∧ v42 = .int .i64 k ∧ v5 = .string (S k) ∧ Below w.heap.size w wr) (fun _ v42 _ => n - (intOf v42).toNat)
  case atStart => exact ⟨0, Nat.zero_le _, rfl, by rw [HSS.out.1], HB.out⟩
  case round =>
    obtain ⟨k, hk, rfl, rfl, hbel⟩ := hrel
    have H := Lib.hid hbel
    clear hbel
    by_cases hlt : k < n
    · have z1 : (0 : Int) ≤ (k : Int) := by omega
      have z2 : (k : Int) < (n : Int) := by omega
      have hcl := HCELL.out k hlt _ H.out
      have hs9 := HSZ.out k hlt
      by_cases hk0 : k = 0
      · subst hk0
        have y1 : ¬ (9223372036854775807 < (S 0).size + (T 0).size) := by omega
        have hcl0 : wr.cell? ⟨b0, o0, none⟩ = some (.int .i64 (f 0)) := hcl
        clear hs9 hcl
        go_wp2_with (go_at_call 13; refine (HIN.out 0 hlt _).mono ?_; rintro e w3 ⟨rfl, hb3⟩; have HB3 := Lib.hid hb3; clear hb3)
        exact ⟨⟨1, by omega, by go_num, by rw [HSS.out.2.1], H.out.trans (HB3.out.mono H.out.size)⟩, by simp [intOf]; omega⟩
      · have z3 : decide (0 < (k : Int)) = true := decide_eq_true (by omega)
        have hkp : 0 < k := by omega
        have y1 : ¬ (9223372036854775807 < (S k).size + 1 + (T k).size) := by omega
        have y2 : ¬ (9223372036854775807 < (S k).size + 1) := by omega
        clear hk0 hs9
        go_wp2_with (go_at_call 13; refine (HIN.out k hlt _).mono ?_; rintro e w3 ⟨rfl, hb3⟩; have HB3 := Lib.hid hb3; clear hb3)
        exact ⟨⟨k + 1, by omega, by go_num, by rw [HSS.out.2.2 k hkp], H.out.trans (HB3.out.mono H.out.size)⟩, by simp [intOf]; omega⟩
    · obtain rfl : k = n := by omega
      go_wp2_with (go_at_call 40; refine (HSPL.out _).mono ?_; rintro e w3 ⟨P, cap, rfl, hr3, hb3⟩; have H3 := Lib.hid (And.intro hr3 hb3); clear hr3 hb3)
      obtain ⟨p0, q0, rfl, hp0, hps⟩ := H3.out.1.form1 hn0
      have hpiece : ∀ i, i < k → ∀ W, Below w3.heap.size w3 W → W.cell? ⟨p0, q0 + i, none⟩ = some (.string (T i)) := fun i hi W hW => (hW.cell hp0).trans (hps i _ (by simp [hi]))
      have HP := Lib.hid hpiece
      have hb4 := H.out.trans (H3.out.2.mono H.out.size)
      have H4 := Lib.hid hb4
      clear hps hpiece hb4
      go_loopw [70] (fun v70 wy => ∃ i : Nat, i ≤ k ∧ v70 = .int .i64 i ∧ Below w3.heap.size w3 wy) (fun v70 _ => k - (intOf v70).toNat)
      case atStart => exact ⟨0, Nat.zero_le _, rfl, Below.refl _ _⟩
      case round =>
        obtain ⟨i, hi, rfl, hbel⟩ := hrel
        have H5 := Lib.hid hbel
        have H6 := Lib.hid (H4.out.trans (hbel.mono H4.out.size))
        by_cases hit : i < k
        · have z4 : (0 : Int) ≤ (i : Int) := by omega
          have z5 : (i : Int) < (k : Int) := by omega
          have hcl := HP.out i hit _ hbel
          have PC := Lib.hid (HPC.out i hit)
          clear hbel
          by_cases h10 : B = 10
          · have e1 : ((B : Int) == 10) = true := by subst h10; rfl
            have e2 : decide ((B : Int) = 10) = true := by subst h10; rfl
            have H10 := Lib.hid h10
            clear h10
            go_wp2_with (first
              | (go_at_call 41; refine (PC.out.up _).mono ?_; rintro e w5 ⟨rfl, hb5⟩; have H7 := Lib.hid (And.intro hb5 (HCELL.out i hit _ (H6.out.trans (hb5.mono H6.out.size)))); have hc7 := H7.out.2; clear hb5)
              | (go_at_call 14; refine (PC.out.parse _).mono ?_; rintro e w6 ⟨rfl, rfl⟩)
              | (go_at_call 16; refine (PC.out.lead _).mono ?_; rintro e w7 ⟨m7, j7, rfl, rfl, hlead⟩; obtain ⟨rfl, rfl⟩ := hlead H10.out))
            exact ⟨⟨i + 1, by omega, by go_num, H5.out.trans (H7.out.1.mono H5.out.size)⟩, by simp [intOf]; omega⟩
          · have e1 : ((B : Int) == 10) = false := by simpa using (fun e => h10 (by omega) : ¬ (B : Int) = 10)
            have e2 : decide ((B : Int) = 10) = false := decide_eq_false (fun e => h10 (by omega))
            clear h10
            go_wp2_with (first
              | (go_at_call 41; refine (PC.out.up _).mono ?_; rintro e w5 ⟨rfl, hb5⟩; have H7 := Lib.hid (And.intro hb5 (HCELL.out i hit _ (H6.out.trans (hb5.mono H6.out.size)))); have hc7 := H7.out.2; clear hb5)
              | (go_at_call 14; refine (PC.out.parse _).mono ?_; rintro e w6 ⟨rfl, rfl⟩)
              | (go_at_call 16; refine (PC.out.lead _).mono ?_; rintro e w7 ⟨m7, j7, rfl, rfl, hlead⟩; have HL := Lib.hid hlead; clear hlead))
            exact ⟨⟨i + 1, by omega, by go_num, H5.out.trans (H7.out.1.mono H5.out.size)⟩, by simp [intOf]; omega⟩
        · obtain rfl : i = k := by omega
          clear hbel
          go_wp2
          go_ret
          exact ⟨rfl, H6.out⟩
end Go.Proofs.Ytcjmoobdoinbkaa
