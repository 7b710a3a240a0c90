/- WholeValues' walk. Conditions: none beyond what the machine holds. -/
import Derived.Test.YtcjmoobdoinbkaaSum
import Derived.Test.YtcjmoobdoinbkaaEqs
import Derived.Deep.RegionHeld3
import Derived.Deep.CutBlock
import Derived.Deep.DeepCutAuto
namespace Go.Proofs.Ytcjmoobdoinbkaa
open Go.RowKit
set_option linter.unusedVariables false
theorem head_bel {w w2 w3 w4 : World} {o1 o2 o3 : Obj} (h2 : Below (w.alloc o1).heap.size (w.alloc o1) w2) (h3 : Below w2.heap.size w2 w3) (h4 : Below ((w3.alloc o2).alloc o3).heap.size ((w3.alloc o2).alloc o3) w4) : Below w.heap.size w w4 := by
  have b1 := below_alloc (Below.refl w.heap.size w) o1
  have b2 := b1.trans (h2.mono b1.size)
  have b3 := b2.trans (h3.mono b2.size)
  have b4 := below_alloc (below_alloc b3 o2) o3
  exact b4.trans (h4.mono b4.size)
/-- The head: a text and a bool put together, in a list. -/
theorem values_out {w : World} {A : Option Addr} {n c : Nat} {cut : Int} (hn : n ≤ 9223372036854775807) (h : 60 < n ∨ cut < 0 ∨ (n : Int) < cut) :
    Calls Try.prog 11 #[.slice A n c, .int .i64 cut] w fun e w' => e = .returned (.bool true) ∧ Below w.heap.size w w' := by
  have q2 : decide (60 < (n : Int)) = decide (60 < n) := by congr 1; simp only [eq_iff_iff]; omega
  go_enter Try.func11, Try.ntmps11
  go_wp2_with (first
    | (go_at_call 43; refine (str_any ⟨#[97]⟩ _).mono ?_; rintro e w1 ⟨rfl, rfl⟩; simp only [V.str, V.agg])
    | (go_at_call 44; refine (true_any _).mono ?_; rintro e w2 ⟨rfl, hb2⟩; have H2 := Lib.hid hb2; clear hb2)
    | (go_at_call 42; refine (add_true _).mono ?_; rintro e w3 ⟨rfl, hb3⟩; have H3 := Lib.hid hb3; clear hb3)
    | (go_at_call 45; refine (new_any (vs := [V.str ⟨#[97, 116, 114, 117, 101]⟩]) (Rd.of_blk (Blk.made (by simp) 50 (V.str ⟨#[97, 116, 114, 117, 101]⟩).cs) rfl) (by omega)).mono ?_; rintro e w4 ⟨g4, v4, rfl, hl4, hb4⟩; obtain ⟨A4, c4, rfl, _, _⟩ := hl4.sl; have H4 := Lib.hid (And.intro hl4 hb4); clear hl4 hb4)
    | (go_at_call 46; refine (len_any H4.out.1.blk).mono ?_; rintro e w5 ⟨rfl, rfl⟩))
  all_goals go_ret
  all_goals exact ⟨rfl, head_bel H2.out H3.out H4.out.2⟩
theorem new_nil (w : World) : Calls Try.prog 45 #[.slice none 0 0] w (Listed w []) := new_any (Rd.nil _ none 3) (by omega)
theorem rd_one {w : World} {A : Option Addr} {n : Nat} {xs : List Value} (h : Rd w A n 1 xs) (hn : 0 < n) : ∃ b o, A = some ⟨b, o, none⟩ ∧ b < w.heap.size ∧ ∀ k v, xs[k]? = some v → w.cell? ⟨b, o + k, none⟩ = some v := by
  have hl := h.1
  have hne : xs ≠ [] := fun e => by rw [e] at hl; simp at hl; omega
  obtain ⟨ad, rfl, hc⟩ := h.2 hne
  have h0 : 0 < xs.length := by omega
  have c0 := hc 0 _ (List.getElem?_eq_getElem h0)
  obtain ⟨b, o, sp⟩ := ad
  have hsp : sp = none := by simpa [Addr.add] using World.cell?_spot c0
  subst hsp
  refine ⟨b, o, rfl, by simpa [Addr.add] using World.block_lt_of_cell? w _ c0, fun k v hv => ?_⟩
  have := hc k v hv
  rwa [add_lit] at this
theorem bdN {B : Nat} {a w : World} (h : Below B a w) (n : Nat) : Below B a (w.drewN n) := ⟨h.os, h.tape, h.output, h.size, h.block⟩
/-- What the loop keeps. -/
structure VL (w0 w : World) (base lp g : Nat) (v : Value) (ts : List ByteArray) : Prop where
  ptr : Blk w lp 55 [.pointer (some ⟨g, 0, none⟩)]
  lst : Lst w base g v (strs ts)
  bel : Below w0.heap.size w0 w
  short : ∀ t ∈ ts, t.size ≤ 200
  lo : w0.heap.size ≤ base
theorem VL.below {w0 w w' : World} {base lp g : Nat} {v : Value} {ts : List ByteArray} (h : VL w0 w base lp g v ts) (k : Below w.heap.size w w') : VL w0 w' base lp g v ts :=
  ⟨h.ptr.below k h.ptr.lt, h.lst.below k, h.bel.trans (k.mono h.bel.size), h.short, h.lo⟩
theorem VL.drew {w0 w : World} {base lp g : Nat} {v : Value} {ts : List ByteArray} (h : VL w0 w base lp g v ts) : VL w0 w.drew base lp g v ts := h.below (Below.refl _ _).drew
theorem VL.push {w0 w w' : World} {base lp g : Nat} {v v' : Value} {ts : List ByteArray} {t : ByteArray} (h : VL w0 w base lp g v ts) (hl : Lst w' base g v' (strs ts ++ [V.str t])) (k : Kp (fun b => b = g ∨ v.ownBlock = some b) w w') (ht : t.size ≤ 200) : VL w0 w' base lp g v' (ts ++ [t]) := by
  refine ⟨h.ptr.kp k (fun e => ?_), by simpa [strs] using hl, bel_kp h.bel k (fun b e => ?_) h.bel.size, fun u hu => ?_, h.lo⟩
  · rcases e with e | e
    · have h1 := h.ptr
      rw [e] at h1
      have h2 := h.lst.blk
      unfold Blk at h1 h2
      rw [h1] at h2
      injection h2 with h2
      injection h2 with _ h3 _
      exact absurd h3 (by decide)
    · exact own_ne h.lst.own h.ptr (by decide) e
  · rcases e with e | e
    · rw [e]; exact Nat.le_trans h.lo h.lst.lo
    · exact Nat.le_trans h.lo (h.lst.own.lo e).1
  · rcases List.mem_append.1 hu with hu | hu
    · exact h.short u hu
    · simp at hu; subst hu; exact ht
/-- An append, spelt of texts. -/
theorem catB_append (xs ys : List ByteArray) : catB (xs ++ ys) = catB xs ++ catB ys := by
  unfold catB
  rw [List.foldl_append]
  have : ∀ (ys : List ByteArray) (z : ByteArray), ys.foldl (· ++ ·) z = z ++ ys.foldl (· ++ ·) ⟨#[]⟩ := by
    intro ys
    induction ys with
    | nil => intro z; exact ByteArray.append_empty.symm
    | cons y ys ih =>
      intro z
      rw [List.foldl_cons, List.foldl_cons, ih, ih (⟨#[]⟩ ++ y)]
      rw [show (⟨#[]⟩ : ByteArray) ++ y = y from ByteArray.empty_append, ByteArray.append_assoc]
  exact this ys _
set_option maxRecDepth 100000 in
set_option maxHeartbeats 8000000 in
theorem values_walk {w : World} {A : Option Addr} {n c cut : Nat} {ts : List ByteArray} (ht : Rd w A n 1 (ts.map Value.string)) (hn : n ≤ 60) (hcut : cut ≤ n) :
    Calls Try.prog 11 #[.slice A n c, .int .i64 (cut : Int)] w fun e w' => e = .returned (.bool true) ∧ Below w.heap.size w w' := by
  have htl : ts.length = n := by have := ht.1; simpa using this
  have q2 : decide (60 < (n : Int)) = false := decide_eq_false (by omega)
  have q3 : decide ((cut : Int) < 0) = false := decide_eq_false (by omega)
  have q4 : decide ((n : Int) < (cut : Int)) = false := decide_eq_false (by omega)
  have HT := Lib.hid ht
  have HTL := Lib.hid htl
  clear ht htl
  go_enter Try.func11, Try.ntmps11
  go_upto_region 4 with (first
    | (go_at_call 43; refine (str_any ⟨#[97]⟩ _).mono ?_; rintro e w1 ⟨rfl, rfl⟩; simp only [V.str, V.agg])
    | (go_at_call 44; refine (true_any _).mono ?_; rintro e w2 ⟨rfl, hb2⟩; have H2 := Lib.hid hb2; clear hb2)
    | (go_at_call 42; refine (add_true _).mono ?_; rintro e w3 ⟨rfl, hb3⟩; have H3 := Lib.hid hb3; clear hb3)
    | (go_at_call 45; with_reducible refine (new_nil _).mono ?_; rintro e w6 ⟨g, v6, rfl, hl6, hb6⟩; have H6 := Lib.hid (And.intro hl6 hb6); clear hl6 hb6)
    | (go_at_call 45; refine (new_any (vs := [V.str ⟨#[97, 116, 114, 117, 101]⟩]) (Rd.of_blk (Blk.made (by simp) 50 (V.str ⟨#[97, 116, 114, 117, 101]⟩).cs) rfl) (by omega)).mono ?_; rintro e w4 ⟨g4, v4, rfl, hl4, hb4⟩; obtain ⟨A4, c4, rfl, _, _⟩ := hl4.sl; have H4 := Lib.hid (And.intro hl4 hb4); clear hl4 hb4)
    | (go_at_call 46; refine (len_any H4.out.1.blk).mono ?_; rintro e w5 ⟨rfl, rfl⟩))
  have HB := Lib.hid (head_bel H2.out H3.out H4.out.2)
  go_upto_region 6 with fail
  go_wp2_with (go_at_call 45; refine (new_nil _).mono ?_; rintro e w6 ⟨g, v6, rfl, hl6, hb6⟩; have H6 := Lib.hid (And.intro hl6 hb6); clear hl6 hb6)
  have HV := Lib.hid (show VL w (w6.alloc (.cells #[.pointer (some ⟨g, 0, none⟩)] 55)) w4.heap.size w6.heap.size g v6 [] from
    ⟨Blk.new _ _ _, H6.out.1.below (below_alloc (Below.refl _ _) _), below_alloc (HB.out.trans (H6.out.2.mono HB.out.size)) _, fun t ht => by simp at ht, HB.out.size⟩)
  go_loopw [8, 54] (fun v8 v54 wr => ∃ (k : Nat) (v : Value), k ≤ n ∧ v54 = .int .i64 k ∧ v8 = .string (catB (ts.take k)) ∧ VL w wr w4.heap.size w6.heap.size g v (ts.take k)) (fun _ v54 _ => n - (intOf v54).toNat)
  case atStart => exact ⟨0, v6, Nat.zero_le _, rfl, rfl, HV.out⟩
  case round =>
    obtain ⟨k, v, hk, rfl, rfl, hvl⟩ := hrel
    have H := Lib.hid hvl
    by_cases hlt : k < n
    · obtain ⟨b0, o0, rfl, hb0, hcs⟩ := rd_one HT.out (by omega)
      obtain ⟨t, ht⟩ : ∃ t, ts[k]? = some t := ⟨_, List.getElem?_eq_getElem (by have := HTL.out; omega)⟩
      have hcl : wr.cell? ⟨b0, o0 + k, none⟩ = some (.string t) := (hvl.bel.cell hb0).trans (hcs k _ (by rw [List.getElem?_map, ht]; rfl))
      have hp0 := hvl.ptr.cell (i := 0) rfl
      have hpl := hvl.ptr.lt
      have HK := Lib.hid ht
      have z1 : (0 : Int) ≤ (k : Int) := by omega
      have z2 : (k : Int) < (n : Int) := by omega
      clear hvl hcs ht
      by_cases hsz : 200 < t.size
      · have q5 : decide (200 < (t.size : Int)) = true := decide_eq_true (by omega)
        go_upto_region 11 with fail
        go_quiet (fail)
        go_wp2
        go_ret
        exact ⟨rfl, by repeat (first | exact H.out.bel | refine Below.drew ?_ | refine bdN ?_ _)⟩
      · have q5 : decide (200 < (t.size : Int)) = false := decide_eq_false (by omega)
        have hkl : (strs (ts.take k)).length ≤ 100000 := by simp [strs]; omega
        have HTK := Lib.hid (show ts.take (k + 1) = ts.take k ++ [t] from by rw [List.take_add_one, HK.out]; rfl)
        have hb4 := H.out.lst.lo
        have hbs : w4.heap.size ≤ wr.heap.size := by have := H.out.lst.blk.lt; omega
        go_upto_region 11 with fail
        go_cut [68] (fun s wx => s = .bool false ∧ ∃ v', VL w wx w4.heap.size w6.heap.size g v' (ts.take (k + 1)))
        case first =>
          go_region_with (first
            | (go_at_call 43; refine (str_any t _).mono ?_; rintro e w7 ⟨rfl, rfl⟩; simp only [V.str, V.agg])
            | (go_at_call 47; refine (push_any (x := V.str t) (H.out.below (by repeat (first | exact Below.refl _ _ | refine below_alloc ?_ _ | refine Below.drew ?_))).lst (by first | exact Blk.made (by simp) 50 (V.str t).cs | exact (Blk.made (by simp) 50 (V.str t).cs).drew) hkl (by simp; omega)).mono ?_; rintro e w8 ⟨v8, rfl, hl8, hk8⟩; have H8 := Lib.hid ((H.out.below (by repeat (first | exact Below.refl _ _ | refine below_alloc ?_ _ | refine Below.drew ?_))).push hl8 hk8 (by omega)); clear hl8 hk8))
          all_goals (go_wp2_with fail; go_meet)
          all_goals exact ⟨rfl, v8, by rw [HTK.out]; repeat (first | exact H8.out | refine VL.drew ?_)⟩
        case rest =>
          obtain ⟨rfl, v', hvl'⟩ := hcut
          have H9 := Lib.hid hvl'
          have y1 : ¬ (9223372036854775807 < (catB (ts.take k)).size + t.size) := by
            have h1 := catB_size (ts.take k) H.out.short
            rw [List.length_take] at h1
            omega
          clear hvl'
          go_wp2
          exact ⟨⟨k + 1, v', by omega, by go_num, by rw [catB_take HK.out], H9.out⟩, by simp [intOf]; omega⟩
    · obtain rfl : k = n := by omega
      rw [List.take_of_length_le (by have := HTL.out; omega)] at hvl
      have hc : ts.take k = ts := List.take_of_length_le (by have := HTL.out; omega)
      have hsl : (strs ts).length = k := by have := HTL.out; simp [strs]; exact this
      obtain ⟨A9, c9, rfl, hc9, hr9⟩ := hvl.lst.sl
      rw [hsl] at hvl hc9 hr9
      obtain ⟨S1, hS1⟩ : ∃ S, catB (ts.take cut) = S := ⟨_, rfl⟩
      obtain ⟨S2, hS2⟩ : ∃ S, catB (ts.drop cut) = S := ⟨_, rfl⟩
      obtain ⟨S, hS⟩ : ∃ S, catB ts = S := ⟨_, rfl⟩
      have hSS : S1 ++ S2 = S := by rw [← hS1, ← hS2, ← hS, ← catB_append, List.take_append_drop]
      have hsz : S1.size + S2.size ≤ 1048576 := by
        have h1 := catB_size ts hvl.short
        rw [hS, HTL.out] at h1
        rw [← app_size, hSS]; omega
      have SUM1 := Lib.hid (show ∀ W, Below wr.heap.size wr W → Calls Try.prog 48 #[.int .i64 0, .int .i64 (cut : Int), .pointer (some ⟨w6.heap.size, 0, none⟩)] W (Summed W S1) from fun W hW => by
        have h := hvl.below hW
        have := sum_any (a := 0) (b := cut) h.ptr h.lst.blk (hr9.below hW) hn hc9 (Nat.zero_le _) hcut h.short
        rw [Nat.sub_zero, List.drop_zero, hS1] at this
        exact this)
      have SUM2 := Lib.hid (show ∀ W, Below wr.heap.size wr W → Calls Try.prog 48 #[.int .i64 (cut : Int), .int .i64 (k : Int), .pointer (some ⟨w6.heap.size, 0, none⟩)] W (Summed W S2) from fun W hW => by
        have h := hvl.below hW
        have := sum_any (a := cut) (b := k) h.ptr h.lst.blk (hr9.below hW) hn hc9 hcut (Nat.le_refl _) h.short
        rw [List.take_of_length_le (by rw [List.length_drop, HTL.out]; exact Nat.le_refl _), hS2] at this
        exact this)
      have ADD := Lib.hid (show ∀ W, Calls Try.prog 42 #[.agg #[.int .i64 3, .int .i64 0, .string S1], .agg #[.int .i64 3, .int .i64 0, .string S2]] W (Added W S) from fun W => by rw [← hSS]; exact add_str 0 S1 0 S2 W hsz)
      have HF := Lib.hid hvl
      rw [hc, hS]
      clear hvl hc H hsl hr9 hc9 hS1 hS2 hS hSS hsz
      have hmf : ∀ (fn : Fn) (first cap : Array Value) (w : World), (Instr.makeFunc fn first cap).run Try.prog w = .ok (.func fn first cap) w := fun _ _ _ _ => rfl
      go_upto_region 17 with (go_at_call 48; refine (SUM1.out _ (Below.refl _ _)).mono ?_; rintro e w7 ⟨rfl, hb7⟩; have H7 := Lib.hid hb7; clear hb7)
      go_upto_region 18 with (go_at_call 48; refine (SUM2.out _ (below_alloc H7.out _)).mono ?_; rintro e w8 ⟨rfl, hb8⟩; have hB : Blk w8 w7.heap.size 50 [.int .i64 3, .int .i64 0, .string S1] := (Blk.new w7 50 _).below hb8 (by simp); have c0 := hB.cell (i := 0) rfl; have c1 := hB.cell (i := 1) rfl; have c2 := hB.cell (i := 2) rfl; have hlt8 := hB.lt; have H8 := Lib.hid hb8; clear hb8 hB)
      go_upto_region 19 with (go_at_call 42; refine (ADD.out _).mono ?_; rintro e w9 ⟨rfl, hb9⟩; have H9 := Lib.hid hb9; clear hb9)
      have V9 := Lib.hid (((((HF.out.below H7.out).below (below_alloc (Below.refl _ _) _)).below H8.out).below (below_alloc (Below.refl _ _) _)).below H9.out)
      have hv := run_eql_V (V.str S) (V.str S)
      rw [veq_self] at hv
      unfold V.agg V.str at hv
      simp only at hv
      obtain ⟨wf, hwf⟩ : ∃ wf, w9.alloc (.cells #[.int .i64 3, .int .i64 0, .string S] 50) = wf := ⟨_, rfl⟩
      obtain ⟨B, hB⟩ : ∃ B, w9.heap.size = B := ⟨_, rfl⟩
      have hVf : VL w wf w4.heap.size w6.heap.size g (.slice A9 k c9) ts := hwf ▸ V9.out.below (below_alloc (Below.refl _ _) _)
      have hBf : Blk wf B 50 [.int .i64 3, .int .i64 0, .string S] := by rw [← hwf]; exact Blk.made hB 50 _
      have ASK := Lib.hid (show ∀ W, Below wf.heap.size wf W → W.cell? ⟨w6.heap.size, 0, none⟩ = some (.pointer (some ⟨g, 0, none⟩)) ∧ W.cell? ⟨B, 0, none⟩ = some (.int .i64 3) ∧ W.cell? ⟨B, 1, none⟩ = some (.int .i64 0) ∧ W.cell? ⟨B, 2, none⟩ = some (.string S) ∧ Below wf.heap.size wf W from fun W hW =>
        ⟨(hVf.below hW).ptr.cell rfl, (hBf.below hW hBf.lt).cell rfl, (hBf.below hW hBf.lt).cell rfl, (hBf.below hW hBf.lt).cell rfl, hW⟩)
      have LEN := Lib.hid (show ∀ W, Below wf.heap.size wf W → Calls Try.prog 46 #[.pointer (some ⟨g, 0, none⟩)] W fun e w' => e = .returned (.int .i64 (k : Int)) ∧ W = w' from fun W hW => len_any (hVf.below hW).lst.blk)
      have HFIN := Lib.hid hVf.bel
      rw [hwf, hB]
      clear c0 c1 c2 hVf hBf hwf hB hlt8
      go_region_held3 (fun w' => w'.cell? ⟨w6.heap.size, 0, none⟩ = some (.pointer (some ⟨g, 0, none⟩)) ∧ w'.cell? ⟨B, 0, none⟩ = some (.int .i64 3) ∧ w'.cell? ⟨B, 1, none⟩ = some (.int .i64 0) ∧ w'.cell? ⟨B, 2, none⟩ = some (.string S) ∧ Below wf.heap.size wf w') ((refine ASK.out _ ?_; repeat (first | assumption | exact Below.refl _ _ | refine Below.drew ?_ | refine below_alloc ?_ _)))
        (first
          | (go_at_call 43; refine (str_any S _).mono ?_; rintro e wx ⟨rfl, rfl⟩; simp only [V.str, V.agg])
          | (go_at_call 46; refine (LEN.out _ (by repeat (first | assumption | exact Below.refl _ _ | refine Below.drew ?_ | refine below_alloc ?_ _))).mono ?_; rintro e wy ⟨rfl, rfl⟩))
      all_goals go_wp2
      all_goals go_ret
      all_goals exact ⟨rfl, HFIN.out.trans (Below.mono (by repeat (first | assumption | exact Below.refl _ _ | refine Below.drew ?_ | refine below_alloc ?_ _)) HFIN.out.size)⟩
end Go.Proofs.Ytcjmoobdoinbkaa
