/- The contracts of str.Join at two texts with nothing between, of value.Text at a text and at true, of value.Bool at true, and of value.Add at a text. Condition: no more than a million bytes. -/
import Derived.Test.YtcjmoobdoinbkaaVals
import Derived.Test.YtcjmoobdoinbkaaShelf
namespace Go.Proofs.Ytcjmoobdoinbkaa
open Go.RowKit
set_option linter.unusedVariables false
theorem join_two (x y : ByteArray) : (⟨(Lib.join ([x, y].map (·.data.toList)) (ByteArray.mk #[]).data.toList).toArray⟩ : ByteArray) = x ++ y := by
  apply ByteArray.ext
  apply Array.ext'
  simp [Lib.join, List.intercalate, ByteArray.data_append]
theorem app_size (x y : ByteArray) : (x ++ y).size = x.size + y.size := ByteArray.size_append
theorem sjoin_any (g c : Nat) (x y : ByteArray) (w : World) (c0 : w.cell? ⟨g, 0, none⟩ = some (.string x)) (c1 : w.cell? ⟨g, 1, none⟩ = some (.string y)) (hg : g < w.heap.size) (hc : 2 ≤ c) (hs : x.size + y.size ≤ 1048576) :
    Calls Try.prog 68 #[.slice (some ⟨g, 0, none⟩) 2 c, .string ⟨#[]⟩] w fun e w' => e = .returned (.string (x ++ y)) ∧ Below w.heap.size w w' := by
  have h := Try.strings_Join g 0 c [x, y] ⟨#[]⟩ w (fun j z hz => by
    match j with
    | 0 => simp at hz; subst hz; simpa using c0
    | 1 => simp at hz; subst hz; simpa using c1
    | j + 2 => simp at hz) hg (by simp) (by simpa using hc) (by
      have e := congrArg ByteArray.size (join_two x y)
      rw [app_size] at e
      have : (Lib.join ([x, y].map (·.data.toList)) (ByteArray.mk #[]).data.toList).length = x.size + y.size := by rw [← e]; simp [ByteArray.size]
      omega)
  rw [join_two] at h
  exact h
set_option maxRecDepth 100000 in
theorem join_any (g c : Nat) (x y : ByteArray) (w : World) (c0 : w.cell? ⟨g, 0, none⟩ = some (.string x)) (c1 : w.cell? ⟨g, 1, none⟩ = some (.string y)) (hg : g < w.heap.size) (hc : 2 ≤ c) (hs : x.size + y.size ≤ 1048576) :
    Calls Try.prog 64 #[.string ⟨#[]⟩, .slice (some ⟨g, 0, none⟩) 2 c] w fun e w' => e = .returned (.tuple #[.string (x ++ y), .int .i64 0]) ∧ Below w.heap.size w w' := by
  have hj := sjoin_any g c x y w c0 c1 hg hc hs
  have HJ := Lib.hid hj
  have q0 : decide (1048576 < (x.size : Int)) = false := decide_eq_false (by omega)
  have q1 : decide (1048576 < (x.size : Int) + (y.size : Int)) = false := decide_eq_false (by omega)
  have q2 : IntKind.i64.wrap ((x.size : Int) + (y.size : Int)) = (x.size : Int) + (y.size : Int) := IntWalk.i64_in _ (by omega)
  have hs1 : (x.size : Int) ≤ 9223372036854775807 := by omega
  clear hj
  go_enter Try.func64, Try.ntmps64
  go_wp2
  go_loopw [6, 11] (fun v6 v11 wr => wr = w ∧ ((v11 = .int .i64 0 ∧ v6 = .int .i64 0) ∨ (v11 = .int .i64 1 ∧ v6 = .int .i64 (x.size : Int)) ∨ (v11 = .int .i64 2 ∧ v6 = .int .i64 ((x.size : Int) + (y.size : Int))))) (fun _ v11 _ => 2 - (intOf v11).toNat)
  case atStart => exact ⟨rfl, .inl ⟨rfl, rfl⟩⟩
  case round =>
    obtain ⟨rfl, hv⟩ := hrel
    rcases hv with ⟨rfl, rfl⟩ | ⟨rfl, rfl⟩ | ⟨rfl, rfl⟩
    · go_wp2
      exact ⟨⟨trivial, .inr (.inl ⟨rfl, rfl⟩)⟩, by decide⟩
    · go_wp2
      exact ⟨⟨trivial, .inr (.inr ⟨rfl, rfl⟩)⟩, by decide⟩
    · go_wp2_with (go_at_call 68; refine HJ.out.mono ?_; rintro e w1 ⟨rfl, hb1⟩; have HB1 := Lib.hid hb1; clear hb1)
      refine bodyPost_ret (v := .tuple #[.string (x ++ y), .int .i64 0]) (by simp [results, Try.results64, go_sem]) rfl ⟨rfl, HB1.out⟩
theorem text_str (n : Int) (s : ByteArray) (w : World) : Calls Try.prog 63 #[.agg #[.int .i64 3, .int .i64 n, .string s]] w fun e w' => e = .returned (.tuple #[.string s, .int .i64 0]) ∧ Below w.heap.size w w' := by
  go_enter Try.func63, Try.ntmps63
  go_wp2
  exact bodyPost_ret (v := .tuple #[.string s, .int .i64 0]) (by simp [results, Try.results63, go_sem]) rfl ⟨rfl, below_alloc (Below.refl _ _) _⟩
theorem text_true (w : World) : Calls Try.prog 63 #[.agg #[.int .i64 1, .int .i64 1, .string ⟨#[]⟩]] w fun e w' => e = .returned (.tuple #[.string ⟨#[116, 114, 117, 101]⟩, .int .i64 0]) ∧ Below w.heap.size w w' := by
  go_enter Try.func63, Try.ntmps63
  go_wp2
  exact bodyPost_ret (v := .tuple #[.string ⟨#[116, 114, 117, 101]⟩, .int .i64 0]) (by simp [results, Try.results63, go_sem]) rfl ⟨rfl, below_alloc (Below.refl _ _) _⟩
theorem true_any (w : World) : Calls Try.prog 44 #[.bool true] w fun e w' => e = .returned (.agg #[.int .i64 1, .int .i64 1, .string ⟨#[]⟩]) ∧ Below w.heap.size w w' := by
  go_enter Try.func44, Try.ntmps44
  go_wp2
  exact bodyPost_ret (v := .agg #[.int .i64 1, .int .i64 1, .string ⟨#[]⟩]) (by simp [results, Try.results44, go_sem]) rfl ⟨rfl, below_alloc (Below.refl _ _) _⟩
/-- What Add leaves at texts. -/
def Added (w : World) (s : ByteArray) (e : Ending) (w' : World) : Prop := e = .returned (.tuple #[.agg #[.int .i64 3, .int .i64 0, .string s], .int .i64 0]) ∧ Below w.heap.size w w'
set_option maxRecDepth 100000 in
theorem add_text (n1 : Int) (s : ByteArray) (k2 n2 : Int) (s2 t2 : ByteArray) (w : World) (hT : ∀ W, Calls Try.prog 63 #[.agg #[.int .i64 k2, .int .i64 n2, .string s2]] W fun e w' => e = .returned (.tuple #[.string t2, .int .i64 0]) ∧ Below W.heap.size W w') (hs : s.size + t2.size ≤ 1048576) :
    Calls Try.prog 42 #[.agg #[.int .i64 3, .int .i64 n1, .string s], .agg #[.int .i64 k2, .int .i64 n2, .string s2]] w (Added w (s ++ t2)) := by
  have HT := Lib.hid hT
  obtain ⟨X, hX⟩ : ∃ X, s ++ t2 = X := ⟨_, rfl⟩
  have hJ : ∀ (g c : Nat) (W : World), W.cell? ⟨g, 0, none⟩ = some (.string s) → W.cell? ⟨g, 1, none⟩ = some (.string t2) → g < W.heap.size → 2 ≤ c → Calls Try.prog 64 #[.string ⟨#[]⟩, .slice (some ⟨g, 0, none⟩) 2 c] W fun e w' => e = .returned (.tuple #[.string X, .int .i64 0]) ∧ Below W.heap.size W w' := fun g c W c0 c1 hg hc => by rw [← hX]; exact join_any g c s t2 W c0 c1 hg hc hs
  rw [hX]
  have HJ := Lib.hid hJ
  clear hT hs hX hJ
  go_enter Try.func42, Try.ntmps42
  go_wp2_with (first
    | (go_at_call 63; with_reducible refine (text_str n1 s _).mono ?_; rintro e w1 ⟨rfl, hb1⟩; have hB : Blk w1 (w.heap.size + 1 + 1) 50 [.int .i64 0, .int .i64 0, .string ⟨#[]⟩] := (Blk.made (by simp) 50 _).below hb1 (by simp); have H1 := Lib.hid (And.intro hb1 hB); have c0 : w1.cell? ⟨w.heap.size + 1, 0, none⟩ = some (.int .i64 k2) := (hb1.cell (by simp)).trans (by go_simp); have c1 : w1.cell? ⟨w.heap.size + 1, 1, none⟩ = some (.int .i64 n2) := (hb1.cell (by simp)).trans (by go_simp); have c2 : w1.cell? ⟨w.heap.size + 1, 2, none⟩ = some (.string s2) := (hb1.cell (by simp)).trans (by go_simp); clear hb1 hB)
    | (go_at_call 63; with_reducible refine (HT.out _).mono ?_; rintro e w2 ⟨rfl, hb2⟩; have H2 := Lib.hid hb2; clear hb2 c0 c1 c2)
    | (go_at_call 64; refine (HJ.out w2.heap.size 2 _ (by go_simp) (by go_simp) (by simp) (by omega)).mono ?_; rintro e w3 ⟨rfl, hb3⟩; have hB : Blk w3 (w.heap.size + 1 + 1) 50 [.int .i64 0, .int .i64 0, .string ⟨#[]⟩] := ((H1.out.2.below H2.out H1.out.2.lt).alloc _).below hb3 (by have := (H1.out.2.below H2.out H1.out.2.lt).lt; simp; omega); have c0 := hB.cell (i := 0) rfl; have c1 := hB.cell (i := 1) rfl; have c2 := hB.cell (i := 2) rfl; have f0 := hB.frozen 0; have f1 := hB.frozen 1; have f2 := hB.frozen 2; have hlt := hB.lt; have H3 := Lib.hid (And.intro hb3 hB); clear hb3 hB)
    | (go_at_call 43; refine (str_any X _).mono ?_; rintro e w4 ⟨rfl, rfl⟩; simp only [V.str, V.agg]))
  have ba : Below w.heap.size w (((w.alloc (.cells #[.int .i64 3, .int .i64 n1, .string s] 50)).alloc (.cells #[.int .i64 k2, .int .i64 n2, .string s2] 50)).alloc (.cells #[.int .i64 0, .int .i64 0, .string ⟨#[]⟩] 50)) := below_alloc (below_alloc (below_alloc (Below.refl _ _) _) _) _
  have b1 := ba.trans (H1.out.1.mono ba.size)
  have b2 := b1.trans (H2.out.mono b1.size)
  have b2a := below_alloc b2 (.cells #[.string s, .string t2] 9)
  have b3 := b2a.trans (H3.out.1.mono b2a.size)
  have hBF := (((H3.out.2.set_ 0 (.int .i64 3)).set_ 1 (.int .i64 0)).set_ 2 (.string X)).alloc (.cells #[.int .i64 3, .int .i64 0, .string X] 50)
  have m0 := hBF.cell (i := 0) (v := .int .i64 3) rfl
  have m1 := hBF.cell (i := 1) (v := .int .i64 0) rfl
  have m2 := hBF.cell (i := 2) (v := .string X) rfl
  refine bodyPost_ret (v := .tuple #[.agg #[.int .i64 3, .int .i64 0, .string X], .int .i64 0]) (by simp [results, Try.results42, go_sem, m0, m1, m2]) rfl ⟨rfl, ?_⟩
  repeat (first | exact b3 | refine below_alloc ?_ _ | refine Below.setCell ?_ (by simp; omega) _)
theorem add_str (n1 : Int) (s : ByteArray) (n2 : Int) (t : ByteArray) (w : World) (hs : s.size + t.size ≤ 1048576) :
    Calls Try.prog 42 #[.agg #[.int .i64 3, .int .i64 n1, .string s], .agg #[.int .i64 3, .int .i64 n2, .string t]] w (Added w (s ++ t)) := add_text n1 s 3 n2 t t w (text_str n2 t) hs
theorem add_true (w : World) :
    Calls Try.prog 42 #[.agg #[.int .i64 3, .int .i64 0, .string ⟨#[97]⟩], .agg #[.int .i64 1, .int .i64 1, .string ⟨#[]⟩]] w (Added w ⟨#[97, 116, 114, 117, 101]⟩) := add_text 0 ⟨#[97]⟩ 1 1 ⟨#[]⟩ ⟨#[116, 114, 117, 101]⟩ w text_true (by decide)
end Go.Proofs.Ytcjmoobdoinbkaa
