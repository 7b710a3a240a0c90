/- The contract of order.Plain at any values. Condition: no more than some thousands of values, texts of a size that Go knows. -/
import Derived.Test.YtecoghabjcnbnaaOrdered
import Derived.Test.YtecoghabjcnbnaaPlain
import Derived.Test.YtecoghabjcnbnaaCmpV
namespace Go.Proofs.Ytecoghabjcnbnaa
open Go.RowKit
set_option linter.unusedVariables false
/-- In order by Compare. -/
def Rup (x y : V) : Prop := (cmpV x y).2 = 0 ∧ (cmpV x y).1 ≤ 0
/-- What Plain leaves. -/
def PlainV (w : World) (n : Nat) (vs : List V) (e : Ending) (w' : World) : Prop :=
  Below w.heap.size w w' ∧ (e = .returned (.tuple #[.slice none 0 0, .int .i64 30]) ∨
    ∃ A c us, e = .returned (.tuple #[.slice A n c, .int .i64 0]) ∧ RdV w' A n us ∧ (∀ z, z ∈ us ↔ z ∈ vs) ∧ ∀ p x y, us[p]? = some x → us[p + 1]? = some y → Rup x y)
theorem tells_up {c : Int} {us : List V} {i J : Nat} {x y : V} (h : Adj Rup (us, i, J + 1)) (ok : OkS (us, i, J + 1)) (hi : i < us.length) (hx : us[J]? = some x) (hy : us[J + 1]? = some y) (he : (cmpV x y).2 = 0) (hc : (cmpV x y).1 = c) : Adj Rup (tellS c (us, i, J + 1)) :=
  h.tell ok hi hx hy (fun e => ⟨he, by omega⟩) (fun e => cmpV_turn he (by omega))
set_option maxRecDepth 100000 in
set_option maxHeartbeats 8000000 in
theorem plainV_any {w : World} {A : Option Addr} {n c : Nat} {vs : List V} (hv : RdV w A n vs) (hn : n ≤ 1000) (hsz : ∀ x ∈ vs, x.s.size ≤ maxLen) : Calls Try.prog 18 #[.slice A n c] w (PlainV w n vs) := by
  have hl := hv.len
  have HV := Lib.hid hv
  have HI := Lib.hid hsz
  have HL := Lib.hid hl
  clear hv hsz hl
  go_enter Try.func18, Try.ntmps18
  go_wp2_with (go_at_call 9; refine (order_new HV.out (by omega)).mono ?_; rintro e w1 ⟨g, v, rfl, hg, hs, hb⟩; have HS1 := Lib.hid hs; have HB1 := Lib.hid hb; clear hs hb)
  go_loopg [] (n * n + 1) (fun gk wr => ∃ s : S3, mu s ≤ gk ∧ Srt wr w.heap.size g v s.1 s.2.1 s.2.2 ∧ OkS s ∧ s.1.length = n ∧ s.2.1 ≤ n + 1 ∧ (∀ z, z ∈ s.1 ↔ z ∈ vs) ∧ Adj Rup s ∧ Below w.heap.size w wr)
  case atStart =>
    exact ⟨(vs, 1, 1), by have := mu_start vs; rw [HL.out] at this; exact this, HS1.out, ⟨Nat.le_refl _, Nat.le_refl _⟩, HL.out, by simp, fun _ => Iff.rfl, Adj.start _ _, HB1.out⟩
  case round =>
    obtain ⟨⟨us, i, j⟩, hmu, hs, hok, hlen, hi1, hmem, hadj, hbl⟩ := hrel
    simp only at hs hlen hi1 hmem
    have HS := Lib.hid hs
    have HO := Lib.hid hok
    have HR := Lib.hid (And.intro hmu (And.intro hlen (And.intro hmem hadj)))
    have HBL := Lib.hid hbl
    by_cases hi : i < us.length
    · obtain ⟨J, x, y, rfl, hx, hy⟩ := ask_two hok hi
      have hxs := HI.out x ((hmem x).1 (List.mem_of_getElem? hx))
      have hys := HI.out y ((hmem y).1 (List.mem_of_getElem? hy))
      have hcmp := fun w => compare_any x y hxs hys w
      have HX := Lib.hid (And.intro hx hy)
      obtain ⟨c1, hc1⟩ : ∃ c1, (cmpV x y).1 = c1 := ⟨_, rfl⟩
      have hlt := hs.blk.lt
      have hdn := mu_down (c := c1) hok hi
      have HD := Lib.hid hdn
      rw [hc1] at hcmp
      have HC1 := Lib.hid hc1
      clear hc1
      rcases cmpV_err x y with he | he
      · rw [he] at hcmp
        have HE := Lib.hid he
        have HC := Lib.hid hcmp
        clear hs hok hmu hlen hmem hadj hbl hx hy hxs hys hcmp hdn he
        obtain ⟨k1, n1, s1⟩ := x
        obtain ⟨k2, n2, s2⟩ := y
        unfold V.agg at HC
        go_wp2_with (first
          | (go_at_call 10; refine (pair_some HS.out hi HX.out.1 HX.out.2 (by have := HR.out.2.1; omega)).mono ?_; rintro e w2 ⟨rfl, hb2⟩; have HB2 := Lib.hid hb2; clear hb2; unfold V.agg)
          | (go_at_call 17; refine (HC.out _).mono ?_; rintro e w3 ⟨rfl, hb3⟩; have hs3 := (((HS.out.below HB2.out).alloc _).alloc _).below hb3; have HS3 := Lib.hid hs3; have h23 := HB2.out.trans (below_two hb3 HB2.out.size); have H23 := Lib.hid h23; clear hb3 hs3 h23)
          | (go_at_call 11; refine (tell_any HS3.out HO.out (by have := HR.out.2.1; omega) (by have := HR.out.2.1; omega) c1).mono ?_; rintro e w4 ⟨rfl, hs4, hk4⟩; have HS4 := Lib.hid (And.intro hs4 hk4); clear hs4 hk4))
        go_roundg (mu (tellS c1 (us, i, J + 1)))
        case rel =>
          obtain ⟨hmu, hlen, hmem, hadj⟩ := HR.out
          obtain ⟨hs4, hk4⟩ := HS4.out
          refine ⟨tellS c1 (us, i, J + 1), Nat.le_refl _, hs4, tellS_ok HO.out, by rw [tellS_len]; exact hlen, by have := tellS_i c1 (us, i, J + 1) (by rw [hlen]; exact hi1); rwa [hlen] at this, fun z => (tellS_mem z).trans (hmem z), tells_up hadj HO.out hi HX.out.1 HX.out.2 HE.out HC1.out, ?_⟩
          refine kp_below (HBL.out.trans (H23.out.mono HBL.out.size)) hk4 (fun b hb hS => ?_)
          rcases hS with e | e
          · omega
          · have := (HS3.out.own.lo e).1; omega
        case measure => exact Nat.lt_of_lt_of_le HD.out HR.out.1
      · rw [he] at hcmp
        have HC := Lib.hid hcmp
        clear hs hok hmu hlen hmem hadj hbl hx hy hxs hys hcmp hdn he
        obtain ⟨k1, n1, s1⟩ := x
        obtain ⟨k2, n2, s2⟩ := y
        unfold V.agg at HC
        go_wp2_with (first
          | (go_at_call 10; refine (pair_some HS.out hi HX.out.1 HX.out.2 (by have := HR.out.2.1; omega)).mono ?_; rintro e w2 ⟨rfl, hb2⟩; have HB2 := Lib.hid hb2; clear hb2; unfold V.agg)
          | (go_at_call 17; refine (HC.out _).mono ?_; rintro e w3 ⟨rfl, hb3⟩; have h23 := HB2.out.trans (below_two hb3 HB2.out.size); have H23 := Lib.hid h23; clear hb3 h23))
        go_ret2
        exact ⟨HBL.out.trans (H23.out.mono HBL.out.size), .inl rfl⟩
    · have HI2 := Lib.hid hi
      clear hs hok hmu hlen hmem hadj hbl
      go_wp2_with (first
        | (go_at_call 10; refine (pair_none HS.out (by omega) (by omega)).mono ?_; rintro e w2 ⟨rfl, hb2⟩; have HB2 := Lib.hid hb2; clear hb2; unfold V.agg V.null)
        | (go_at_call 13; refine (sort_values (((HS.out.below HB2.out).alloc _).alloc _) (by have := HR.out.2.1; omega)).mono ?_; rintro e w3 ⟨v3, rfl, ho3, hb3⟩; have H3 := Lib.hid (And.intro ho3 hb3); clear ho3 hb3))
      go_ret2
      obtain ⟨hmu, hlen, hmem, hadj⟩ := HR.out
      obtain ⟨ho3, hb3⟩ := H3.out
      have h23 := HB2.out.trans (below_two hb3 HB2.out.size)
      obtain ⟨A3, c3, rfl, _, hr3⟩ := ho3.rd
      rw [hlen] at hr3
      exact ⟨HBL.out.trans (h23.mono HBL.out.size), .inr ⟨A3, c3, us, by rw [hlen]; rfl, hr3, hmem, fun p x y hx hy => hadj.ended (by have := HI2.out; omega) hx hy⟩⟩
end Go.Proofs.Ytecoghabjcnbnaa
