/- thread.Threads: Cells, Drop, Live. Conditions: fewer than 1000 threads. -/
import Derived.Test.YtpcamgjfikipgaaWaits
namespace Go.Proofs.Ytpcamgjfikipgaa
open Go.RowKit Go.Maps
set_option linter.unusedVariables false
set_option maxRecDepth 100000 in
set_option maxHeartbeats 4000000 in
theorem tcells_any {w : World} {g mb base : Nat} {m : TE} {f : Int → Option TE} {sz : Nat} {rv : Value} {rs : List Nat} (h : TS w g mb base m f sz rv rs) (hs : sz ≤ 1000) :
    Calls Try.prog 63 #[.pointer (some ⟨g, 0, none⟩)] w fun e w' => ∃ A c, e = .returned (.slice A sz c) ∧ Below w.heap.size w w' := by
  have hb := h.box.cell (i := 0) rfl
  obtain ⟨D, hown, hsz, _⟩ := h.im
  obtain ⟨es, rfl, hpw, hkl⟩ := hown.entries keyed3
  have hall := leftN_all es hkl
  have hel : es.length = sz := hsz
  rw [hel] at hall
  have HALL := Lib.hid hall
  have HPW := Lib.hid hpw
  have HOWN := Lib.hid hown
  have hml := hown.lt
  obtain ⟨i0, hi, hz0, hz1, hz2⟩ := info_parts info3
  have HI := Lib.hid (And.intro hi (And.intro hz0 (And.intro hz1 hz2)))
  clear h hown hsz hall hpw hkl hel hi hz0 hz1 hz2
  go_enter Try.func63, Try.ntmps63
  go_wp2_with (first
    | (at_range; refine wpList_range_own _ rfl _ 121 rfl 3 102 keyed3 Try.underlying121 _ mb sz _ rfl HOWN.out ?_; intro w0 hrg0 hg0 hs0))
  try go_frame
  have hr0 : w.heap.size ≠ mb := by omega
  go_loopw [3] (fun v wr => ∃ (left : Go.Lit → Bool) (cnt : Nat) (xs : List Value), wr.ranges Try.prog 3 elP.R mb w.heap.size sz (.map es) left cnt ∧ wr.ownsRow (w.heap.size + 1) 3 1 v xs.length xs ∧ xs.length + leftN es left = sz ∧ (∀ z, left z = true → Maps.has (.map es) z = true) ∧ Below w.heap.size w wr ∧ w.heap.size + 1 ≤ wr.heap.size) (fun _ wr => wr.rangeLeft mb w.heap.size)
  case atStart => exact ⟨_, _, [], hrg0, World.ownsRow_nil _ _ _ _, by rw [HALL.out]; simp, fun _ h => h, ⟨hg0.os, hg0.tape, hg0.output, hg0.size, fun b hb => hg0.block b hb (by simp)⟩, by omega⟩
  case round =>
    obtain ⟨left, cnt, xs, hrg, hxs, hcnt, hleft, hbel, hsz⟩ := hrel
    have H := Lib.hid (And.intro hrg (And.intro hxs (And.intro hcnt (And.intro hleft (And.intro hbel hsz)))))
    clear hrg hxs hcnt hleft hbel
    go_wp2_with (at_next; refine wpList_next_ranges _ rfl _ rfl 3 keyed3 elP.R (Value.int .i64) elP.val (fun key kl hkey => by obtain ⟨x, rfl, _⟩ := Maps.keyOf_int_inv Try.underlying3 hkey; exact ⟨x, rfl⟩) (fun v y hv => by obtain ⟨x, rfl, _⟩ := elP.inv v y hv; exact ⟨x, rfl⟩) mb w.heap.size sz _ _ _ rfl H.out.1 ?_ ?_)
    · intro hc0 hl0
      obtain ⟨hrg, hxs, hcnt, hleft, hbel, _⟩ := H.out
      rw [leftN_none es hl0] at hcnt
      have hn : xs.length = sz := by omega
      rw [hn] at hxs
      obtain ⟨A, c, rfl⟩ : ∃ A c, u3 = .slice A sz c := by
        rcases hxs.2 with ⟨rfl, h0⟩ | ⟨g', cap, cur, rfl, _⟩
        · rw [h0]; exact ⟨_, _, rfl⟩
        · exact ⟨_, _, rfl⟩
      have HBEL := Lib.hid hbel
      clear hrg hxs hcnt hleft hbel hc0 hl0 hn
      go_wp2
      go_ret
      exact ⟨A, c, rfl, HBEL.out⟩
    · intro x c kl a b w' cnt' hkey hlk hv hat hrg1 hlt hg1 hs1 hen
      have H1 := Lib.hid (And.intro hkey (And.intro hlk (And.intro hrg1 (And.intro hlt (And.intro hg1 hs1)))))
      clear hkey hlk hv hat hrg1 hlt hg1 hs1
      have hlen : xs.length < sz := by
        obtain ⟨hrg, hxs, hcnt, hleft, hbel, _⟩ := H.out
        obtain ⟨hkey, hlk, _⟩ := H1.out
        have hk := keyed3.key hkey
        have hin : ∃ p ∈ es, p.1 = kl := by
          have := hleft kl hlk
          rw [has_eq, List.any_eq_true] at this
          obtain ⟨p, hp, e⟩ := this
          exact ⟨p, hp, WideAt.sameKey_eq e⟩
        have := leftN_next hk hlk es HPW.out hin
        omega
      have hxs' : w'.ownsRow (w.heap.size + 1) 3 1 u3 xs.length xs := H.out.2.1.kept H1.out.2.2.2.2.1 (.inr (fun e => by have := (World.ownsRow.lt H.out.2.1 w.heap.size e).1; omega))
      have HXS := Lib.hid (hxs'.alloc (.cells #[.int .i64 x] 3))
      clear hxs'
      go_wp2_with (at_builtin; refine wpList_append_rd rfl (w.heap.size + 1) (.tmp 14) (.tmp 16) 44 rfl 3 i0 _ 1 8 Try.underlying44 HI.out.1 HI.out.2.1 HI.out.2.2.1 HI.out.2.2.2 rfl (by omega) u3 xs.length xs (by rfl) (by exact HXS.out) (some ⟨w'.heap.size, 0, none⟩) 1 1 [.int .i64 x] (by rfl) (by exact Rd.of_blk (Blk.made (by simp) 3 _) rfl) (by intro u hu; simp at hu; subst hu; rfl) (by unfold maxLen; omega) (by omega) (by have := H1.out.2.2.2.2.2; simp; omega) ?_; intro v7 w7 hown7 hg7 hat7; have H7 := Lib.hid (And.intro hown7 (And.intro hg7 hat7)); clear hown7 hg7 hat7)
      go_roundw
      case rel =>
        obtain ⟨hrg, hxs, hcnt, hleft, hbel, _⟩ := H.out
        obtain ⟨hkey, hlk, hrg1, hlt, hg1, hs1⟩ := H1.out
        obtain ⟨ho7, hg7, _⟩ := H7.out
        have hk := keyed3.key hkey
        have hin : ∃ p ∈ es, p.1 = kl := by
          have := hleft kl hlk
          rw [has_eq, List.any_eq_true] at this
          obtain ⟨p, hp, e⟩ := this
          exact ⟨p, hp, WideAt.sameKey_eq e⟩
        have hnx := leftN_next hk hlk es HPW.out hin
        have hlo : ∀ q, u3.ownBlock = some q → w.heap.size + 1 ≤ q := fun q e => (World.ownsRow.lt hxs q e).1
        have hml2 : mb < w.heap.size := hml
        refine ⟨_, _, xs ++ [.int .i64 x], ((hrg1.alloc _).kept hg7 (fun e => by have := hlo mb e.symm; omega) (fun e => by have := hlo _ e.symm; omega)), by rw [List.length_append]; exact ho7, by rw [List.length_append]; simp only [List.length_cons, List.length_nil]; omega, fun z hz => hleft z (by simp only [Bool.and_eq_true] at hz; exact hz.1), ?_, ?_⟩
        · have b1 : Below w.heap.size w w' := ⟨hg1.os.trans hbel.os, hg1.tape.trans hbel.tape, hg1.output.trans hbel.output, Nat.le_trans hbel.size hg1.size, fun b hb => (hg1.block b (by have := hbel.size; omega) (fun e => by injection e with e; omega)).trans (hbel.block b hb)⟩
          exact (below_alloc b1 _).grown hg7 (by have := b1.size; simp; omega) (fun b hb => by have := hlo b hb; omega)
        · have := hg7.size
          simp at this
          omega
      case measure =>
        obtain ⟨hrg, hxs, hcnt, hleft, hbel, _⟩ := H.out
        obtain ⟨hkey, hlk, hrg1, hlt, hg1, hs1⟩ := H1.out
        obtain ⟨ho7, hg7, _⟩ := H7.out
        have hlo : ∀ q, u3.ownBlock = some q → w.heap.size + 1 ≤ q := fun q e => (World.ownsRow.lt hxs q e).1
        have hml2 : mb < w.heap.size := hml
        have h2 := ((hrg1.alloc (.cells #[.int .i64 x] 3)).kept hg7 (fun e => by have := hlo mb e.symm; omega) (fun e => by have := hlo _ e.symm; omega))
        rw [h2.left_eq, hrg.left_eq]
        exact hlt
section
variable {w : World} {t mb base : Nat} {m : TE} {f : Int → Option TE} {sz : Nat} {rv : Value} {rs : List Nat} {k : Int}
/-- One thread is gone. -/
theorem TS.gone (h : TS w t mb base m f sz rv rs) {w' : World} {sz' : Nat} (kp : Kp (fun b => b = mb) w w') (him : IM elP w' mb (upd (fun j => (f j).map (fun x => some x.e)) k none) sz') : TS w' t mb base m (upd f k none) sz' rv rs := by
  have key : ∀ j z, (upd f k none) j = some z → f j = some z := fun j z hz => by
    unfold upd at hz; split at hz
    · cases hz
    · exact hz
  have hth : ∀ {j : Int} {x : TE}, ThE w base j x → ThE w' base j x := fun {j x} hx => hx.kp kp (fun (e : x.e = mb) => im_ne hx.stk.blk h.im e) (fun q hq (e : q = mb) => own_ne_im hx.stk.own hq h.im e)
  have e : (fun j => ((upd f k none) j).map (fun x => some x.e)) = upd (fun j => (f j).map (fun x => some x.e)) k none := by
    funext j; unfold upd; split <;> rfl
  exact ⟨h.box.kp kp (im_ne h.box h.im), by rw [e]; exact him, hth h.main, h.mlv, fun j z hz => hth (h.en j z (key j z hz)), own_kp h.run kp (fun q hq (e : q = mb) => own_ne_im h.run hq h.im e), fun j z hz => h.apartM j z (key j z hz), fun j j' z z' hz hz' hjj => h.apart j j' z z' (key j z hz) (key j' z' hz') hjj, h.lo⟩
/-- How many go. -/
def tdropN : Option TE → Int
  | some x => x.bs.length
  | none => 0
set_option maxRecDepth 100000 in
theorem tdrop_any (h : TS w t mb base m f sz rv rs) (hk : wfk k) : Calls Try.prog 61 #[.pointer (some ⟨t, 0, none⟩), .int .i64 k] w fun e w' => e = .returned (.int .i64 (tdropN (f k))) ∧ TS w' t mb base m (upd f k none) (if (f k).isSome then sz - 1 else sz) rv rs ∧ Kp (fun b => b = mb) w w' := by
  have hb := h.box.cell (i := 0) rfl
  have hl := h.look hk
  obtain ⟨w3, hrun0, him3, hg3, hsz3⟩ := h.im.del Try.underlying121 hk 0
  have hrun : ∀ ty, (Builtin.delete_ #[121, 3] ty #[.map (some mb), .int .i64 k]).run Try.prog w = .ok (.tuple #[]) w3 := fun ty => hrun0
  have hk3 : Kp (fun x => x = mb) w w3 := Kp.of_grown hg3 (fun g e => by injection e with e; exact e.symm)
  have hm : ((f k).map (fun x => some x.e)).isSome = (f k).isSome := by cases f k <;> rfl
  have hgs := h.gone hk3 him3
  rw [hm] at hgs
  have HG := Lib.hid (And.intro hgs hk3)
  clear hgs hk3 him3 hg3 hsz3 hm hrun0
  rcases hf : f k with _ | x
  · rw [hf] at hl HG
    simp only at hl
    have hnn := fun W => run_neq_nil_nil (P := Try.prog) W (tp := 102) Try.underlying102
    clear h hk hf
    go_enter Try.func61, Try.ntmps61
    go_wp2
    go_ret
    exact ⟨rfl, HG.out⟩
  · rw [hf] at hl HG
    simp only at hl
    have hnn := fun W => run_neq_ptr_none (P := Try.prog) W (tp := 102) ⟨x.e, 0, none⟩ Try.underlying102
    have HX := Lib.hid (h.en k x hf).stk
    clear h hk hf
    go_enter Try.func61, Try.ntmps61
    go_wp2_with (go_at_call 24; refine (len_any HX.out).mono ?_; rintro e w' ⟨rfl, rfl⟩)
    go_ret
    exact ⟨rfl, HG.out⟩
end
/-- How many values all these threads tell. -/
abbrev LE := Int × TE × List (List V)
def totL : List LE → Nat
  | [] => 0
  | p :: ps => p.2.2.flatten.length + (if p.1 = -1 then 0 else 1) + totL ps
theorem totL_append (a b : List LE) : totL (a ++ b) = totL a + totL b := by
  induction a with
  | nil => simp [totL]
  | cons p ps ih => simp only [List.cons_append, totL, ih]; omega
theorem totL_take {es : List LE} {i : Nat} {p : LE} (h : es[i]? = some p) : totL (es.take (i + 1)) = totL (es.take i) + (p.2.2.flatten.length + (if p.1 = -1 then 0 else 1)) := by
  rw [List.take_add_one, h, totL_append]
  simp [totL]
theorem totL_le (es : List LE) (i : Nat) : totL (es.take i) ≤ totL es := by
  have := totL_append (es.take i) (es.drop i)
  rw [List.take_append_drop] at this
  omega
end Go.Proofs.Ytpcamgjfikipgaa
