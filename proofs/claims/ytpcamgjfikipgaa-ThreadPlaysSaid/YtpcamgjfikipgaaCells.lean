/- gen.Gens' Cells: as many as there are. Condition: fewer than 1000 generators. -/
import Derived.Test.YtpcamgjfikipgaaGenOps
import Derived.Maps.RangeWalk
namespace Go.Proofs.Ytpcamgjfikipgaa
open Go.RowKit Go.Maps
set_option linter.unusedVariables false
/-- How many are still to come. -/
def leftN {H : Type} (es : List (Go.Lit × DataW H)) (left : Go.Lit → Bool) : Nat := (es.filter (fun p => left p.1)).length
theorem leftN_none {H : Type} (es : List (Go.Lit × DataW H)) {left : Go.Lit → Bool} (h : ∀ z, left z = false) : leftN es left = 0 := by
  unfold leftN
  rw [List.filter_eq_nil_iff.2 (fun p _ => by simp [h])]; rfl
theorem leftN_same {H : Type} (es : List (Go.Lit × DataW H)) {left : Go.Lit → Bool} {kl : Go.Lit} (h : ∀ p ∈ es, p.1 ≠ kl) : leftN es (fun z => left z && !z.sameKey kl) = leftN es left := by
  unfold leftN
  congr 1
  apply List.filter_congr
  intro p hp
  show (left p.1 && !p.1.sameKey kl) = left p.1
  rw [sameKey_ne (h p hp)]
  simp
theorem leftN_next {H : Type} {kl : Go.Lit} (hk : WideAt.IsKeyLit kl) {left : Go.Lit → Bool} (hl : left kl = true) : ∀ (es : List (Go.Lit × DataW H)), es.Pairwise (fun p q => p.1 ≠ q.1) → (∃ p ∈ es, p.1 = kl) → leftN es (fun z => left z && !z.sameKey kl) + 1 = leftN es left
  | [], _, h => by obtain ⟨p, hp, _⟩ := h; cases hp
  | x :: es, hp, h => by
    obtain ⟨h1, h2⟩ := List.pairwise_cons.1 hp
    by_cases e : x.1 = kl
    · have hs := leftN_same (left := left) es (kl := kl) (fun p hp => fun e2 => h1 p hp (by rw [e, e2]))
      unfold leftN at hs ⊢
      dsimp only at hs ⊢
      rw [List.filter_cons, List.filter_cons, e, WideAt.sameKey_self hk, hl]
      simp only [Bool.not_true, Bool.and_false, if_true, List.length_cons, Bool.false_eq_true, if_false]
      rw [hs]
    · have ih := leftN_next hk hl es h2 (by
        obtain ⟨p, hp, rfl⟩ := h
        rcases List.mem_cons.1 hp with rfl | hp
        · exact absurd rfl e
        · exact ⟨p, hp, rfl⟩)
      unfold leftN at ih ⊢
      dsimp only at ih ⊢
      rw [List.filter_cons, List.filter_cons, sameKey_ne e]
      cases left x.1 <;> simp <;> omega
theorem leftN_all {H : Type} (es : List (Go.Lit × DataW H)) (hk : ∀ p ∈ es, WideAt.IsKeyLit p.1) : leftN es (Maps.has (.map es)) = es.length := by
  unfold leftN
  rw [List.filter_eq_self.2]
  intro p hp
  rw [has_eq, List.any_eq_true]
  exact ⟨p, hp, WideAt.sameKey_self (hk p hp)⟩
theorem info3 : (Try.prog.info? 3).map (fun i => (i.zero, i.size, i.bytes)) = some (some (.int .i64 0), 1, 8) := by kernel_rfl
set_option maxRecDepth 100000 in
set_option maxHeartbeats 4000000 in
theorem cells_any {w : World} {g mb base : Nat} {f : Int → Option GE} {sz : Nat} (h : GS w g mb base f sz) (hs : sz ≤ 1000) :
    Calls Try.prog 49 #[.pointer (some ⟨g, 0, none⟩)] w fun e w' => ∃ A c, e = .returned (.slice A sz c) ∧ Below w.heap.size w w' := by
  have hb := h.box.cell (i := 0) rfl
  obtain ⟨D, hown, hsz, _⟩ := h.im
  obtain ⟨es, rfl, hpw, hkl⟩ := hown.entries keyed3
  have hall := leftN_all es hkl
  have hel : es.length = sz := hsz
  rw [hel] at hall
  have HALL := Lib.hid hall
  have HPW := Lib.hid hpw
  have HOWN := Lib.hid hown
  have hml := hown.lt
  obtain ⟨i0, hi, hz0, hz1, hz2⟩ := info_parts info3
  have HI := Lib.hid (And.intro hi (And.intro hz0 (And.intro hz1 hz2)))
  clear h hown hsz hall hpw hkl hel hi hz0 hz1 hz2
  go_enter Try.func49, Try.ntmps49
  go_wp2_with (first
    | (at_range; refine wpList_range_own _ rfl _ 115 rfl 3 118 keyed3 Try.underlying115 _ mb sz _ rfl HOWN.out ?_; intro w0 hrg0 hg0 hs0))
  try go_frame
  have hr0 : w.heap.size ≠ mb := by omega
  go_loopw [3] (fun v wr => ∃ (left : Go.Lit → Bool) (cnt : Nat) (xs : List Value), wr.ranges Try.prog 3 elP.R mb w.heap.size sz (.map es) left cnt ∧ wr.ownsRow (w.heap.size + 1) 3 1 v xs.length xs ∧ xs.length + leftN es left = sz ∧ (∀ z, left z = true → Maps.has (.map es) z = true) ∧ Below w.heap.size w wr ∧ w.heap.size + 1 ≤ wr.heap.size) (fun _ wr => wr.rangeLeft mb w.heap.size)
  case atStart => exact ⟨_, _, [], hrg0, World.ownsRow_nil _ _ _ _, by rw [HALL.out]; simp, fun _ h => h, ⟨hg0.os, hg0.tape, hg0.output, hg0.size, fun b hb => hg0.block b hb (by simp)⟩, by omega⟩
  case round =>
    obtain ⟨left, cnt, xs, hrg, hxs, hcnt, hleft, hbel, hsz⟩ := hrel
    have H := Lib.hid (And.intro hrg (And.intro hxs (And.intro hcnt (And.intro hleft (And.intro hbel hsz)))))
    clear hrg hxs hcnt hleft hbel
    go_wp2_with (at_next; refine wpList_next_ranges _ rfl _ rfl 3 keyed3 elP.R (Value.int .i64) elP.val (fun key kl hkey => by obtain ⟨x, rfl, _⟩ := Maps.keyOf_int_inv Try.underlying3 hkey; exact ⟨x, rfl⟩) (fun v y hv => by obtain ⟨x, rfl, _⟩ := elP.inv v y hv; exact ⟨x, rfl⟩) mb w.heap.size sz _ _ _ rfl H.out.1 ?_ ?_)
    · intro hc0 hl0
      obtain ⟨hrg, hxs, hcnt, hleft, hbel, _⟩ := H.out
      rw [leftN_none es hl0] at hcnt
      have hn : xs.length = sz := by omega
      rw [hn] at hxs
      obtain ⟨A, c, rfl⟩ : ∃ A c, u3 = .slice A sz c := by
        rcases hxs.2 with ⟨rfl, h0⟩ | ⟨g', cap, cur, rfl, _⟩
        · rw [h0]; exact ⟨_, _, rfl⟩
        · exact ⟨_, _, rfl⟩
      have HBEL := Lib.hid hbel
      clear hrg hxs hcnt hleft hbel hc0 hl0 hn
      go_wp2
      go_ret
      exact ⟨A, c, rfl, HBEL.out⟩
    · intro x c kl a b w' cnt' hkey hlk hv hat hrg1 hlt hg1 hs1 hen
      have H1 := Lib.hid (And.intro hkey (And.intro hlk (And.intro hrg1 (And.intro hlt (And.intro hg1 hs1)))))
      clear hkey hlk hv hat hrg1 hlt hg1 hs1
      have hlen : xs.length < sz := by
        obtain ⟨hrg, hxs, hcnt, hleft, hbel, _⟩ := H.out
        obtain ⟨hkey, hlk, _⟩ := H1.out
        have hk := keyed3.key hkey
        have hin : ∃ p ∈ es, p.1 = kl := by
          have := hleft kl hlk
          rw [has_eq, List.any_eq_true] at this
          obtain ⟨p, hp, e⟩ := this
          exact ⟨p, hp, WideAt.sameKey_eq e⟩
        have := leftN_next hk hlk es HPW.out hin
        omega
      have hxs' : w'.ownsRow (w.heap.size + 1) 3 1 u3 xs.length xs := H.out.2.1.kept H1.out.2.2.2.2.1 (.inr (fun e => by have := (World.ownsRow.lt H.out.2.1 w.heap.size e).1; omega))
      have HXS := Lib.hid (hxs'.alloc (.cells #[.int .i64 x] 3))
      clear hxs'
      go_wp2_with (at_builtin; refine wpList_append_rd rfl (w.heap.size + 1) (.tmp 14) (.tmp 16) 44 rfl 3 i0 _ 1 8 Try.underlying44 HI.out.1 HI.out.2.1 HI.out.2.2.1 HI.out.2.2.2 rfl (by omega) u3 xs.length xs (by rfl) (by exact HXS.out) (some ⟨w'.heap.size, 0, none⟩) 1 1 [.int .i64 x] (by rfl) (by exact Rd.of_blk (Blk.made (by simp) 3 _) rfl) (by intro u hu; simp at hu; subst hu; rfl) (by unfold maxLen; omega) (by omega) (by have := H1.out.2.2.2.2.2; simp; omega) ?_; intro v7 w7 hown7 hg7 hat7; have H7 := Lib.hid (And.intro hown7 (And.intro hg7 hat7)); clear hown7 hg7 hat7)
      go_roundw
      case rel =>
        obtain ⟨hrg, hxs, hcnt, hleft, hbel, _⟩ := H.out
        obtain ⟨hkey, hlk, hrg1, hlt, hg1, hs1⟩ := H1.out
        obtain ⟨ho7, hg7, _⟩ := H7.out
        have hk := keyed3.key hkey
        have hin : ∃ p ∈ es, p.1 = kl := by
          have := hleft kl hlk
          rw [has_eq, List.any_eq_true] at this
          obtain ⟨p, hp, e⟩ := this
          exact ⟨p, hp, WideAt.sameKey_eq e⟩
        have hnx := leftN_next hk hlk es HPW.out hin
        have hlo : ∀ q, u3.ownBlock = some q → w.heap.size + 1 ≤ q := fun q e => (World.ownsRow.lt hxs q e).1
        have hml2 : mb < w.heap.size := hml
        refine ⟨_, _, xs ++ [.int .i64 x], ((hrg1.alloc _).kept hg7 (fun e => by have := hlo mb e.symm; omega) (fun e => by have := hlo _ e.symm; omega)), by rw [List.length_append]; exact ho7, by rw [List.length_append]; simp only [List.length_cons, List.length_nil]; omega, fun z hz => hleft z (by simp only [Bool.and_eq_true] at hz; exact hz.1), ?_, ?_⟩
        · have b1 : Below w.heap.size w w' := ⟨hg1.os.trans hbel.os, hg1.tape.trans hbel.tape, hg1.output.trans hbel.output, Nat.le_trans hbel.size hg1.size, fun b hb => (hg1.block b (by have := hbel.size; omega) (fun e => by injection e with e; omega)).trans (hbel.block b hb)⟩
          exact (below_alloc b1 _).grown hg7 (by have := b1.size; simp; omega) (fun b hb => by have := hlo b hb; omega)
        · have := hg7.size
          simp at this
          omega
      case measure =>
        obtain ⟨hrg, hxs, hcnt, hleft, hbel, _⟩ := H.out
        obtain ⟨hkey, hlk, hrg1, hlt, hg1, hs1⟩ := H1.out
        obtain ⟨ho7, hg7, _⟩ := H7.out
        have hlo : ∀ q, u3.ownBlock = some q → w.heap.size + 1 ≤ q := fun q e => (World.ownsRow.lt hxs q e).1
        have hml2 : mb < w.heap.size := hml
        have h2 := ((hrg1.alloc (.cells #[.int .i64 x] 3)).kept hg7 (fun e => by have := hlo mb e.symm; omega) (fun e => by have := hlo _ e.symm; omega))
        rw [h2.left_eq, hrg.left_eq]
        exact hlt
end Go.Proofs.Ytpcamgjfikipgaa
