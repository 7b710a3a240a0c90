/- dreylaw21: the program of one function, and the frames that a law builds. Conditions: at most 100000 tries; at most 40 frames. -/
import Derived.Test.YtpcamgjfikipgaaCatch
import Derived.Test.YtpcamgjfikipgaaFrameStacksW
import Derived.Deep.RegionWith
import Derived.Deep.DeepCutAuto
import Derived.Deep.DrawnRows
import Derived.Deep.RegionHeld3
namespace Go.Proofs.Ytpcamgjfikipgaa
open Go.RowKit
set_option linter.unusedVariables false
/-- What stands as long as only rows of frames and stacks are written. -/
def Lit {α : Type} (F : World → Nat → α → Prop) : Prop := ∀ (w w' : World) (S : Nat → Prop) (b : Nat) (d : α), F w b d → Kp S w w' → Light w S → F w' b d
/-- A stack, a slice of the same frames, and what is known of each. -/
structure PG {α : Type} (F : World → Nat → α → Prop) (w : World) (sb base : Nat) (lv wv : Value) (ps : List (Nat × α)) : Prop where
  stk : Stk w sb 47 [lv] 0 base lv (ps.map (·.1))
  want : w.ownsRow base 35 1 wv ps.length ((ps.map (·.1)).map ptr)
  wne : wv.ownBlock ≠ some sb
  apart : ∀ g, wv.ownBlock = some g → lv.ownBlock ≠ some g
  frs : ∀ p ∈ ps, F w p.1 p.2
theorem PG.below {α : Type} {F : World → Nat → α → Prop} (hF : Lit F) {w w' : World} {sb base : Nat} {lv wv : Value} {ps : List (Nat × α)} (h : PG F w sb base lv wv ps) (k : Below w.heap.size w w') : PG F w' sb base lv wv ps :=
  ⟨h.stk.kp (S := fun _ => False) (Kp.of_below k) id (fun _ _ => id), own_kp h.want (S := fun _ => False) (Kp.of_below k) (fun _ _ => id), h.wne, h.apart, fun p hp => hF _ _ (fun _ => False) _ _ (h.frs p hp) (Kp.of_below k) (light_none w)⟩
theorem pg_push {α : Type} {F : World → Nat → α → Prop} (hF : Lit F) {w w1 w2 : World} {sb base : Nat} {lv lv' wv wv' : Value} {ps : List (Nat × α)} {b : Nat} {d : α} {o : Obj} (h : PG F w sb base lv wv ps) (hf : F w b d)
    (hs : Stk w1 sb 47 ([lv].set 0 lv') 0 base lv' (ps.map (·.1) ++ [b])) (hk : Kp (fun b => b = sb ∨ lv.ownBlock = some b) w w1) (hfr : ∀ g, lv'.ownBlock = some g → lv.ownBlock = some g ∨ w.heap.size ≤ g)
    (hown : w2.ownsRow base 35 1 wv' (ps.length + 1) ((ps.map (·.1)).map ptr ++ [ptr b])) (hg : (w1.alloc o).grownBy w2 wv.ownBlock) (hat : wv'.ownBlock = wv.ownBlock ∨ wv'.ownBlock = some (w1.alloc o).heap.size) : PG F w2 sb base lv' wv' (ps ++ [(b, d)]) := by
  have k2 : Kp (fun x => wv.ownBlock = some x) w1 w2 := ((Kp.refl _ w1).alloc o).trans (Kp.of_grown hg (fun g e => e)) (fun b _ hb => hb)
  have hwl : ∀ x, wv.ownBlock = some x → x < w.heap.size := fun x hx => (World.ownsRow.lt h.want x hx).2
  have hl2 : Light w1 (fun x => wv.ownBlock = some x) := by
    intro x hx _
    have h1 := own_kp h.want hk (fun y hy hc => by
      rcases hc with rfl | hc
      · exact h.wne hy
      · exact h.apart y hy hc)
    rcases h1.2 with ⟨rfl, _⟩ | ⟨g', cap, cur, rfl, _, hh, _⟩
    · simp [Value.ownBlock] at hx
    · have : g' = x := by simpa [Value.ownBlock] using hx
      subst this
      exact ⟨_, _, hh, .inl rfl⟩
  have hlvne : ∀ x, lv'.ownBlock = some x → wv.ownBlock ≠ some x := fun x hx hw => by
    rcases hfr x hx with h1 | h1
    · exact h.apart x hw h1
    · have := hwl x hw; omega
  refine ⟨?_, ?_, ?_, ?_, ?_⟩
  · have := hs.kp k2 (fun e => h.wne e) (fun x hx => hlvne x hx)
    simpa using this
  · simpa using hown
  · intro e
    rcases hat with h1 | h1
    · rw [h1] at e; exact h.wne e
    · rw [h1] at e; injection e with e; have := hs.blk.lt; simp at e; omega
  · intro x hx e
    rcases hat with h1 | h1
    · rw [h1] at hx; exact hlvne x e hx
    · rw [h1] at hx; injection hx with hx
      have := (World.ownsRow.lt hs.own x e).2
      simp at hx; omega
  · intro p hp
    rcases List.mem_append.1 hp with hp | hp
    · exact hF _ _ _ _ _ (hF _ _ _ _ _ (h.frs p hp) hk (stk_light h.stk)) k2 hl2
    · simp at hp
      subst hp
      exact hF _ _ _ _ _ (hF _ _ _ _ _ hf hk (stk_light h.stk)) k2 hl2
theorem pg_push_below {α : Type} {F : World → Nat → α → Prop} {w w1 w2 : World} {sb base : Nat} {lv wv : Value} {ps : List (Nat × α)} {o : Obj} (h : PG F w sb base lv wv ps) (hs : base ≤ w.heap.size) (hk : Kp (fun b => b = sb ∨ lv.ownBlock = some b) w w1) (hg : (w1.alloc o).grownBy w2 wv.ownBlock) (hsb : base ≤ sb) : Below base w w2 := by
  have k1 : Below base w w1 := kp_below2 hk hs (fun b hb => by
    rcases hb with rfl | hb
    · exact hsb
    · exact (World.ownsRow.lt h.stk.own b hb).1)
  exact (k1.alloc (Nat.le_trans hs hk.size) o).grown hg (by have := hk.size; simp; omega) (fun b hb => (World.ownsRow.lt h.want b hb).1)
theorem FnD_cs_len (f : FnD) : f.cs.length = 9 := rfl
/-- one: a program of one function. -/
theorem one_any {w : World} {A : Option Addr} {n c : Nat} {ts : List TryD} (h : RdT w A n ts) (H : Nat) (hH : w.heap.size = H) :
    Calls Try.prog 29 #[.slice A n c] w fun e w' => e = .returned (.agg #[.slice (some ⟨H + 1, 0, none⟩) 1 1]) ∧ Blk w' (H + 1) 33 (FnD.cs ⟨2, ts, A, c⟩) ∧ Below w.heap.size w w' ∧ w'.heap.size = H + 2 := by
  subst hH
  have hl := h.len
  subst hl
  clear h
  go_enter Try.func29, Try.ntmps29
  go_wp2
  refine bodyPost_ret (v := .agg #[.slice (some ⟨w.heap.size + 1, 0, none⟩) 1 1]) (by simp [results, Try.results29, go_sem]) rfl ?_
  exact ⟨rfl, Blk.made (by simp) 33 _, below_alloc (below_alloc (Below.refl _ _) _) _, by simp⟩
def FrU (w : World) (b : Nat) (d : FU) : Prop :=
  Blk w b 40 d.cs ∧ d.fn ≤ 0 ∧ ((d.st = none ∧ d.fn = 0 ∧ ∃ R regs, d.rg = .slice (some ⟨R, 0, none⟩) 2 2 ∧ Blk w R 25 (vcs regs) ∧ regs.length = 2) ∨ (∃ s, d.st = some s))
theorem FrU.lit : Lit FrU := by
  intro w w' S b d h k hs
  obtain ⟨h1, h0, h2⟩ := h
  refine ⟨h1.kp k (hs.off h1 (by decide) (by decide)), h0, ?_⟩
  rcases h2 with ⟨h2, h3, R, regs, h4, h5, h6⟩ | h2
  · exact .inl ⟨h2, h3, R, regs, h4, h5.kp k (hs.off h5 (by decide) (by decide)), h6⟩
  · exact .inr h2
/-- A frame that this call made. -/
def FrB (B : Nat) (w : World) (b : Nat) (d : FU) : Prop := FrU w b d ∧ B ≤ b ∧ ∀ R n c, d.rg = .slice (some ⟨R, 0, none⟩) n c → B ≤ R
theorem FrB.lit (B : Nat) : Lit (FrB B) := fun _ _ _ _ _ h k hs => ⟨FrU.lit _ _ _ _ _ h.1 k hs, h.2⟩
/-- The frame that is built for a step. -/
def okU (z : Int) (d : FU) : Prop := (0 ≤ z → d.st = none ∧ d.pc = z) ∧ (z < 0 → d.st ≠ none ∧ d.pc = 0)
def okUs (zs : List Int) (ps : List (Nat × FU)) : Prop := ∀ (i : Nat) (p : Nat × FU), ps[i]? = some p → ∃ z, zs[i]? = some z ∧ okU z p.2
theorem okUs_snoc {zs : List Int} {ps : List (Nat × FU)} (h : okUs zs ps) {z : Int} {b : Nat} {d : FU} (hz : zs[ps.length]? = some z) (hd : okU z d) : okUs zs (ps ++ [(b, d)]) := by
  intro i p hp
  by_cases hi : i < ps.length
  · rw [List.getElem?_append_left hi] at hp
    exact h i p hp
  · rw [List.getElem?_append_right (by omega)] at hp
    have : i = ps.length := by
      have := (List.getElem?_eq_some_iff.1 hp).1
      simp at this
      omega
    subst this
    simp at hp
    subst hp
    exact ⟨z, hz, hd⟩
/-- A frame that frame.New made in a loop. -/
def GN (w : World) (s : Value) (wx : World) : Prop := ∃ (r g : Nat) (regs : List V), s = .pointer (some ⟨g, 0, none⟩) ∧ Below w.heap.size w wx ∧ w.heap.size ≤ r ∧ w.heap.size ≤ g ∧ Blk wx r 25 (vcs regs) ∧ regs.length = 2 ∧ Blk wx g 40 (fcs 0 V.null V.null (.slice (some ⟨r, 0, none⟩) 2 2) 0 0 0 V.null (.pointer none) (-1))
/-- What the builder leaves. -/
def BuiltU (w : World) (zs : List Int) (e : Ending) (w' : World) : Prop :=
  ∃ (sb : Nat) (lv wv : Value) (ps : List (Nat × FU)), e = .returned (.tuple #[ptr sb, wv]) ∧ PG (FrB w.heap.size) w' sb w.heap.size lv wv ps ∧ ps.length = zs.length ∧ okUs zs ps ∧ w.heap.size ≤ sb ∧ Below w.heap.size w w'
set_option maxRecDepth 100000 in
set_option maxHeartbeats 4000000 in
theorem build_any {w : World} {pb qb qf : Nat} {A T : Option Addr} {n c ct : Nat} {zs : List Int} {ts : List TryD} (hpb : Blk w pb 44 [.slice A n c]) (hqb : Blk w qb 60 [.slice (some ⟨qf, 0, none⟩) 1 1]) (hqf : Blk w qf 33 (FnD.cs ⟨2, ts, T, ct⟩)) (hz : Rd w A n 1 (zs.map (Value.int .i64))) (hn : n ≤ 40) :
    Calls Try.prog 30 #[.pointer (some ⟨pb, 0, none⟩), .pointer (some ⟨qb, 0, none⟩)] w (BuiltU w zs) := by
  obtain ⟨i0, hi, hz0, hz1, hz2⟩ := info_parts info35
  have hzl : zs.length = n := by have := hz.1; simpa using this
  have xp := hpb.cell (i := 0) rfl
  have HPB := Lib.hid hpb
  have HQB := Lib.hid hqb
  have HQF := Lib.hid hqf
  have HZ := Lib.hid hz
  have hpl := hpb.lt
  have hql := hqb.lt
  have hqfl := hqf.lt
  have HZL := Lib.hid hzl
  clear hpb hqb hqf hz
  go_enter Try.func30, Try.ntmps30
  go_wp2
  go_loopg [5, 13] n (fun gk s i wr => ∃ (k : Nat) (ps : List (Nat × FU)) (lv : Value), k ≤ n ∧ gk = n - k ∧ i = .int .i64 k ∧ ps.length = k ∧ PG (FrB w.heap.size) wr w.heap.size w.heap.size lv s ps ∧ okUs zs ps ∧ Below w.heap.size w wr)
  case atStart => exact ⟨0, [], .slice none 0 0, Nat.zero_le _, rfl, rfl, rfl, ⟨⟨Blk.new _ _ _, rfl, World.ownsRow_nil _ _ _ _, by simp [Value.ownBlock], by simp⟩, World.ownsRow_nil _ _ _ _, by simp [Value.ownBlock], by simp [Value.ownBlock], fun p hp => by simp at hp⟩, fun i p hp => by simp at hp, below_alloc (Below.refl _ _) _⟩
  case round =>
    obtain ⟨k, ps, lv, hk, hgk, rfl, hpk, hpl2, hok, hb⟩ := hrel
    have HG := Lib.hid hgk
    have HP := Lib.hid hpl2
    have HB := Lib.hid hb
    have HO := Lib.hid hok
    have HPK := Lib.hid hpk
    clear hgk hpl2 hb hok hpk
    by_cases hlt : k < n
    · obtain ⟨x, hx⟩ : ∃ x, zs[k]? = some x := ⟨_, List.getElem?_eq_getElem (by omega)⟩
      obtain ⟨b, o, rfl, hbl, hc⟩ := Rd.one (HZ.out.below HB.out) (i := k) (u := .int .i64 x) (by simp [hx])
      have HX := Lib.hid hx
      have yq : wr.cell? ⟨qb, 0, none⟩ = some (.slice (some ⟨qf, 0, none⟩) 1 1) := (HB.out.cell hql).trans (HQB.out.cell rfl)
      have y0 : wr.cell? ⟨qf, 0, none⟩ = some (.slice none 0 0) := (HB.out.cell hqfl).trans (HQF.out.cell rfl)
      have y1 : wr.cell? ⟨qf, 1, none⟩ = some (.slice none 0 0) := (HB.out.cell hqfl).trans (HQF.out.cell rfl)
      have y2 : wr.cell? ⟨qf, 2, none⟩ = some (.int .i64 2) := (HB.out.cell hqfl).trans (HQF.out.cell rfl)
      have y3 : wr.cell? ⟨qf, 3, none⟩ = some (.int .i64 0) := (HB.out.cell hqfl).trans (HQF.out.cell rfl)
      have y4 : wr.cell? ⟨qf, 4, none⟩ = some (.int .i64 0) := (HB.out.cell hqfl).trans (HQF.out.cell rfl)
      have y5 : wr.cell? ⟨qf, 5, none⟩ = some (.slice none 0 0) := (HB.out.cell hqfl).trans (HQF.out.cell rfl)
      have y6 : wr.cell? ⟨qf, 6, none⟩ = some (.slice T ts.length ct) := (HB.out.cell hqfl).trans (HQF.out.cell rfl)
      have y7 : wr.cell? ⟨qf, 7, none⟩ = some (.bool false) := (HB.out.cell hqfl).trans (HQF.out.cell rfl)
      have y8 : wr.cell? ⟨qf, 8, none⟩ = some (.string ⟨#[]⟩) := (HB.out.cell hqfl).trans (HQF.out.cell rfl)
      clear hx
      have hpl5 : ps.length ≤ 40 := by have := HPK.out; omega
      have hw1 : qb < wr.heap.size := Nat.lt_of_lt_of_le hql HB.out.size
      have hw2 : qf < wr.heap.size := Nat.lt_of_lt_of_le hqfl HB.out.size
      have hw3 : qb < wr.heap.size + 1 := Nat.lt_succ_of_lt hw1
      have hw4 : qf < wr.heap.size + 1 := Nat.lt_succ_of_lt hw2
      go_upto_region 6 with fail
      go_cut [8] (fun s8 wx => GN wr s8 wx)
      case first =>
        go_region_held3 (fun w' => w'.cell? ⟨qb, 0, none⟩ = some (.slice (some ⟨qf, 0, none⟩) 1 1) ∧ w'.cell? ⟨qf, 0, none⟩ = some (.slice none 0 0) ∧ w'.cell? ⟨qf, 1, none⟩ = some (.slice none 0 0) ∧ w'.cell? ⟨qf, 2, none⟩ = some (.int .i64 2) ∧ w'.cell? ⟨qf, 3, none⟩ = some (.int .i64 0) ∧ w'.cell? ⟨qf, 4, none⟩ = some (.int .i64 0) ∧ w'.cell? ⟨qf, 5, none⟩ = some (.slice none 0 0) ∧ w'.cell? ⟨qf, 6, none⟩ = some (.slice T ts.length ct) ∧ w'.cell? ⟨qf, 7, none⟩ = some (.bool false) ∧ w'.cell? ⟨qf, 8, none⟩ = some (.string ⟨#[]⟩)) ((first | (refine ⟨?_, ?_, ?_, ?_, ?_, ?_, ?_, ?_, ?_, ?_⟩ <;> (rw [hb.cell (by simp; omega)]; go_simp)) | (refine ⟨?_, ?_, ?_, ?_, ?_, ?_, ?_, ?_, ?_, ?_⟩ <;> go_simp)))
         (first
          | (go_at_call 18; refine (null_any _).mono ?_; rintro e w' ⟨rfl, rfl⟩; unfold V.agg V.null)
          | (go_at_call 16; refine (new_any _ _ _ _ _ _ _ _ 2 _ V.null V.null none 0 0 [] _ (by omega) (by omega) (Rd.nil _ _ _) (wr.heap.size + 1 + 1) (by simp)).mono ?_; rintro e w3 ⟨rfl, hsz3, hb, hr3, hg3⟩))
        all_goals (go_wp2_with fail; go_meet)
        case rel =>
          have hk : Below wr.heap.size wr w3 := below_chain hb (by repeat (first | exact Below.refl _ _ | refine Below.drew ?_ | refine below_alloc ?_ _))
          exact ⟨_, _, _, rfl, hk, by omega, by omega, hr3, rfl, hg3⟩
      case rest =>
        obtain ⟨r, g, regs, rfl, hbx, hrl, hgl, hr2, hrn, hg2⟩ := hcut
        have hgw := hg2.lt
        have hrg : r ≠ g := by
          rintro rfl
          have h1 := hg2
          have h2 := hr2
          unfold Blk at h1 h2
          rw [h1] at h2
          injection h2 with e
          injection e with _ e
          cases e
        have HBX0 := Lib.hid hbx
        have HR2 := Lib.hid hr2
        have HG2 := Lib.hid hg2
        have f8 := hg2.frozen 8
        have x8 : wc.cell? ⟨g, 8, none⟩ = some (.int .i64 0) := hg2.cell rfl
        have hg3 := hg2.set_ 8 (.int .i64 x)
        have kset : Below wr.heap.size wr (wc.setCell ⟨g, 8, none⟩ (.int .i64 x)) := HBX0.out.setCell hgl _
        have hr3 : Blk (wc.setCell ⟨g, 8, none⟩ (.int .i64 x)) r 25 (vcs regs) := hr2.far (p := ⟨g, 8, none⟩) hrg _
        have HP3 : Hid (PG (FrB w.heap.size) (wc.setCell ⟨g, 8, none⟩ (.int .i64 x)) w.heap.size w.heap.size lv u5 ps) := Lib.hid (HP.out.below (FrB.lit _) kset)
        have HB3 : Hid (Below w.heap.size w (wc.setCell ⟨g, 8, none⟩ (.int .i64 x))) := Lib.hid (HB.out.trans (kset.mono HB.out.size))
        by_cases hneg : x < 0
        · have q1 : decide (x < 0) = true := by simpa using hneg
          have HKS := Lib.hid kset
          clear hg3 hr3 hbx hr2 hg2 kset HP3 HB3
          go_wp2_with (first
            | (go_at_call 18; refine (null_any _).mono ?_; rintro e w' ⟨rfl, rfl⟩; unfold V.agg V.null)
            | (go_at_call 22; refine (order_new (vs := []) (Rd.nil _ _ _) (by omega)).mono ?_; rintro e w2 ⟨sg, sv, rfl, hsg, hss, hsb⟩; have RS := Lib.hid hsb; unfold ptr; clear hsg hss hsb)
            | (go_at_call 21; refine (sorter_at sg V.null V.null _ (w2.heap.size + 1 + 1) (by simp)).mono ?_; rintro e w3 ⟨rfl, hsz3, hb3, hg3⟩; have hbc : Below w2.heap.size w2 w3 := below_chain hb3 (below_alloc (below_alloc (Below.refl _ _) _) _); have hbb : Below wr.heap.size wr w3 := HKS.out.trans ((RS.out.trans (hbc.mono RS.out.size)).mono HKS.out.size); have HP3 : Hid (PG (FrB w.heap.size) w3 w.heap.size w.heap.size lv u5 ps) := HP.out.below (FrB.lit _) hbb; have HB3 : Hid (Below w.heap.size w w3) := HB.out.trans (hbb.mono HB.out.size); have HF3 : Hid (FrB w.heap.size w3 (w2.heap.size + 1 + 1 + 2) ⟨-1, V.null, V.null, .slice none 0 0, 0, 0, 0, V.null, some sg, -1⟩) := ⟨⟨hg3, by simp, .inr ⟨_, rfl⟩⟩, (by have h1 := HKS.out.size; have h2 := HB.out.size; have h3 := RS.out.size; simp at h1 h3; omega), fun R n c e => by cases e⟩; clear hsz3 hb3 hg3 hbb hbc)
            | (go_at_call 23; refine (push_any HP3.out.stk (w2.heap.size + 1 + 1 + 2) (by simp; omega)).mono ?_; rintro e w4 ⟨rfl, lv4, hs4, hk4, hf4⟩; have R4 := Lib.hid (And.intro hs4 (And.intro hk4 hf4)); have HW4 : Hid (w4.ownsRow w.heap.size 35 1 u5 ps.length ((ps.map (·.1)).map ptr)) := own_kp HP3.out.want hk4 (fun x hx hc => by rcases hc with rfl | hc; exact HP3.out.wne hx; exact HP3.out.apart x hx hc); have HBX : Hid (w.heap.size ≤ w4.heap.size) := Nat.le_trans HB3.out.size hk4.size; clear hs4 hk4 hf4)
            | (at_builtin; refine wpList_append_rd rfl w.heap.size (.tmp 37) (.tmp 39) 45 rfl 35 i0 (.pointer none) 1 8 Try.underlying45 hi hz0 hz1 hz2 rfl (by omega) _ ps.length ((ps.map (·.1)).map ptr) (by rfl) (by exact HW4.out.alloc _) (some ⟨w4.heap.size, 0, none⟩) 1 1 [ptr (w2.heap.size + 1 + 1 + 2)] (by rfl) (by exact Rd.of_blk (Blk.made rfl _ [ptr (w2.heap.size + 1 + 1 + 2)]) rfl) (by intro u hu; simp [ptr] at hu; subst hu; rfl) (by unfold maxLen; omega) (by omega) (by have := HBX.out; simp; omega) ?_; intro v5 w5 hown5 hg5 hat5; have R5 := Lib.hid (And.intro hown5 (And.intro hg5 hat5)); clear hown5 hg5 hat5))
          go_roundg (n - (k + 1))
          case rel =>
            obtain ⟨hs4, hk4, hf4⟩ := R4.out
            obtain ⟨hown5, hg5, hat5⟩ := R5.out
            have HK := HPK.out
            exact ⟨k + 1, ps ++ [(w2.heap.size + 1 + 1 + 2, _)], lv4, by omega, rfl, by go_num, by simp; omega, pg_push (FrB.lit _) HP3.out HF3.out hs4 hk4 hf4 hown5 hg5 hat5, okUs_snoc HO.out (by rw [HK]; exact HX.out) (by refine ⟨fun h => by omega, fun h => ⟨by simp, rfl⟩⟩), HB3.out.trans (pg_push_below HP3.out HB3.out.size hk4 hg5 (Nat.le_refl _))⟩
          case measure => (have := HG.out; omega)
        · have q1 : decide (x < 0) = false := by simpa using hneg
          have HF3 : Hid (FrB w.heap.size (wc.setCell ⟨g, 8, none⟩ (.int .i64 x)) g ⟨0, V.null, V.null, .slice (some ⟨r, 0, none⟩) 2 2, x, 0, 0, V.null, none, -1⟩) := Lib.hid ⟨⟨hg3, by simp, .inl ⟨rfl, rfl, r, regs, rfl, hr3, hrn⟩⟩, Nat.le_trans HB.out.size hgl, fun R n c e => by injection e with e; injection e with e; injection e with e; subst e; exact Nat.le_trans HB.out.size hrl⟩
          clear hg3 hr3 hbx hr2 hg2 kset
          go_wp2_with (first
            | (go_at_call 23; refine (push_any HP3.out.stk g (by simp; omega)).mono ?_; rintro e w4 ⟨rfl, lv4, hs4, hk4, hf4⟩; have R4 := Lib.hid (And.intro hs4 (And.intro hk4 hf4)); have HW4 : Hid (w4.ownsRow w.heap.size 35 1 u5 ps.length ((ps.map (·.1)).map ptr)) := own_kp HP3.out.want hk4 (fun x hx hc => by rcases hc with rfl | hc; exact HP3.out.wne hx; exact HP3.out.apart x hx hc); have HBX : Hid (w.heap.size ≤ w4.heap.size) := Nat.le_trans HB3.out.size hk4.size; clear hs4 hk4 hf4)
            | (at_builtin; refine wpList_append_rd rfl w.heap.size (.tmp 37) (.tmp 39) 45 rfl 35 i0 (.pointer none) 1 8 Try.underlying45 hi hz0 hz1 hz2 rfl (by omega) _ ps.length ((ps.map (·.1)).map ptr) (by rfl) (by exact HW4.out.alloc _) (some ⟨w4.heap.size, 0, none⟩) 1 1 [ptr g] (by rfl) (by exact Rd.of_blk (Blk.made rfl _ [ptr g]) rfl) (by intro u hu; simp [ptr] at hu; subst hu; rfl) (by unfold maxLen; omega) (by omega) (by have := HBX.out; simp; omega) ?_; intro v5 w5 hown5 hg5 hat5; have R5 := Lib.hid (And.intro hown5 (And.intro hg5 hat5)); clear hown5 hg5 hat5))
          go_roundg (n - (k + 1))
          case rel =>
            obtain ⟨hs4, hk4, hf4⟩ := R4.out
            obtain ⟨hown5, hg5, hat5⟩ := R5.out
            have HK := HPK.out
            exact ⟨k + 1, ps ++ [(g, ⟨0, V.null, V.null, .slice (some ⟨r, 0, none⟩) 2 2, x, 0, 0, V.null, none, -1⟩)], lv4, by omega, rfl, by go_num, by simp; omega, pg_push (FrB.lit _) HP3.out HF3.out hs4 hk4 hf4 hown5 hg5 hat5, okUs_snoc HO.out (by rw [HK]; exact HX.out) (by refine ⟨fun h => ⟨rfl, rfl⟩, fun h => by omega⟩), HB3.out.trans (pg_push_below HP3.out HB3.out.size hk4 hg5 (Nat.le_refl _))⟩
          case measure => (have := HG.out; omega)
    · have hkn : k = n := by omega
      have hpn : ps.length = zs.length := by rw [HPK.out, hkn, HZL.out]
      go_wp2
      refine bodyPost_ret (v := .tuple #[ptr w.heap.size, u5]) (by simp [results, Try.results30, go_sem, ptr]) rfl ?_
      exact ⟨_, lv, _, ps, rfl, HP.out, hpn, HO.out, Nat.le_refl _, HB.out⟩
end Go.Proofs.Ytpcamgjfikipgaa
