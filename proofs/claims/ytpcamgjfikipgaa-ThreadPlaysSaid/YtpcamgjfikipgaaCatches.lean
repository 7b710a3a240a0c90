/- dreylaw21.catches: true, and what was there stays. No condition. -/
import Derived.Test.YtpcamgjfikipgaaOne
namespace Go.Proofs.Ytpcamgjfikipgaa
open Go.RowKit
set_option linter.unusedVariables false
/-- The last step of the first n at which the only function catches. -/
def findZ (ts : List TryD) (zs : List Int) : Nat → Option (Nat × TryD)
  | 0 => none
  | n + 1 => match (zs[n]?).bind (fun z => if z < 0 then none else first ts (z - 1)) with
    | some t => some (n, t)
    | none => findZ ts zs n
theorem look_of {w : World} {b : Nat} {d : FU} {f : FnD} {z : Int} (h : FrU w b d) (ho : okU z d) : d.look [f] = if z < 0 then none else first f.tr (z - 1) := by
  obtain ⟨_, _, h2⟩ := h
  obtain ⟨o1, o2⟩ := ho
  by_cases hz : z < 0
  · rw [if_pos hz]
    unfold FU.look
    rw [if_neg (fun h => (o2 hz).1 h.1)]
  · rw [if_neg hz]
    obtain ⟨hs, hp⟩ := o1 (by omega)
    rcases h2 with ⟨_, hf, _⟩ | ⟨s, h3⟩
    · unfold FU.look
      rw [if_pos ⟨hs, by omega⟩, hf, hp]
      rfl
    · rw [hs] at h3; cases h3
theorem findU_eq {w : World} {ps : List (Nat × FU)} {zs : List Int} {f : FnD} (hl : ps.length = zs.length) (h : ∀ p ∈ ps, FrU w p.1 p.2) (ho : okUs zs ps) (n : Nat) : findU [f] (ps.map (·.2)) n = findZ f.tr zs n := by
  induction n with
  | zero => rfl
  | succ n ih =>
    unfold findU findZ
    rcases hp : ps[n]? with _ | p
    · rw [List.getElem?_map, hp, List.getElem?_eq_none (by have := List.getElem?_eq_none_iff.1 hp; omega)]
      simp [ih]
    · obtain ⟨z, hz, hd⟩ := ho n p hp
      rw [List.getElem?_map, hp, hz]
      simp only [Option.map_some, Option.bind_some, look_of (h p (List.mem_of_getElem? hp)) hd, ih]
      rfl
/-- The frames are as the contract of Catch wants them. -/
theorem frs_find {w : World} {ps : List (Nat × FU)} {zs : List Int} (hb : ∀ z ∈ zs, z ≤ 9223372036854775807) (h : ∀ p ∈ ps, FrU w p.1 p.2) (ho : okUs zs ps) : ∀ (i b : Nat) (d : FU), (ps.map (·.1))[i]? = some b → (ps.map (·.2))[i]? = some d → Blk w b 40 d.cs ∧ 0 ≤ d.pc ∧ d.pc ≤ 9223372036854775807 := by
  intro i b d h1 h2
  rcases hp : ps[i]? with _ | p
  · rw [List.getElem?_map, hp] at h1; simp at h1
  · rw [List.getElem?_map, hp] at h1 h2
    simp at h1 h2
    subst h1; subst h2
    obtain ⟨z, hz, o1, o2⟩ := ho i p hp
    refine ⟨(h p (List.mem_of_getElem? hp)).1, ?_⟩
    have := hb z (List.mem_of_getElem? hz)
    by_cases hn : z < 0
    · rw [(o2 hn).2]; omega
    · rw [(o1 (by omega)).2]; omega
/-- A stack of frames that are known. -/
structure PS {α : Type} (F : World → Nat → α → Prop) (w : World) (sb base : Nat) (lv : Value) (ps : List (Nat × α)) : Prop where
  stk : Stk w sb 47 [lv] 0 base lv (ps.map (·.1))
  frs : ∀ p ∈ ps, F w p.1 p.2
theorem PS.below {α : Type} {F : World → Nat → α → Prop} (hF : Lit F) {w w' : World} {sb base : Nat} {lv : Value} {ps : List (Nat × α)} (h : PS F w sb base lv ps) (k : Below w.heap.size w w') : PS F w' sb base lv ps :=
  ⟨h.stk.kp (S := fun _ => False) (Kp.of_below k) id (fun _ _ => id), fun p hp => hF _ _ (fun _ => False) _ _ (h.frs p hp) (Kp.of_below k) (light_none w)⟩
theorem PS.push {α : Type} {F : World → Nat → α → Prop} (hF : Lit F) {w w1 : World} {sb base : Nat} {lv lv' : Value} {ps : List (Nat × α)} {b : Nat} {d : α} (h : PS F w sb base lv ps) (hf : F w b d)
    (hs : Stk w1 sb 47 ([lv].set 0 lv') 0 base lv' (ps.map (·.1) ++ [b])) (hk : Kp (fun b => b = sb ∨ lv.ownBlock = some b) w w1) : PS F w1 sb base lv' (ps ++ [(b, d)]) := by
  refine ⟨by simpa using hs, fun p hp => ?_⟩
  rcases List.mem_append.1 hp with hp | hp
  · exact hF _ _ _ _ _ (h.frs p hp) hk (stk_light h.stk)
  · simp at hp
    subst hp
    exact hF _ _ _ _ _ hf hk (stk_light h.stk)
theorem stk_below {w w1 : World} {sb base : Nat} {t : TypeId} {cs : List Value} {lv : Value} {bs : List Nat} (h : Stk w sb t cs 0 base lv bs) (hk : Kp (fun b => b = sb ∨ lv.ownBlock = some b) w w1) {B : Nat} (hB : B ≤ base) (hs : B ≤ sb) (hw : B ≤ w.heap.size) : Below B w w1 :=
  kp_below2 hk hw (fun b hb => by
    rcases hb with rfl | hb
    · exact hs
    · have := (World.ownsRow.lt h.own b hb).1; omega)
/-- What stands while catches runs. -/
def C28 (w : World) (wx : World) : Prop := Blk wx w.heap.size 57 (TryD.cs ⟨0, 2, 7, 1⟩) ∧ Below w.heap.size w wx ∧ Blk wx (w.heap.size + 1 + 2) 60 [.slice (some ⟨w.heap.size + 1 + 1, 0, none⟩) 1 1] ∧ Blk wx (w.heap.size + 1 + 1) 33 (FnD.cs ⟨2, [⟨0, 2, 7, 1⟩], some ⟨w.heap.size, 0, none⟩, 1⟩) ∧ Blk wx (w.heap.size + 1 + 2 + 1 + 1) 3 [.int .i64 1, .int .i64 9]
theorem C28.kp {w w1 w2 : World} {S : Nat → Prop} (h : C28 w w1) (k : Kp S w1 w2) (hs : ∀ b, S b → b = w.heap.size + 1 + 2 + 1 ∨ w.heap.size + 1 + 2 + 1 + 1 < b) : C28 w w2 := by
  obtain ⟨h1, h2, h3, h4, h5⟩ := h
  refine ⟨h1.kp k (fun h => by have := hs _ h; omega), h2.trans (kp_below2 k h2.size (fun b hb => by have := hs b hb; omega)), h3.kp k (fun h => by have := hs _ h; omega), h4.kp k (fun h => by have := hs _ h; omega), h5.kp k (fun h => by have := hs _ h; omega)⟩
theorem rdf_one {w : World} {qf : Nat} {f : FnD} (h : Blk w qf 33 f.cs) (ht : RdT w f.T f.tr.length f.tr) (hn : f.tr.length ≤ 100000) : RdF w (some ⟨qf, 0, none⟩) [f] := by
  refine ⟨Rd.of_blk (cs := fncs [f]) (t := 33) ?_ rfl, fun g hg => ?_⟩
  · have e : fncs [f] = f.cs := by simp [fncs]
    rw [e]; exact h
  · simp at hg
    subst hg
    exact ⟨ht, hn⟩
/-- What Catch has left in catches. -/
def S12 (w w0 : World) (sb base : Nat) (s6 s7 : Value) (wx : World) : Prop := ∃ (A : Option Addr) (c : Nat) (lv : Value) (b R : Nat) (d : FU) (regs : List V), s6 = .slice A 1 c ∧ s7 = .bool true ∧ Stk wx sb 47 [lv] 0 base lv [b] ∧ d.rg = .slice (some ⟨R, 0, none⟩) 2 2 ∧ regs.length = 2 ∧ Blk wx b 40 { d with pc := 7 }.cs ∧ Blk wx R 25 (vcs (regs.set 1 (V.str ⟨#[97]⟩))) ∧ Below w.heap.size w0 wx
set_option maxRecDepth 100000 in
set_option maxHeartbeats 4000000 in
theorem catches_walk (w : World) : Calls Try.prog 28 #[] w fun e w' => e = .returned (.bool true) ∧ Below w.heap.size w w' := by
  go_enter Try.func28, Try.ntmps28
  go_wp2_with (first
    | (go_at_call 29; refine (one_any (ts := [⟨0, 2, 7, 1⟩]) (Rd.of_blk (Blk.new w 57 (TryD.cs ⟨0, 2, 7, 1⟩)) rfl) (w.heap.size + 1) (by simp)).mono ?_; rintro e w1 ⟨rfl, hb1, hk1, hs1⟩; have H1 := Lib.hid (And.intro hb1 hk1); clear hb1 hk1))
  go_loopg [13] 2 (fun gk i wr => ∃ (k : Nat) (ps : List (Nat × FU)) (lv : Value), k ≤ 2 ∧ gk = 2 - k ∧ i = .int .i64 k ∧ ps.length = k ∧ PS (FrB (w.heap.size + 1 + 2 + 1 + 1 + 1)) wr (w.heap.size + 1 + 2 + 1) (w.heap.size + 1 + 2 + 1 + 1 + 1) lv ps ∧ okUs [1, 9] ps ∧ C28 w wr)
  case atStart =>
    obtain ⟨hb1, hk1⟩ := H1.out
    refine ⟨0, [], .slice none 0 0, Nat.zero_le _, rfl, rfl, rfl, ⟨⟨?_, rfl, World.ownsRow_nil _ _ _ _, by simp [Value.ownBlock], by simp [hs1]⟩, fun p hp => by simp at hp⟩, fun i p hp => by simp at hp, ?_, ?_, ?_, ?_, ?_⟩
    · exact (Blk.made (by simp [hs1]) 47 _).alloc _
    · exact ((((Blk.new w 57 (TryD.cs ⟨0, 2, 7, 1⟩)).below hk1 (by simp)).alloc _).alloc _).alloc _
    · exact below_alloc (below_alloc (below_alloc (below_chain hk1 (below_alloc (Below.refl _ _) _)) _) _) _
    · exact ((Blk.made (by simp [hs1]) 60 _).alloc _).alloc _
    · exact ((hb1.alloc _).alloc _).alloc _
    · exact Blk.made (by simp [hs1]) 3 _
  case round =>
    obtain ⟨k, ps, lv, hk, hgk, rfl, hpk, hps, hok, hx⟩ := hrel
    have HG := Lib.hid hgk
    have HP := Lib.hid hps
    have HO := Lib.hid hok
    have HPK := Lib.hid hpk
    have HX := Lib.hid hx
    have hbig := hx.2.2.2.2.lt
    clear hgk hps hok hpk hx
    by_cases hlt : k < 2
    · obtain ⟨x, hxe⟩ : ∃ x : Int, [(1 : Int), 9][k]? = some x := ⟨_, List.getElem?_eq_getElem (by simp; omega)⟩
      have hx0 : 0 ≤ x := by
        have := List.mem_of_getElem? hxe
        simp at this
        omega
      have yp : wr.cell? ⟨w.heap.size + 1 + 2 + 1 + 1, k, none⟩ = some (.int .i64 x) := HX.out.2.2.2.2.cell (by
        have e : [Value.int .i64 1, Value.int .i64 9] = [(1 : Int), 9].map (Value.int .i64) := rfl
        rw [e, List.getElem?_map, hxe]; rfl)
      have HXE := Lib.hid hxe
      have y0 : wr.cell? ⟨w.heap.size + 1 + 2, 0, none⟩ = some (.slice (some ⟨w.heap.size + 1 + 1, 0, none⟩) 1 1) := (HX.out.2.2.1.cell rfl)
      have y1 : wr.cell? ⟨w.heap.size + 1 + 1, 0, none⟩ = some (.slice none 0 0) := (HX.out.2.2.2.1.cell rfl)
      have y2 : wr.cell? ⟨w.heap.size + 1 + 1, 1, none⟩ = some (.slice none 0 0) := (HX.out.2.2.2.1.cell rfl)
      have y3 : wr.cell? ⟨w.heap.size + 1 + 1, 2, none⟩ = some (.int .i64 2) := (HX.out.2.2.2.1.cell rfl)
      have y4 : wr.cell? ⟨w.heap.size + 1 + 1, 3, none⟩ = some (.int .i64 0) := (HX.out.2.2.2.1.cell rfl)
      have y5 : wr.cell? ⟨w.heap.size + 1 + 1, 4, none⟩ = some (.int .i64 0) := (HX.out.2.2.2.1.cell rfl)
      have y6 : wr.cell? ⟨w.heap.size + 1 + 1, 5, none⟩ = some (.slice none 0 0) := (HX.out.2.2.2.1.cell rfl)
      have y7 : wr.cell? ⟨w.heap.size + 1 + 1, 6, none⟩ = some (.slice (some ⟨w.heap.size, 0, none⟩) 1 1) := (HX.out.2.2.2.1.cell rfl)
      have y8 : wr.cell? ⟨w.heap.size + 1 + 1, 7, none⟩ = some (.bool false) := (HX.out.2.2.2.1.cell rfl)
      have y9 : wr.cell? ⟨w.heap.size + 1 + 1, 8, none⟩ = some (.string ⟨#[]⟩) := (HX.out.2.2.2.1.cell rfl)
      clear hxe
      have hpl5 : ps.length ≤ 40 := by have := HPK.out; omega
      have hw1 : w.heap.size + 1 + 2 < wr.heap.size := by omega
      have hw2 : w.heap.size + 1 + 1 < wr.heap.size := by omega
      have hw3 : w.heap.size + 1 + 2 < wr.heap.size + 1 := by omega
      have hw4 : w.heap.size + 1 + 1 < wr.heap.size + 1 := by omega
      go_upto_region 6 with fail
      go_cut [5] (fun s5 wx => GN wr s5 wx)
      case first =>
        go_region_held3 (fun w' => w'.cell? ⟨w.heap.size + 1 + 2, 0, none⟩ = some (.slice (some ⟨w.heap.size + 1 + 1, 0, none⟩) 1 1) ∧ w'.cell? ⟨w.heap.size + 1 + 1, 0, none⟩ = some (.slice none 0 0) ∧ w'.cell? ⟨w.heap.size + 1 + 1, 1, none⟩ = some (.slice none 0 0) ∧ w'.cell? ⟨w.heap.size + 1 + 1, 2, none⟩ = some (.int .i64 2) ∧ w'.cell? ⟨w.heap.size + 1 + 1, 3, none⟩ = some (.int .i64 0) ∧ w'.cell? ⟨w.heap.size + 1 + 1, 4, none⟩ = some (.int .i64 0) ∧ w'.cell? ⟨w.heap.size + 1 + 1, 5, none⟩ = some (.slice none 0 0) ∧ w'.cell? ⟨w.heap.size + 1 + 1, 6, none⟩ = some (.slice (some ⟨w.heap.size, 0, none⟩) 1 1) ∧ w'.cell? ⟨w.heap.size + 1 + 1, 7, none⟩ = some (.bool false) ∧ w'.cell? ⟨w.heap.size + 1 + 1, 8, none⟩ = some (.string ⟨#[]⟩)) ((first | (refine ⟨?_, ?_, ?_, ?_, ?_, ?_, ?_, ?_, ?_, ?_⟩ <;> (rw [hb.cell (by simp; omega)]; go_simp)) | (refine ⟨?_, ?_, ?_, ?_, ?_, ?_, ?_, ?_, ?_, ?_⟩ <;> go_simp)))
         (first
          | (go_at_call 18; refine (null_any _).mono ?_; rintro e w' ⟨rfl, rfl⟩; unfold V.agg V.null)
          | (go_at_call 16; refine (new_any _ _ _ _ _ _ _ _ 2 _ V.null V.null none 0 0 [] _ (by omega) (by omega) (Rd.nil _ _ _) (wr.heap.size + 1 + 1) (by simp)).mono ?_; rintro e w3 ⟨rfl, hsz3, hb, hr3, hg3⟩))
        all_goals (go_wp2_with fail; go_meet)
        case rel =>
          have hk : Below wr.heap.size wr w3 := below_chain hb (by repeat (first | exact Below.refl _ _ | refine Below.drew ?_ | refine below_alloc ?_ _))
          exact ⟨_, _, _, rfl, hk, by omega, by omega, hr3, rfl, hg3⟩
      case rest =>
        obtain ⟨r, g, regs, rfl, hbx, hrl, hgl, hr2, hrn, hg2⟩ := hcut
        have hrg : r ≠ g := by
          rintro rfl
          have h1 := hg2
          have h2 := hr2
          unfold Blk at h1 h2
          rw [h1] at h2
          injection h2 with e
          injection e with _ e
          cases e
        have hgw := hg2.lt
        have f8 := hg2.frozen 8
        have x8 : wc.cell? ⟨g, 8, none⟩ = some (.int .i64 0) := hg2.cell rfl
        have x7 : wc.cell? ⟨g, 7, none⟩ = some (.slice (some ⟨r, 0, none⟩) 2 2) := hg2.cell rfl
        have hg3 := hg2.set_ 8 (.int .i64 x)
        have kset : Below wr.heap.size wr (wc.setCell ⟨g, 8, none⟩ (.int .i64 x)) := hbx.setCell hgl _
        have hr3 : Blk (wc.setCell ⟨g, 8, none⟩ (.int .i64 x)) r 25 (vcs regs) := hr2.far (p := ⟨g, 8, none⟩) hrg _
        have HP3 : Hid (PS (FrB (w.heap.size + 1 + 2 + 1 + 1 + 1)) (wc.setCell ⟨g, 8, none⟩ (.int .i64 x)) (w.heap.size + 1 + 2 + 1) (w.heap.size + 1 + 2 + 1 + 1 + 1) lv ps) := Lib.hid (HP.out.below (FrB.lit _) kset)
        have HF3 : Hid (FrB (w.heap.size + 1 + 2 + 1 + 1 + 1) (wc.setCell ⟨g, 8, none⟩ (.int .i64 x)) g ⟨0, V.null, V.null, .slice (some ⟨r, 0, none⟩) 2 2, x, 0, 0, V.null, none, -1⟩) := Lib.hid ⟨⟨hg3, by simp, .inl ⟨rfl, rfl, r, regs, rfl, hr3, hrn⟩⟩, by omega, fun R n c e => by injection e with e; injection e with e; injection e with e; subst e; omega⟩
        have HX3 : Hid (C28 w (wc.setCell ⟨g, 8, none⟩ (.int .i64 x))) := Lib.hid (HX.out.kp (S := fun _ => False) (Kp.of_below kset) (fun _ h => h.elim))
        have hnn := fun W => run_eql_ptr_nil (P := Try.prog) W (tp := 35) ⟨g, 0, none⟩ Try.underlying35
        clear hg3 hr3 hbx hr2 hg2 kset
        go_wp2_with (first
          | (go_at_call 23; refine (push_any HP3.out.stk g (by simp; omega)).mono ?_; rintro e w4 ⟨rfl, lv4, hs4, hk4, hf4⟩; have R4 := Lib.hid (And.intro hs4 (And.intro hk4 hf4)); clear hs4 hk4 hf4))
        go_roundg (2 - (k + 1))
        case rel =>
          obtain ⟨hs4, hk4, hf4⟩ := R4.out
          have HK := HPK.out
          refine ⟨k + 1, ps ++ [(g, ⟨0, V.null, V.null, .slice (some ⟨r, 0, none⟩) 2 2, x, 0, 0, V.null, none, -1⟩)], lv4, by omega, rfl, by go_num, by simp; omega, PS.push (FrB.lit _) HP3.out HF3.out hs4 hk4, okUs_snoc HO.out (by rw [HK]; exact HXE.out) ?_, HX3.out.kp hk4 ?_⟩
          · exact ⟨fun h => ⟨rfl, rfl⟩, fun h => by omega⟩
          · intro b hb
            rcases hb with hb | hb
            · exact .inl hb
            · exact .inr (World.ownsRow.lt HP3.out.stk.own b hb).1
        case measure => (have := HG.out; omega)
    · obtain rfl : k = 2 := by omega
      have h2 := HPK.out
      obtain ⟨p0, p1, rfl⟩ : ∃ p0 p1, ps = [p0, p1] := by
        match ps, h2 with
        | [a, b], _ => exact ⟨a, b, rfl⟩
      obtain ⟨z0, hz0, ho0⟩ := HO.out 0 p0 rfl
      obtain rfl : z0 = 1 := by simpa using hz0.symm
      have hst0 := (ho0.1 (by omega)).1
      have hfr0 := HP.out.frs p0 (by simp)
      have HCAT : Hid (∀ W, Below wr.heap.size wr W → Calls Try.prog 32 #[.agg #[.slice (some ⟨w.heap.size + 1 + 1, 0, none⟩) 1 1], .pointer (some ⟨w.heap.size + 1 + 2 + 1, 0, none⟩), (V.str ⟨#[97]⟩).agg] W (fun e w' => ∃ s6 s7, e = .returned (.tuple #[s6, s7]) ∧ S12 w w (w.heap.size + 1 + 2 + 1) (w.heap.size + 1 + 2 + 1 + 1 + 1) s6 s7 w' ∧ w'.cell? ⟨w.heap.size + 1 + 2, 0, none⟩ = some (.slice (some ⟨w.heap.size + 1 + 1, 0, none⟩) 1 1))) := by
        refine Lib.hid (fun W hW => ?_)
        have hp := HP.out.below (FrB.lit _) hW
        have hx := HX.out.kp (S := fun _ => False) (Kp.of_below hW) (fun _ h => h.elim)
        obtain ⟨⟨hb0, hf0, hcase⟩, hge, hRge⟩ := hp.frs p0 (by simp)
        rcases hcase with ⟨_, _, R, regs, hrg, hR, hrl⟩ | ⟨sx, hsx⟩
        · have hfu : findU [⟨2, [⟨0, 2, 7, 1⟩], some ⟨w.heap.size, 0, none⟩, 1⟩] ([p0, p1].map (·.2)) ([p0, p1].map (·.1)).length = some (0, ⟨0, 2, 7, 1⟩) :=
            (findU_eq (f := ⟨2, [⟨0, 2, 7, 1⟩], some ⟨w.heap.size, 0, none⟩, 1⟩) (zs := [1, 9]) rfl (fun p hp' => (hp.frs p hp').1) HO.out 2).trans rfl
          have hc := catch_some hp.stk (by decide) (by decide) (cf := 1) (rdf_one hx.2.2.2.1 (Rd.of_blk hx.1 rfl) (by simp)) (by simp) ([p0, p1].map (·.2)) rfl (frs_find (zs := [1, 9]) (by simp) (fun p hp' => (hp.frs p hp').1) HO.out) (by simp) (V.str ⟨#[97]⟩) hfu (b := p0.1) (d := p0.2) rfl rfl (R := R) (regs := regs) (c := 2) (by rw [hrl]; exact hrg) hR 1 rfl (by omega) (by omega)
          refine hc.mono ?_
          rintro e w' ⟨v, lv', rfl, ho, hs, hlv, b, d, R', regs', c', hb, hd, hrg', hR', hb', hr', hk⟩
          obtain rfl : p0.1 = b := by simpa using hb
          obtain rfl : p0.2 = d := by simpa using hd
          rw [hrg] at hrg'
          injection hrg' with e1 e2 e3
          injection e1 with e1
          injection e1 with e1
          subst e1
          obtain ⟨A, c, rfl, _⟩ := own_form ho
          refine ⟨_, _, rfl, ⟨A, c, lv', p0.1, R, p0.2, regs', rfl, rfl, hs, hrg, by omega, hb', hr', ?_⟩, (hk.cell (p := ⟨w.heap.size + 1 + 2, 0, none⟩) hx.2.2.1.lt (fun hx' => ?_)).trans (hx.2.2.1.cell rfl)⟩
          have hB : Below w.heap.size w W := HX.out.2.1.trans (hW.mono HX.out.2.1.size)
          refine hB.trans (kp_below2 hk hB.size (fun x hx => ?_))
          rcases hx with rfl | hx | rfl | rfl
          · omega
          · have := (World.ownsRow.lt hp.stk.own x hx).1; omega
          · omega
          · have := hRge _ _ _ hrg; omega
          rcases hx' with hx' | hx' | hx' | hx'
          · simp only at hx'; omega
          · have := (World.ownsRow.lt hp.stk.own _ hx').1; simp only at this; omega
          · simp only at hx'; omega
          · simp only at hx'; have := hRge _ _ _ hrg; omega
        · rw [hst0] at hsx; cases hsx
      have yp : wr.cell? ⟨w.heap.size + 1 + 2, 0, none⟩ = some (.slice (some ⟨w.heap.size + 1 + 1, 0, none⟩) 1 1) := HX.out.2.2.1.cell rfl
      have hw1 : w.heap.size + 1 + 2 < wr.heap.size := by omega
      have hw3 : w.heap.size + 1 + 2 < wr.heap.size + 1 := by omega
      clear ho0 hst0 hfr0 hz0
      go_upto_region 12 with fail
      go_cut [6, 7] (fun s6 s7 wx => S12 w w (w.heap.size + 1 + 2 + 1) (w.heap.size + 1 + 2 + 1 + 1 + 1) s6 s7 wx)
      case first =>
        go_region_held3 (fun w' => w'.cell? ⟨w.heap.size + 1 + 2, 0, none⟩ = some (.slice (some ⟨w.heap.size + 1 + 1, 0, none⟩) 1 1)) ((first | exact hcell | go_simp))
         (first
          | (go_at_call 19; refine (str_any _ _).mono ?_; rintro e w' ⟨rfl, rfl⟩; unfold V.agg V.str)
          | (go_at_call 32; refine (HCAT.out _ (by repeat (first | exact Below.refl _ _ | refine Below.drew ?_ | refine below_alloc ?_ _))).mono ?_; rintro e w3 ⟨s6, s7, rfl, hs12, hcell⟩))
        all_goals (go_wp2_with fail; go_meet)
        exact hs12
      case rest =>
        obtain ⟨A, c, lv, b, R, d, regs, rfl, rfl, hstk, hrg, hrn, hbb, hbR, hbel⟩ := hcut
        have HS := Lib.hid hstk
        have HBE := Lib.hid hbel
        have x8 : wc.cell? ⟨b, 8, none⟩ = some (.int .i64 7) := hbb.cell rfl
        have x7 : wc.cell? ⟨b, 7, none⟩ = some (.slice (some ⟨R, 0, none⟩) 2 2) := by
          rw [hbb.cell (i := 7) rfl]; exact congrArg some hrg
        have x5 : wc.cell? ⟨R, 5, none⟩ = some (.string ⟨#[97]⟩) := hbR.cell (vcs_at (vs := regs.set 1 (V.str ⟨#[97]⟩)) (i := 1) (v := V.str ⟨#[97]⟩) (by rw [List.getElem?_set_self (by omega)])).2.2
        have x4 : wc.cell? ⟨R, 4, none⟩ = some (.int .i64 0) := hbR.cell (vcs_at (vs := regs.set 1 (V.str ⟨#[97]⟩)) (i := 1) (v := V.str ⟨#[97]⟩) (by rw [List.getElem?_set_self (by omega)])).2.1
        have x3 : wc.cell? ⟨R, 3, none⟩ = some (.int .i64 3) := hbR.cell (vcs_at (vs := regs.set 1 (V.str ⟨#[97]⟩)) (i := 1) (v := V.str ⟨#[97]⟩) (by rw [List.getElem?_set_self (by omega)])).1
        have hnn := fun W => run_neq_ptr_none (P := Try.prog) W (tp := 35) ⟨b, 0, none⟩ Try.underlying35
        clear hstk hbb hbR hbel hrg HCAT HP HO HX
        go_wp2_with (first
          | (go_at_call 33; (first | refine (top_some (b := b) HS.out rfl (by simp)).mono ?_ | refine (top_some (b := b) (HS.out.drewN _) rfl (by simp)).mono ?_ | refine (top_some (b := b) ((HS.out.drewN _).drewN _) rfl (by simp)).mono ?_); rintro e w4 ⟨rfl, nn, rfl⟩; unfold ptr)
          | (go_at_call 24; refine (len_any HS.out).mono ?_; rintro e w4 ⟨rfl, rfl⟩))
        go_ret
        exact ⟨rfl, ⟨HBE.out.os, HBE.out.tape, HBE.out.output, HBE.out.size, HBE.out.block⟩⟩
end Go.Proofs.Ytpcamgjfikipgaa
