/- The law MemoOnce. -/
import Derived.Test.YtibnbcljmfigfaaLMemo1
namespace Go.Proofs.Ytibnbcljmfigfaa
open Go Go.AM Go.Proofs
set_option maxRecDepth 20000
set_option maxHeartbeats 8000000
set_option linter.unusedSimpArgs false
set_option linter.unusedVariables false
abbrev I2s.g (s : Sl (Int × Int)) : GV := Sl.g 2 I2.c s
theorem I2s.inv {gs : List GV} (h : HasTy (.sl 2 (.p (.i .i64) (.p (.i .i64) .u))) gs) : ∃ s : Sl (Int × Int), ((∀ y ∈ s.l, I64 y.1 ∧ I64 y.2) ∧ s.l.length ≤ 9223372036854775807) ∧ gs = [I2s.g s] := by
  obtain ⟨s, h1, h2, rfl⟩ := h.sl_inv (fun _ => ti2_inv)
  exact ⟨s, ⟨h1, h2⟩, rfl⟩
structure OnceI (n0 n1 : Int) (k : Nat) (b : Memos) : Prop where
  wf : b.wf
  may : MayOk b.l.l b.old.l
  len : b.l.l.length ≤ 41 + k ∧ b.old.l.length ≤ 21 + k
  told : (∃ x, lookF b.l.l n0 n1 = some x ∧ x.rep = rr77) ∨ (lookF b.l.l n0 n1 = none ∧ hasP b.old.l n0 = true ∧ n1 ≤ floorP b.old.l n0)
theorem rv9_wf (i : Int) (h : I64 i) : (rv9 i).wf := by
  obtain ⟨h1, h2⟩ := h
  simp only [Reply.wf, rv9, I64, Sl.l_nil]
  refine ⟨by omega, by omega, by omega, ⟨h1, h2⟩, by omega, by omega, by simp, by simp⟩
theorem OnceI.next {n0 n1 : Int} {k : Nat} {b : Memos} (h : OnceI n0 n1 k b) (w q : Int) (r : Reply) (hw : I64 w) (hq : I64 q) (hr : r.wf) (hk : k ≤ 1000) : OnceI n0 n1 (k + 1) (keepM b w q r) := by
  have hlen := keepM_len b w q r
  have hl := h.len
  have hwf := keepM_wf h.wf (by omega) hw hq hr
  by_cases he : keepE b w q = 0
  · obtain ⟨e1, e2⟩ := keepE_ok.1 he
    have hko := kept_ok e1 e2
    have hkk := keep_KeepOk r e1 e2 h.may.keys
    refine ⟨hwf, keep_MayOk r e1 e2 h.may, by omega, ?_⟩
    by_cases hn : n0 = w
    · subst hn
      rcases h.told with ⟨x, hx, hr⟩ | ⟨h1, h2, h3⟩
      · cases hq : lookF (keepM b n0 q r).l.l n0 n1 with
        | some z =>
          rcases hkk.found n1 z hq with ⟨h4, _⟩ | h4
          · subst h4; rw [hko.no] at hx; cases hx
          · rw [hx] at h4; cases h4; exact .inl ⟨x, rfl, hr⟩
        | none =>
          rcases hkk.lost n1 hq with ⟨h4, _⟩ | h4
          · rw [hx] at h4; cases h4
          · exact .inr ⟨rfl, h4⟩
      · refine .inr ⟨?_, (hkk.fw h2).1, by have := (hkk.fw h2).2; omega⟩
        cases hq : lookF (keepM b n0 q r).l.l n0 n1 with
        | none => rfl
        | some z =>
          rcases hkk.found n1 z hq with ⟨h4, _⟩ | h4
          · have := hko.fl; omega
          · rw [h1] at h4; cases h4
    · rw [hkk.other n0 n1 hn, (hkk.fo n0 hn).1, (hkk.fo n0 hn).2]
      exact h.told
  · have hor : (lookP b.l.l b.old.l w q).2.1 = true ∨ (lookP b.l.l b.old.l w q).2.2 ≠ 0 := by
      cases h : (lookP b.l.l b.old.l w q).2.1
      · exact .inr fun h2 => he (keepE_ok.2 ⟨h, h2⟩)
      · exact .inl rfl
    rw [keep_err hor] at hwf hlen ⊢
    exact ⟨hwf, h.may, by omega, h.told⟩
theorem OnceI.look {n0 n1 : Int} {k : Nat} {b : Memos} (h : OnceI n0 n1 k b) : lookP b.l.l b.old.l n0 n1 = (rr77, true, 0) ∨ lookP b.l.l b.old.l n0 n1 = (rep0, false, 7) := by
  unfold lookP
  rcases h.told with ⟨x, hx, hr⟩ | ⟨h1, h2, h3⟩
  · rw [hx]; exact .inl (by simp only; rw [hr])
  · rw [h1]; exact .inr (by simp only; rw [if_pos h3])
theorem once9_loop (n0 n1 : Int) (B0 p2 p3 p5 p6 : Blk) (l : Sl (Int × Int)) (wl : ∀ y ∈ l.l, I64 y.1 ∧ I64 y.2) (hl : l.l.length ≤ 30) (b0 : Memos) (hb : OnceI n0 n1 0 b0) : ∃ b' o, OnceI n0 n1 l.l.length b' ∧
    loopE (EvF tab) [] L11_0 [2, 4, 7, 8, 10] ⟨[(2, .g (I2s.g l)), (4, .ptr 1 0), (7, .ptr 4 0), (8, .ptr 7 0), (10, I 0)], [], [B0, .cells [I n0, I n1], p2, p3, .cells (rr77.c.map .g), p5, p6, .cells (b0.c.map .g)]⟩ =
      some (.exit 0, ⟨[(2, .g (I2s.g l)), (4, .ptr 1 0), (7, .ptr 4 0), (8, .ptr 7 0), (10, I l.l.length), (47, B false)], [], B0 :: .cells [I n0, I n1] :: p2 :: p3 :: .cells (rr77.c.map .g) :: p5 :: p6 :: .cells (b'.c.map .g) :: o⟩) := by
  have hw := loop_runJ (E := EvF tab) (h := []) (c := L11_0) (lv := [2, 4, 7, 8, 10]) (l := l.l) (β := Nat × Memos) (γ := Unit) (fun k b => b.1 = k ∧ OnceI n0 n1 k b.2) (fun k x b => .inl (k + 1, keepM b.2 x.1 x.2 (rv9 k)))
    (fun k b o => ⟨[(2, .g (I2s.g l)), (4, .ptr 1 0), (7, .ptr 4 0), (8, .ptr 7 0), (10, I k)], [], B0 :: .cells [I n0, I n1] :: p2 :: p3 :: .cells (rr77.c.map .g) :: p5 :: p6 :: .cells (b.2.c.map .g) :: o⟩)
    (fun b o => (.exit 0, ⟨[(2, .g (I2s.g l)), (4, .ptr 1 0), (7, .ptr 4 0), (8, .ptr 7 0), (10, I l.l.length), (47, B false)], [], B0 :: .cells [I n0, I n1] :: p2 :: p3 :: .cells (rr77.c.map .g) :: p5 :: p6 :: .cells (b.2.c.map .g) :: o⟩))
    (fun _ o => (.ret, ⟨[], [], o⟩)) (by simp) (by simp) (fun k x b o hk hx hy hi => ?_) (fun _ o _ => by delta L11_0; simp -implicitDefEqProofs) (0, b0) [] ⟨rfl, hb⟩
  · obtain ⟨o', hw⟩ := hw
    have hrun : ∀ (l : List (Int × Int)) (k : Nat) (b : Nat × Memos), (∀ y ∈ l, I64 y.1 ∧ I64 y.2) → k + l.length ≤ 1000 → b.1 = k ∧ OnceI n0 n1 k b.2 → ∃ b', runG (γ := Unit) (fun k (x : Int × Int) (b : Nat × Memos) => .inl (k + 1, keepM b.2 x.1 x.2 (rv9 k))) k l b = .inl b' ∧ OnceI n0 n1 (k + l.length) b'.2 := by
      intro l
      induction l with
      | nil => intro k b _ _ hb; exact ⟨b, rfl, hb.2⟩
      | cons y l ih =>
        intro k b hyl hkl hb
        unfold runG
        simp only [List.length_cons] at hkl
        obtain ⟨b', h1, h2⟩ := ih (k + 1) (k + 1, keepM b.2 y.1 y.2 (rv9 k)) (fun z hz => hyl z (List.mem_cons_of_mem _ hz)) (by omega) ⟨rfl, hb.2.next y.1 y.2 (rv9 k) (hyl y (by simp)).1 (hyl y (by simp)).2 (rv9_wf _ ⟨by omega, by omega⟩) (by omega)⟩
        exact ⟨b', h1, by rw [List.length_cons, show k + (l.length + 1) = k + 1 + l.length by omega]; exact h2⟩
    obtain ⟨b', h1, h2⟩ := hrun l.l 0 (0, b0) wl (by omega) ⟨rfl, hb⟩
    rw [h1] at hw
    refine ⟨b'.2, o', by simpa using h2, ?_⟩
    simpa only [endJ, Int.ofNat_zero, Int.cast_ofNat_Int] using hw
  · have e2 := wrap_succ hk (by omega)
    obtain ⟨bk, b⟩ := b
    obtain ⟨rfl, hi⟩ := hi
    have hxw := wl x (List.mem_of_getElem? hx)
    have hl2 := hi.len
    simp only at hi hk hx hy hl2 e2 ⊢
    have hn := hi.next x.1 x.2 (rv9 bk) hxw.1 hxw.2 (rv9_wf _ ⟨by omega, by omega⟩) (by omega)
    refine ⟨⟨trivial, hn⟩, ?_⟩
    have hl3 := hn.len
    have k1 := fun H => Keep_ev b x.1 x.2 (rv9 bk) hi.wf (by omega) H
    have k2 := fun H => Look_ev (keepM b x.1 x.2 (rv9 bk)) n0 n1 hn.wf (by omega) H
    have k3 := fun H => AlikeS_ev rr77 rr77_wf H
    have hlk := hn.look
    generalize hkm : keepM b x.1 x.2 (rv9 bk) = b2 at k1 k2 hlk ⊢
    generalize keepE b x.1 x.2 = ee at k1
    delta L11_0
    cases l with
    | nil => simp at hk
    | of l =>
      simp only [Sl.l_of] at hk hy hl
      obtain ⟨xw, xq⟩ := x
      simp only [A, Memos.c, rr77, rv9, Reply.c, List.map_cons, List.map_nil, Sl.g_nil, KVs.g, Evs.g] at k1 k2 k3 ⊢
      generalize MemoL.g b.l = G1 at k1 ⊢
      generalize Floors.g b.old = G2 at k1 ⊢
      generalize MemoL.g b2.l = G3 at k1 k2 ⊢
      generalize Floors.g b2.old = G4 at k1 k2 ⊢
      rcases hlk with hlk | hlk
      · rw [hlk] at k2
        simp only [rr77, Sl.g_nil] at k2
        refine ⟨o ++ [.cells [.g G3, .g G4], .rows 6 1 [], .rows 8 1 [], .cells (rr77.c.map .g)], ?_⟩
        simp -implicitDefEqProofs [hk, hy, I2.c, k1, k2, k3, e2, rr77, Reply.c, pends]
      · rw [hlk] at k2
        simp only [rep0, Sl.g_nil] at k2
        refine ⟨o ++ [.cells [.g G3, .g G4], .rows 6 1 [], .rows 8 1 [], .cells (rep0.c.map .g)], ?_⟩
        simp -implicitDefEqProofs [hk, hy, I2.c, k1, k2, k3, e2, rep0, Reply.c, pends]

theorem MemoOnce_law (x0 : Memos) (x1 : Int × Int) (x2 : Sl (Int × Int)) (w0 : x0.wf) (w1 : I64 x1.1 ∧ I64 x1.2) (w2 : (∀ y ∈ x2.l, I64 y.1 ∧ I64 y.2) ∧ x2.l.length ≤ 9223372036854775807) : EvF tab 11 [A x0.c, A (I2.c x1), .g (I2s.g x2)] [] = some ⟨.g (.bool true), [], []⟩ := by
  have m0 := fun H => FewM_ev x0 w0 H
  refine EvF_walk t11 (by simp) ?_
  obtain ⟨n0, n1⟩ := x1
  have hlen : ∀ h s, lenV h s (.g (I2s.g x2)) = some x2.l.length := fun h s => lenV_Sl ..
  cases hf : fewM x0
  · rw [hf] at m0
    simp only [A, Memos.c, List.map_cons, List.map_nil] at m0 ⊢
    generalize MemoL.g x0.l = G1 at m0 ⊢
    generalize Floors.g x0.old = G2 at m0 ⊢
    generalize I2s.g x2 = G3
    simp -implicitDefEqProofs [live09, m0, I2.c]
  rw [hf] at m0
  obtain ⟨hl1, hl2⟩ := fewM_small hf
  have m1 := fun H => MMay_ev x0 w0 (by omega) H
  cases hm : mayMe x0.l.l x0.old.l
  · rw [hm] at m1
    simp only [A, Memos.c, List.map_cons, List.map_nil] at m0 m1 ⊢
    generalize MemoL.g x0.l = G1 at m0 m1 ⊢
    generalize Floors.g x0.old = G2 at m0 m1 ⊢
    generalize I2s.g x2 = G3
    simp -implicitDefEqProofs [live09, m0, m1, I2.c]
  rw [hm] at m1
  have hmo := mayMe_iff.1 hm
  by_cases hl : x2.l.length ≤ 30
  · have hlI : ¬ (30 : Int) < (x2.l.length : Int) := by omega
    have m2 := fun H => Keep_ev x0 n0 n1 rr77 w0 (by omega) H
    by_cases he : keepE x0 n0 n1 = 0
    · obtain ⟨e1, e2⟩ := keepE_ok.1 he
      have hko := kept_ok e1 e2
      have hkk := keep_KeepOk rr77 e1 e2 hmo.keys
      have hkl := keepM_len x0 n0 n1 rr77
      have hkw := keepM_wf (q := n1) w0 (by omega) w1.1 w1.2 rr77_wf
      have hI : OnceI n0 n1 0 (keepM x0 n0 n1 rr77) := by
        refine ⟨hkw, keep_MayOk rr77 e1 e2 hmo, by omega, ?_⟩
        cases hq : lookF (keepM x0 n0 n1 rr77).l.l n0 n1 with
        | some z =>
          rcases hkk.found n1 z hq with ⟨_, h4⟩ | h4
          · exact .inl ⟨z, rfl, h4⟩
          · rw [hko.no] at h4; cases h4
        | none =>
          rcases hkk.lost n1 hq with ⟨_, h4⟩ | h4
          · exact absurd rfl h4
          · exact .inr ⟨rfl, h4⟩
      have m3 := fun B0 p2 p3 p5 p6 => once9_loop n0 n1 B0 p2 p3 p5 p6 x2 w2.1 hl _ hI
      rw [he] at m2
      generalize keepM x0 n0 n1 rr77 = k at m2 m3
      simp only [A, Memos.c, rr77, Reply.c, List.map_cons, List.map_nil, Sl.g_nil, KVs.g, Evs.g] at m0 m1 m2 m3 ⊢
      generalize MemoL.g x0.l = G1 at m0 m1 m2 ⊢
      generalize Floors.g x0.old = G2 at m0 m1 m2 ⊢
      generalize MemoL.g k.l = G4 at m2 m3
      generalize Floors.g k.old = G5 at m2 m3
      obtain ⟨b', o, _, m4⟩ := m3 (.cells [.g G1, .g G2]) (.rows 6 1 []) (.rows 8 1 []) (.rows 11 1 []) (.rows 2 1 [])
      generalize I2s.g x2 = G3 at hlen m4 ⊢
      generalize MemoL.g b'.l = G6 at m4
      generalize Floors.g b'.old = G7 at m4
      simp -implicitDefEqProofs [live09, m0, m1, m2, m4, I2.c, hlen, hlI]
    · generalize keepE x0 n0 n1 = e at m2 he
      generalize keepM x0 n0 n1 rr77 = k at m2
      simp only [A, Memos.c, rr77, Reply.c, List.map_cons, List.map_nil, Sl.g_nil, KVs.g, Evs.g] at m0 m1 m2 ⊢
      generalize MemoL.g x0.l = G1 at m0 m1 m2 ⊢
      generalize Floors.g x0.old = G2 at m0 m1 m2 ⊢
      generalize I2s.g x2 = G3 at hlen ⊢
      simp -implicitDefEqProofs [live09, m0, m1, m2, I2.c, hlen, hlI, he]
  · have hlI : (30 : Int) < (x2.l.length : Int) := by omega
    simp only [A, Memos.c, List.map_cons, List.map_nil] at m0 m1 ⊢
    generalize MemoL.g x0.l = G1 at m0 m1 ⊢
    generalize Floors.g x0.old = G2 at m0 m1 ⊢
    generalize I2s.g x2 = G3 at hlen ⊢
    simp -implicitDefEqProofs [live09, m0, m1, I2.c, hlen, hlI]
end Go.Proofs.Ytibnbcljmfigfaa
