/- The law MemoFloors. -/
import Derived.Test.YtibnbcljmfigfaaLMemo2
namespace Go.Proofs.Ytibnbcljmfigfaa
open Go Go.AM Go.Proofs
set_option maxRecDepth 20000
set_option maxHeartbeats 8000000
set_option linter.unusedSimpArgs false
set_option linter.unusedVariables false
def AboveS (m : Memos) : Prop := ∀ x ∈ m.l.l, floorP m.old.l x.who < x.seq
structure FloI (k : Nat) (b : Memos) : Prop where
  wf : b.wf
  may : MayOk b.l.l b.old.l
  len : b.l.l.length ≤ k ∧ b.old.l.length ≤ k
  above : AboveS b
theorem FloI.next {k : Nat} {b : Memos} (h : FloI k b) (w q : Int) (r : Reply) (hw : I64 w) (hq : I64 q) (hr : r.wf) (hk : k ≤ 1000) :
    FloI (k + 1) (keepM b w q r) ∧ floorP b.old.l w ≤ floorP (keepM b w q r).old.l w ∧ (keepE b w q = 4 → seqsP b.l.l w = []) := by
  have hlen := keepM_len b w q r
  have hl := h.len
  have hwf := keepM_wf h.wf (by omega) hw hq hr
  by_cases he : keepE b w q = 0
  · obtain ⟨e1, e2⟩ := keepE_ok.1 he
    have hko := kept_ok e1 e2
    have hkk := keep_KeepOk r e1 e2 h.may.keys
    have hL : ∀ x ∈ keepL1 b.l.l w q r, floorP b.old.l x.who < x.seq := fun x hx => by
      unfold keepL1 at hx
      rcases List.mem_append.1 hx with hx | hx
      · exact h.above x hx
      · rw [List.mem_singleton] at hx; subst hx; exact hko.fl
    have key : AboveS (keepM b w q r) ∧ floorP b.old.l w ≤ floorP (keepM b w q r).old.l w := by
      rcases keep_ways r e1 e2 h.may.keys with ⟨_, d1, d2⟩ | ⟨y, _, d1, d2, d3, d4⟩
      · refine ⟨fun x hx => ?_, by rw [d2]; exact Int.le_refl _⟩
        rw [d2]; rw [d1] at hx; exact hL x hx
      · have hy : floorP b.old.l w < y := by
          obtain ⟨x, hx, hp⟩ := d3
          have := hL x hx
          have hp := isP_iff.1 hp
          unfold mkey at hp
          rw [(Prod.mk.inj hp).1, (Prod.mk.inj hp).2] at this
          exact this
        refine ⟨fun x hx => ?_, ?_⟩
        · rw [d2, floorP_raise]
          rw [d1, List.mem_filter] at hx
          have h1 := hL x hx.1
          by_cases hxw : x.who = w
          · rw [if_pos hxw]
            have h2 := d4 x hx.1 hxw
            have h3 : x.seq ≠ y := fun e => by
              have : isP w y x = true := isP_iff.2 (by unfold mkey; rw [hxw, e])
              have h4 := hx.2
              rw [this] at h4; simp at h4
            rw [hxw] at h1
            split <;> omega
          · rw [if_neg hxw]; exact h1
        · rw [d2, floorP_raise, if_pos rfl]
          split <;> omega
    exact ⟨⟨hwf, keep_MayOk r e1 e2 h.may, by omega, key.1⟩, key.2, fun h4 => by rw [he] at h4; omega⟩
  · have hor : (lookP b.l.l b.old.l w q).2.1 = true ∨ (lookP b.l.l b.old.l w q).2.2 ≠ 0 := by
      cases h : (lookP b.l.l b.old.l w q).2.1
      · exact .inr fun h2 => he (keepE_ok.2 ⟨h, h2⟩)
      · exact .inl rfl
    rw [keep_err hor] at hwf hlen ⊢
    refine ⟨⟨hwf, h.may, by omega, h.above⟩, Int.le_refl _, fun h4 => ?_⟩
    unfold keepE lookP at h4
    cases hlk : lookF b.l.l w q with
    | some x => rw [hlk] at h4; simp at h4
    | none =>
      rw [hlk] at h4
      simp only at h4
      by_cases c1 : q ≤ floorP b.old.l w
      · rw [if_pos c1] at h4; simp at h4
      · rw [if_neg c1] at h4
        by_cases c2 : 8 ≤ (whosP b.l.l b.old.l).length ∧ w ∉ whosP b.l.l b.old.l
        · unfold seqsP seqL
          have : b.l.l.filter (fun x => decide (x.who = w)) = [] := by
            rw [List.filter_eq_nil_iff]
            intro x hx
            have : ¬ x.who = w := fun e => c2.2 (whosP_mem.2 (.inl ⟨x, hx, e⟩))
            simp [this]
          rw [this]; exact sortL_nil
        · rw [if_neg c2] at h4; simp at h4
theorem seqs_rise {b : Memos} (h : MayOk b.l.l b.old.l) (ha : AboveS b) (w : Int) : (∀ x ∈ seqsP b.l.l w, floorP b.old.l w < x) ∧ (seqsP b.l.l w).Pairwise (fun a b => a < b) := by
  refine ⟨fun x hx => ?_, ?_⟩
  · unfold seqsP at hx
    rw [(sortL_perm _).mem_iff] at hx
    unfold seqL at hx
    obtain ⟨y, hy, rfl⟩ := List.mem_map.1 hx
    rw [List.mem_filter] at hy
    have := ha y hy.1
    have h2 : y.who = w := by simpa using hy.2
    rw [h2] at this; exact this
  · have hn : (seqL b.l.l w).Nodup := by
      have hk := h.keys
      unfold seqL
      generalize b.l.l = l at hk
      induction l with
      | nil => simp
      | cons x l ih =>
        rw [List.map_cons, List.nodup_cons] at hk
        rw [List.filter_cons]
        by_cases hx : x.who = w
        · simp only [hx, decide_true, if_true]
          rw [List.map_cons, List.nodup_cons]
          refine ⟨fun hm => ?_, ih hk.2⟩
          obtain ⟨y, hy, he⟩ := List.mem_map.1 hm
          rw [List.mem_filter] at hy
          have h2 : y.who = w := by simpa using hy.2
          exact hk.1 (List.mem_map.2 ⟨y, hy.1, by unfold mkey; rw [h2, hx, he]⟩)
        · simp only [hx, decide_false, Bool.false_eq_true, if_false]
          exact ih hk.2
    have hs : SrtI (seqsP b.l.l w) := sortL_srt _
    have hn2 : (seqsP b.l.l w).Nodup := (sortL_perm _).nodup_iff.2 hn
    exact (List.Pairwise.and hs hn2).imp (fun ⟨h1, h2⟩ => by omega)
theorem inner_loop (s : List Int) (w fl : Int) (G3 G4 : GV) (hfl : ∀ H, EvF tab 40 [.agg [.g G3, .g G4], I w] H = some ⟨I fl, [], []⟩) (h1 : ∀ x ∈ s, fl < x) (h2 : s.Pairwise (fun a b => a < b)) (hl : s.length ≤ 10000)
    (a0 a3 a4 : AV) (p8 : Nat) (P : List Blk) (hP : P[p8]? = some (.cells [.g G3, .g G4])) :
    loopE (EvF tab) [] L13_0 [0, 3, 4, 5, 8, 10, 11] ⟨[(0, a0), (3, a3), (4, a4), (5, I w), (8, .ptr p8 0), (10, .g (Ints.g (slOf s))), (11, I 0)], [], P⟩ =
      some (.exit 2, ⟨[(0, a0), (3, a3), (4, a4), (5, I w), (8, .ptr p8 0), (10, .g (Ints.g (slOf s))), (11, I s.length), (67, B false)], [], P⟩) := by
  have hlen : ∀ h st, lenV h st (.g (Ints.g (slOf s))) = some s.length := fun h st => by rw [lenV_Sl, slOf_l]
  refine loop_cnt s.length (fun k => ⟨[(0, a0), (3, a3), (4, a4), (5, I w), (8, .ptr p8 0), (10, .g (Ints.g (slOf s))), (11, I k)], [], P⟩) _ (by simp) (fun k hk => ?_) ?_
  · have e2 := wrap_succ hk (by omega)
    have hne : ¬ s = [] := fun e => by rw [e] at hk; simp at hk
    obtain ⟨x, hx⟩ : ∃ x, s[k] = x := ⟨_, rfl⟩
    have hfx : ¬ x ≤ fl := by have := h1 s[k] (List.getElem_mem hk); rw [hx] at this; omega
    have hlv : isLiveB P p8 = true := by unfold isLiveB; rw [hP]; rfl
    delta L13_0
    rw [show Ints.g (slOf s) = .sl 1 (s.map Ints.c) by unfold slOf; rw [if_neg hne]; rfl]
    cases k with
    | zero =>
      simp -implicitDefEqProofs [hk, hx, Ints.c, hP, hfl, hfx, hlv, show IntKind.i64.wrap 1 = 1 from rfl]
    | succ k =>
      have hk1 : k < s.length := by omega
      obtain ⟨y, hy⟩ : ∃ y, s[k] = y := ⟨_, rfl⟩
      have hxy : ¬ x ≤ y := by
        have := List.pairwise_iff_getElem.1 h2 k (k + 1) hk1 hk (by omega)
        rw [hx, hy] at this; omega
      have e3 : IntKind.i64.wrap (((k + 1 : Nat) : Int) - 1) = (k : Int) := by rw [wrap_i64 (by omega) (by omega)]; omega
      have e4 : (0 : Int) < ((k + 1 : Nat) : Int) := by omega
      have e5 : ((k : Int) + 1 < (s.length : Int)) := by omega
      have e6 : IntKind.i64.wrap (k : Int) = (k : Int) := wrap_i64 (by omega) (by omega)
      simp only [Int.natCast_add, Int.cast_ofNat_Int] at e2 e3 e4
      simp -implicitDefEqProofs [hk, hk1, hx, hy, Ints.c, hP, hfl, hfx, hxy, hlv, e2, e3, e4, e5, e6, show (0 : Int) ≤ (k : Int) + 1 by omega]
  · delta L13_0
    generalize Ints.g (slOf s) = G at hlen ⊢
    simp -implicitDefEqProofs [hlen]

theorem floors_loop (l : Sl (Int × Int)) (wl : ∀ y ∈ l.l, I64 y.1 ∧ I64 y.2) (hl : l.l.length ≤ 60) : ∃ b' o,
    loopE (EvF tab) [] L13_1 [0, 3, 4] ⟨[(0, .g (I2s.g l)), (3, .ptr 2 0), (4, I 0)], [], [.rows 11 1 [], .rows 2 1 [], .cells ((Memos.c ⟨.nil, .nil⟩).map .g)]⟩ =
      some (.exit 0, ⟨[(0, .g (I2s.g l)), (3, .ptr 2 0), (4, I l.l.length), (20, B false)], [], .rows 11 1 [] :: .rows 2 1 [] :: .cells ((Memos.c b').map .g) :: o⟩) := by
  have hw := loop_runJ (E := EvF tab) (h := []) (c := L13_1) (lv := [0, 3, 4]) (l := l.l) (β := Memos) (γ := Unit) (fun k b => FloI k b) (fun k x b => .inl (keepM b x.1 x.2 (rv9 k)))
    (fun k b o => ⟨[(0, .g (I2s.g l)), (3, .ptr 2 0), (4, I k)], [], .rows 11 1 [] :: .rows 2 1 [] :: .cells ((Memos.c b).map .g) :: o⟩)
    (fun b o => (.exit 0, ⟨[(0, .g (I2s.g l)), (3, .ptr 2 0), (4, I l.l.length), (20, B false)], [], .rows 11 1 [] :: .rows 2 1 [] :: .cells ((Memos.c b).map .g) :: o⟩))
    (fun _ o => (.ret, ⟨[], [], o⟩)) (by simp) (by simp) (fun k x b o hk hx hy hi => ?_) (fun _ o _ => by delta L13_1; simp -implicitDefEqProofs) ⟨.nil, .nil⟩ [] ?_
  · obtain ⟨o', hw⟩ := hw
    have hrun : ∀ (l : List (Int × Int)) (k : Nat) (b : Memos), ∃ b', runG (γ := Unit) (fun k (x : Int × Int) (b : Memos) => .inl (keepM b x.1 x.2 (rv9 k))) k l b = .inl b' := by
      intro l
      induction l with
      | nil => intro k b; exact ⟨b, rfl⟩
      | cons y l ih => intro k b; unfold runG; exact ih _ _
    obtain ⟨b', h1⟩ := hrun l.l 0 ⟨.nil, .nil⟩
    rw [h1] at hw
    exact ⟨b', o', by simpa only [endJ, Int.ofNat_zero, Int.cast_ofNat_Int] using hw⟩
  · have e2 := wrap_succ hk (by omega)
    have hxw := wl x (List.mem_of_getElem? hx)
    have hl2 := hi.len
    obtain ⟨hn, hfl, hfull⟩ := hi.next x.1 x.2 (rv9 k) hxw.1 hxw.2 (rv9_wf _ ⟨by omega, by omega⟩) (by omega)
    refine ⟨hn, ?_⟩
    have hl3 := hn.len
    have k1 := fun H => Keep_ev b x.1 x.2 (rv9 k) hi.wf (by omega) H
    have k2 := fun H => Floor_ev b x.1 (by omega) H
    have k3 := fun H => Seqs_ev b x.1 (by omega) H
    have k4 := fun H => Floor_ev (keepM b x.1 x.2 (rv9 k)) x.1 (by omega) H
    have k5 := fun H => Seqs_ev (keepM b x.1 x.2 (rv9 k)) x.1 (by omega) H
    have k6 := fun H => Whos_ev (keepM b x.1 x.2 (rv9 k)) hn.wf (by omega) H
    have k7 := fun H => MMay_ev (keepM b x.1 x.2 (rv9 k)) hn.wf (by omega) H
    rw [mayMe_iff.2 hn.may] at k7
    obtain ⟨r1, r2⟩ := seqs_rise hn.may hn.above x.1
    have r3 : (seqsP (keepM b x.1 x.2 (rv9 k)).l.l x.1).length ≤ 4 := by unfold seqsP; rw [sortL_len]; exact hn.may.cnt x.1
    have r4 := hn.may.whos
    have hlen1 : ∀ h st, lenV h st (.g (Ints.g (slOf (seqsP b.l.l x.1)))) = some (seqsP b.l.l x.1).length := fun h st => by rw [lenV_Sl, slOf_l]
    have hlen2 : ∀ h st, lenV h st (.g (Ints.g (slOf (seqsP (keepM b x.1 x.2 (rv9 k)).l.l x.1)))) = some (seqsP (keepM b x.1 x.2 (rv9 k)).l.l x.1).length := fun h st => by rw [lenV_Sl, slOf_l]
    have hlen3 : ∀ h st, lenV h st (.g (Ints.g (slOf (whosP (keepM b x.1 x.2 (rv9 k)).l.l (keepM b x.1 x.2 (rv9 k)).old.l)))) = some (whosP (keepM b x.1 x.2 (rv9 k)).l.l (keepM b x.1 x.2 (rv9 k)).old.l).length := fun h st => by rw [lenV_Sl, slOf_l]
    generalize keepM b x.1 x.2 (rv9 k) = b2 at hfl k1 k4 k5 k6 k7 r1 r2 r3 r4 hlen2 hlen3 ⊢
    generalize keepE b x.1 x.2 = ee at k1 hfull
    have hin := fun a0 a3 a4 P (hP : P[o.length + 3]? = some (Blk.cells [.g (MemoL.g b2.l), .g (Floors.g b2.old)])) => inner_loop (seqsP b2.l.l x.1) x.1 (floorP b2.old.l x.1) (MemoL.g b2.l) (Floors.g b2.old) k4 r1 r2 (by omega) a0 a3 a4 (o.length + 3) P hP
    have hin2 := fun a0 a3 a4 (c1 c2 c3 : Blk) => hin a0 a3 a4 (c1 :: c2 :: c3 :: (o ++ [Blk.cells [.g (MemoL.g b2.l), .g (Floors.g b2.old)]])) (by
      rw [show c1 :: c2 :: c3 :: (o ++ [Blk.cells [.g (MemoL.g b2.l), .g (Floors.g b2.old)]]) = (c1 :: c2 :: c3 :: o) ++ [Blk.cells [.g (MemoL.g b2.l), .g (Floors.g b2.old)]] from rfl, List.getElem?_append_right (by simp)]
      simp)
    generalize Ints.g (slOf (whosP b2.l.l b2.old.l)) = GW at k6 hlen3
    generalize Ints.g (slOf (seqsP b2.l.l x.1)) = GS at k5 hlen2 hin2
    generalize Ints.g (slOf (seqsP b.l.l x.1)) = GS0 at k3 hlen1
    generalize floorP b2.old.l x.1 = f2 at k4 hfl
    generalize floorP b.old.l x.1 = f1 at k2 hfl
    have r4I : ¬ (8 : Int) < ((whosP b2.l.l b2.old.l).length : Int) := by omega
    have r3I : ¬ (4 : Int) < ((seqsP b2.l.l x.1).length : Int) := by omega
    generalize (whosP b2.l.l b2.old.l).length = wn at hlen3 r4I
    generalize (seqsP b2.l.l x.1).length = sn at hlen2 hin2 r3I
    have hff : ¬ f2 < f1 := by omega
    have hhad : ee = 4 → ¬ (0 : Int) < ((seqsP b.l.l x.1).length : Int) := fun h => by rw [hfull h]; simp
    generalize (seqsP b.l.l x.1).length = s0 at hlen1 hhad
    clear hin hfull
    delta L13_1
    cases l with
    | nil => simp at hk
    | of l =>
      simp only [Sl.l_of] at hk hy hl
      obtain ⟨xw, xq⟩ := x
      simp only [A, Memos.c, rv9, Reply.c, List.map_cons, List.map_nil, Sl.g_nil, KVs.g, Evs.g] at k1 k2 k3 k4 k5 k6 k7 hin2 ⊢
      generalize MemoL.g b.l = G1 at k1 k2 k3 ⊢
      generalize Floors.g b.old = G2 at k1 k2 k3 ⊢
      generalize MemoL.g b2.l = G3 at k1 k4 k5 k6 k7 hin2 ⊢
      generalize Floors.g b2.old = G4 at k1 k4 k5 k6 k7 hin2 ⊢
      refine ⟨o ++ [.cells [.g G3, .g G4]], ?_⟩
      by_cases h4 : ee = 4
      · subst h4
        have hh := hhad rfl
        simp -implicitDefEqProofs [hk, hy, I2.c, k1, k2, k3, k4, k5, k6, k7, hin2, hlen1, hlen2, hlen3, hff, hh, r3I, r4I, e2, pends]
        omega
      · simp -implicitDefEqProofs [hk, hy, I2.c, k1, k2, k3, k4, k5, k6, k7, hin2, hlen1, hlen2, hlen3, hff, h4, r3I, r4I, e2, pends]
  · exact ⟨by simp [Memos.wf], ⟨by simp, by simp, by simp, by simp [seqL], by simp [whosP, whoL, onceL, sortL_nil]⟩, by simp, by simp [AboveS]⟩

theorem MemoFloors_law (x0 : Sl (Int × Int)) (w0 : (∀ y ∈ x0.l, I64 y.1 ∧ I64 y.2) ∧ x0.l.length ≤ 9223372036854775807) : EvF tab 13 [.g (I2s.g x0)] [] = some ⟨.g (.bool true), [], []⟩ := by
  refine EvF_walk t13 (by simp) ?_
  have hlen : ∀ h s, lenV h s (.g (I2s.g x0)) = some x0.l.length := fun h s => lenV_Sl ..
  by_cases hl : x0.l.length ≤ 60
  · have hlI : ¬ (60 : Int) < (x0.l.length : Int) := by omega
    obtain ⟨b', o, m1⟩ := floors_loop x0 w0.1 hl
    simp only [Memos.c, List.map_cons, List.map_nil, MemoL.g, Floors.g, Sl.g_nil] at m1
    generalize Sl.g 11 Memo.c b'.l = G6 at m1
    generalize Sl.g 2 Floor.c b'.old = G7 at m1
    generalize I2s.g x0 = G3 at hlen m1 ⊢
    simp -implicitDefEqProofs [live09, hlen, hlI, m1]
  · have hlI : (60 : Int) < (x0.l.length : Int) := by omega
    generalize I2s.g x0 = G3 at hlen ⊢
    simp -implicitDefEqProofs [live09, hlen, hlI]
end Go.Proofs.Ytibnbcljmfigfaa
