/- Events compared with a row that was made here; keys of a prefix; and what events of a prefix make of keys of that prefix. -/
import Derived.Test.YtibnbcljmfigfaaLLive07
namespace Go.Proofs.Ytibnbcljmfigfaa
open Go Go.AM Go.Proofs
set_option maxRecDepth 20000
set_option maxHeartbeats 2000000
set_option linter.unusedSimpArgs false
set_option linter.unusedVariables false
theorem EventsM_ev (a : Sl Ev) (l : List Ev) (hab : a.l = l) (hl : l.length ≤ 9223372036854775807) {H : List Blk} {id g : Nat} (hid : H[id]? = some (.rows 8 g (l.map Ev.c))) :
    EvF tab 18 [.g (Evs.g a), .ms id g 8 0 l.length] H = some ⟨B true, [], []⟩ := by
  have hlt : id < H.length := (List.getElem?_eq_some_iff.1 hid).1
  have hidg : H[id] = .rows 8 g (l.map Ev.c) := (List.getElem?_eq_some_iff.1 hid).2
  have hlv : isLiveB H id = true := by unfold isLiveB; rw [hid]; rfl
  have hw : loopE (EvF tab) H L18_0 [0, 1, 5] ⟨[(0, .g (Evs.g a)), (1, .ms id g 8 0 l.length), (5, I 0)], [], []⟩ = some (.exit 0, ⟨[(0, .g (Evs.g a)), (1, .ms id g 8 0 l.length), (5, I l.length), (14, B false)], [], []⟩) := by
    refine loop_cnt l.length (fun k => ⟨[(0, .g (Evs.g a)), (1, .ms id g 8 0 l.length), (5, I k)], [], []⟩) _ (by simp) (fun k hk => ?_) ?_
    · delta L18_0
      have e2 := wrap_succ hk hl
      cases a with
      | nil => simp only [Sl.l_nil] at hab; subst hab; simp at hk
      | of l2 =>
        simp only [Sl.l_of] at hab
        subst hab
        obtain ⟨x, hx⟩ : ∃ x, l2[k] = x := ⟨_, rfl⟩
        simp -implicitDefEqProofs [hk, hx, Ev.c, e2, getB_old hlt, orB, hid, hidg, hlv]
    · delta L18_0
      cases a with
      | nil => simp only [Sl.l_nil] at hab; subst hab; simp -implicitDefEqProofs [getB_old hlt, orB, hid, hidg, hlv]
      | of l2 => simp only [Sl.l_of] at hab; subst hab; simp -implicitDefEqProofs [getB_old hlt, orB, hid, hidg, hlv]
  refine EvF_walk t18 (by simp) ?_
  cases a with
  | nil => simp only [Sl.l_nil] at hab; subst hab; simp only [Sl.g_nil, List.length_nil, Int.ofNat_zero, Int.cast_ofNat_Int] at hw; simp -implicitDefEqProofs [hw, getB_old hlt, orB, hid, hidg, hlv]
  | of l2 => simp only [Sl.l_of] at hab; subst hab; simp only [Sl.g_of] at hw; simp -implicitDefEqProofs [hw, getB_old hlt, orB, hid, hidg, hlv]
def fromP (l : List KV) (p : Bs) : List KV := l.filter fun x => preP p x.key
theorem From_ev (s : Sl KV) (p : Bs) (hl : s.l.length ≤ 1000000) (H : List Blk) : EvF tab 28 [.g (KVs.g s), T p] H = some ⟨.g (KVs.g (slOf (fromP s.l p))), [], []⟩ := by
  refine EvF_walk t28 (by simp) ?_
  have hw := loop_runJ (E := EvF tab) (h := H) (c := L28_0) (lv := [0, 1, 5, 6]) (l := s.l) (β := List KV) (γ := Nat) (fun k r => r.length ≤ k) (fun _ x r => if (fun x : KV => preP p x.key) x = true then .inl (r ++ [x]) else .inl r)
    (fun k r o => ⟨[(0, .g (KVs.g s)), (1, T p), (5, .ms (H.length + 1) (r.length + 1) 6 0 r.length), (6, I k)], [], [.rows 6 1 [], .rows 6 (r.length + 1) (r.map KV.c)]⟩)
    (fun r o => (.exit 0, ⟨[(0, .g (KVs.g s)), (1, T p), (5, .ms (H.length + 1) (r.length + 1) 6 0 r.length), (6, I s.l.length), (10, B false)], [], [.rows 6 1 [], .rows 6 (r.length + 1) (r.map KV.c)]⟩))
    (fun _ o => (.ret, ⟨[], [], o⟩)) (by simp) (by simp) (fun k x r o hk hx hy hi => ?_) (fun r o _ => by delta L28_0; simp -implicitDefEqProofs) [] [] (by simp)
  · obtain ⟨o', hw⟩ := hw
    rw [runG_filterI] at hw
    simp only [endJ, List.nil_append, List.map_nil, List.length_nil, Int.ofNat_zero, Int.cast_ofNat_Int, Nat.zero_add] at hw
    rw [show (s.l.filter fun x => preP p x.key) = fromP s.l p from rfl] at hw
    obtain ⟨r, hr⟩ : ∃ r, fromP s.l p = r := ⟨_, rfl⟩
    rw [hr] at hw ⊢
    cases r with
    | nil => simp -implicitDefEqProofs [hw, slOf]
    | cons y r =>
      have e1 : List.take r.length (List.map KV.c r) = List.map KV.c r := List.take_of_length_le (by simp)
      simp -implicitDefEqProofs [hw, slOf, e1]
  · have e2 := wrap_succ hk (by omega)
    delta L28_0
    cases s with
    | nil => simp at hk
    | of l =>
      simp only [Sl.l_of] at hk hy hl
      have e3 : List.take r.length (List.map KV.c r) = List.map KV.c r := List.take_of_length_le (by simp)
      obtain ⟨k1, k2, k3, k4, k5, k6⟩ := x
      simp only
      unfold preP
      by_cases h1 : p.length ≤ k1.length
      · by_cases h2 : List.take p.length k1 = p
        · simp only [h1, h2, decide_true, beq_self_eq_true, Bool.and_self, if_true]
          refine ⟨by simp; omega, o, ?_⟩
          simp -implicitDefEqProofs [hk, hy, KV.c, h1, h2, e2, appV, room, Nat.not_succ_le_self, chunk, cutB, bnd, intOfA, show r.length + 1 ≤ 140737488355328 by omega, show (r.length + 1) * 64 ≤ 140737488355328 by omega, e3]
        · have hb : (List.take p.length k1 == p) = false := by simpa using h2
          simp only [h1, hb, decide_true, Bool.and_false, Bool.false_eq_true, if_false]
          refine ⟨by omega, o, ?_⟩
          simp -implicitDefEqProofs [hk, hy, KV.c, h1, h2, e2, cutB, bnd, intOfA]
      · simp only [h1, decide_false, Bool.false_and, Bool.false_eq_true, if_false]
        refine ⟨by omega, o, ?_⟩
        simp -implicitDefEqProofs [hk, hy, KV.c, h1, e2]
theorem fromP_srt {l : List KV} (h : Srt l) (p : Bs) : Srt (fromP l p) := List.Pairwise.sublist List.filter_sublist h
theorem fromP_get (p k : Bs) : ∀ (l : List KV), getK (fromP l p) k = if preP p k = true then getK l k else none
  | [] => by simp [fromP, getK]
  | x :: l => by
    have ih := fromP_get p k l
    unfold fromP at ih ⊢
    rw [List.filter_cons]
    by_cases hx : preP p x.key = true
    · rw [if_pos hx]
      rw [show getK (x :: l.filter fun x => preP p x.key) k = if x.key = k then some x else getK (l.filter fun x => preP p x.key) k from rfl, ih, show getK (x :: l) k = if x.key = k then some x else getK l k from rfl]
      by_cases hk : x.key = k
      · subst hk; rw [if_pos rfl, if_pos hx, if_pos rfl]
      · rw [if_neg hk, if_neg hk]
    · rw [if_neg hx, ih, show getK (x :: l) k = if x.key = k then some x else getK l k from rfl]
      by_cases hk : x.key = k
      · subst hk; rw [if_neg hx, if_neg hx]
      · rw [if_neg hk]
theorem srt_eq {l m : List KV} (hl : Srt l) (hm : Srt m) (h : ∀ k, getK l k = getK m k) : l = m := by
  have := srt_ext (fun x => x) (fun a b e => by rw [e]) hl hm (fun k => by rw [h k])
  simpa using this
theorem fromP_act {l : List KV} (h : Srt l) (p : Bs) (e : Ev) : fromP (actP l e) p = if preP p e.kv.key = true then actP (fromP l p) e else fromP l p := by
  by_cases hp : preP p e.kv.key = true
  · rw [if_pos hp]
    refine srt_eq (fromP_srt (actP_srt e h) p) (actP_srt e (fromP_srt h p)) fun k => ?_
    rw [fromP_get, actP_get e k h, actP_get e k (fromP_srt h p), fromP_get]
    by_cases hk : k = e.kv.key
    · subst hk; rw [if_pos hp, if_pos rfl, if_pos rfl]
    · rw [if_neg hk, if_neg hk]
  · rw [if_neg hp]
    refine srt_eq (fromP_srt (actP_srt e h) p) (fromP_srt h p) fun k => ?_
    rw [fromP_get, fromP_get, actP_get e k h]
    by_cases hk : k = e.kv.key
    · subst hk; rw [if_neg hp, if_neg hp]
    · rw [if_neg hk]
theorem fromP_fold (p : Bs) : ∀ (b : List Ev) (l : List KV), Srt l → (b.filter fun e => preP p e.kv.key).foldl actP (fromP l p) = fromP (b.foldl actP l) p
  | [], l, _ => rfl
  | e :: b, l, h => by
    rw [List.foldl_cons, ← fromP_fold p b (actP l e) (actP_srt e h), fromP_act h, List.filter_cons]
    by_cases hp : preP p e.kv.key = true
    · rw [if_pos hp, if_pos hp]; rfl
    · rw [if_neg hp, if_neg hp]
theorem actP_len (b : List Ev) (l : List KV) : (b.foldl actP l).length ≤ l.length + b.length := by
  induction b generalizing l with
  | nil => simp
  | cons x e ih =>
    rw [List.foldl_cons]
    have h1 := ih (actP l x)
    have h2 := stepP_len x.rev l x
    rw [stepP_le (Int.le_refl _)] at h2
    simp only [List.length_cons]; omega
def I3.c (x : Int × Int × Int) : List GV := [.int .i64 x.1, .int .i64 x.2.1, .int .i64 x.2.2]
theorem ti3_inv {gs : List GV} (h : HasTy (.p (.i .i64) (.p (.i .i64) (.p (.i .i64) .u))) gs) : ∃ x : Int × Int × Int, (I64 x.1 ∧ I64 x.2.1 ∧ I64 x.2.2) ∧ gs = I3.c x := by
  obtain ⟨_, _, rfl, ⟨a, rfl, ha⟩, _, _, rfl, ⟨b, rfl, hb⟩, _, _, rfl, ⟨c, rfl, hc⟩, rfl⟩ := h
  exact ⟨(a, b, c), ⟨ha, hb, hc⟩, rfl⟩
end Go.Proofs.Ytibnbcljmfigfaa
