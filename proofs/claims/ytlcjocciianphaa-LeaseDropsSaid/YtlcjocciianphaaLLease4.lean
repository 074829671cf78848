/- The law LeaseDrops. -/
import Derived.Test.YtlcjocciianphaaLLive08
namespace Go.Proofs.Ytlcjocciianphaa
open Go Go.AM Go.Proofs
set_option maxRecDepth 4000
set_option linter.unusedSimpArgs false
set_option linter.unusedVariables false
def selD (a : Int) (c : Bool) (x : KV) : Bool := decide (a ≠ 0) && c && decide (x.lease = a)
theorem dropsS_sel (l : List KV) (a : Int) : dropsS l a = (l.filter (selD a true)).map dropM := by
  unfold dropsS
  by_cases h : a = 0
  · have : selD a true = fun _ => false := by funext x; simp [selD, h]
    rw [if_pos h, this]; simp
  · have : selD a true = dropP a := by funext x; simp [selD, dropP, h]
    rw [if_neg h, this]
theorem filter_at {p : KV → Bool} {l : List KV} {k : Nat} {x : KV} (hk : k < l.length) (hx : l[k] = x) (hp : p x = true) :
    ((l.filter p).map dropM)[((l.take k).filter p).length]? = some (dropM x) ∧ ((l.take (k + 1)).filter p).length = ((l.take k).filter p).length + 1 := by
  have e : l = l.take k ++ x :: l.drop (k + 1) := by rw [← hx]; simp
  constructor
  · have g : ∀ A B : List KV, (((A ++ x :: B).filter p).map dropM)[(A.filter p).length]? = some (dropM x) := by
      intro A B; simp [List.filter_append, List.filter_cons, hp]
    have := g (l.take k) (l.drop (k + 1))
    rwa [← e] at this
  · have e2 : l.take (k + 1) = l.take k ++ [x] := by rw [List.take_add_one, List.getElem?_eq_getElem hk, hx]; rfl
    rw [e2, List.filter_append]; simp [List.filter_cons, hp]
theorem filter_not {p : KV → Bool} {l : List KV} {k : Nat} {x : KV} (hk : k < l.length) (hx : l[k] = x) (hp : p x = false) :
    ((l.take (k + 1)).filter p).length = ((l.take k).filter p).length := by
  have e2 : l.take (k + 1) = l.take k ++ [x] := by rw [List.take_add_one, List.getElem?_eq_getElem hk, hx]; rfl
  rw [e2, List.filter_append]; simp [List.filter_cons, hp]
theorem slOf_some {α : Type} {l : List α} {n : Nat} {x : α} (h : l[n]? = some x) : slOf l = .of l ∧ ∃ (hn : n < l.length), l[n] = x := by
  obtain ⟨hn, hx⟩ := List.getElem?_eq_some_iff.1 h
  refine ⟨?_, hn, hx⟩
  unfold slOf; rw [if_neg]; intro h0; subst h0; simp at hn
theorem LeaseDrops_step (l : List KV) (a b : Int) (hl : l.length ≤ 9223372036854775807) (SA SB : Sl Mut) (nA nB nA' nB' k : Nat) (x : KV) (hk : k < l.length) (hy : l[k] = x)
    (hA : selD a true x = true → ∃ DA, SA = .of DA ∧ (∃ h : nA < DA.length, DA[nA] = dropM x) ∧ nA' = nA + 1) (hA0 : selD a true x = false → nA' = nA)
    (hB : selD b (decide (b ≠ a)) x = true → ∃ DB, SB = .of DB ∧ (∃ h : nB < DB.length, DB[nB] = dropM x) ∧ nB' = nB + 1) (hB0 : selD b (decide (b ≠ a)) x = false → nB' = nB)
    (wA : nA < 9223372036854775807) (wB : nB < 9223372036854775807) :
    kpN [0, 1, 2, 7, 8, 9, 10, 11] (evCode (EvF tab) [] L8_0 ⟨[(0, .g (KVs.g (.of l))), (1, I a), (2, I b), (7, .g (Muts.g SA)), (8, .g (Muts.g SB)), (9, I nA), (10, I nB), (11, I k)], [], []⟩) =
      some (.normal, ⟨[(0, .g (KVs.g (.of l))), (1, I a), (2, I b), (7, .g (Muts.g SA)), (8, .g (Muts.g SB)), (9, I nA'), (10, I nB'), (11, I (k + 1 : Nat))], [], []⟩) := by
  have e2 := wrap_succ hk hl
  have eA : IntKind.i64.wrap ((nA : Int) + 1) = (nA : Int) + 1 := wrap_i64 (by omega) (by omega)
  have eB : IntKind.i64.wrap ((nB : Int) + 1) = (nB : Int) + 1 := wrap_i64 (by omega) (by omega)
  delta L8_0
  by_cases ca : selD a true x = true
  · obtain ⟨DA, rfl, ⟨ha1, ha2⟩, rfl⟩ := hA ca
    obtain ⟨ca1, ca2⟩ : a ≠ 0 ∧ x.lease = a := by simpa [selD] using ca
    by_cases cb : selD b (decide (b ≠ a)) x = true
    · exfalso
      have : (b ≠ 0 ∧ b ≠ a) ∧ x.lease = b := by simpa [selD] using cb
      omega
    · rw [hB0 (Bool.eq_false_iff.2 cb)]
      by_cases c1 : b = 0
      · simp -implicitDefEqProofs [hk, hy, KV.c, Mut.c, dropM, ca1, ca2, ha1, ha2, e2, eA, eB, c1]
      · by_cases c2 : b = a
        · subst c2; simp -implicitDefEqProofs [hk, hy, KV.c, Mut.c, dropM, ca1, ca2, ha1, ha2, e2, eA, eB, c1]
        · simp -implicitDefEqProofs [hk, hy, KV.c, Mut.c, dropM, ca1, ca2, ha1, ha2, e2, eA, eB, c1, c2, show ¬ a = b by omega]
  · rw [hA0 (Bool.eq_false_iff.2 ca)]
    have cc : a = 0 ∨ x.lease ≠ a := by
      by_cases h : a = 0
      · exact .inl h
      · right; intro h2; exact ca (by simp [selD, h, h2])
    by_cases cb : selD b (decide (b ≠ a)) x = true
    · obtain ⟨DB, rfl, ⟨hb1, hb2⟩, rfl⟩ := hB cb
      obtain ⟨⟨cb1, cb2⟩, cb3⟩ : (b ≠ 0 ∧ b ≠ a) ∧ x.lease = b := by simpa [selD] using cb
      by_cases c1 : a = 0
      · simp -implicitDefEqProofs [hk, hy, KV.c, Mut.c, dropM, hb1, hb2, e2, eA, eB, c1, cb1, cb2, cb3]
      · simp -implicitDefEqProofs [hk, hy, KV.c, Mut.c, dropM, hb1, hb2, e2, eA, eB, c1, cb1, cb2, cb3]
    · rw [hB0 (Bool.eq_false_iff.2 cb)]
      have cd : b = 0 ∨ (b ≠ 0 ∧ b = a) ∨ (b ≠ 0 ∧ b ≠ a ∧ x.lease ≠ b) := by
        by_cases h : b = 0
        · exact .inl h
        · by_cases h2 : b = a
          · exact .inr (.inl ⟨h, h2⟩)
          · exact .inr (.inr ⟨h, h2, fun h3 => cb (by simp [selD, h, h2, h3])⟩)
      rcases cc with c1 | c1
      · rcases cd with d1 | ⟨d1, d2⟩ | ⟨d1, d2, d3⟩
        · simp -implicitDefEqProofs [hk, hy, KV.c, Mut.c, dropM, e2, c1, d1]
        · omega
        · subst c1; simp -implicitDefEqProofs [hk, hy, KV.c, Mut.c, dropM, e2, d1, d2, d3]
      · by_cases c2 : a = 0
        · subst c2
          rcases cd with d1 | ⟨d1, d2⟩ | ⟨d1, d2, d3⟩
          · simp -implicitDefEqProofs [hk, hy, KV.c, Mut.c, dropM, e2, c1, d1]
          · omega
          · simp -implicitDefEqProofs [hk, hy, KV.c, Mut.c, dropM, e2, d1, d2, d3]
        · rcases cd with d1 | ⟨d1, d2⟩ | ⟨d1, d2, d3⟩
          · simp -implicitDefEqProofs [hk, hy, KV.c, Mut.c, dropM, e2, c1, c2, d1]
          · subst d2; simp -implicitDefEqProofs [hk, hy, KV.c, Mut.c, dropM, e2, c1, c2, d1]
          · simp -implicitDefEqProofs [hk, hy, KV.c, Mut.c, dropM, e2, c1, c2, d1, d2, d3]
theorem LeaseDrops_law (kvs : KVs) (a b : Int) (hk : (∀ y ∈ kvs.l, y.wf) ∧ kvs.l.length ≤ 9223372036854775807) (ha : I64 a) (hb : I64 b) : EvF tab 8 [.g (KVs.g kvs), I a, I b] [] = some ⟨.g (.bool true), [], []⟩ := by
  refine EvF_walk t8 (by simp) ?_
  have b1 := fun H => Few_ev kvs hk.2 40 H
  cases hf : (decide ((kvs.l.length : Int) ≤ 40) && allP shortKV kvs.l) <;> rw [hf] at b1
  · simp -implicitDefEqProofs [b1, live08]
  simp only [Bool.and_eq_true, decide_eq_true_eq] at hf
  have hlen : kvs.l.length ≤ 40 := by omega
  have m1 := fun H => Drops_ev kvs a (by omega) H
  have m2 := fun H => Drops_ev kvs b (by omega) H
  rw [dropsS_sel] at m1 m2
  have hw : loopE (EvF tab) [] L8_0 [0, 1, 2, 7, 8, 9, 10, 11] ⟨[(0, .g (KVs.g kvs)), (1, I a), (2, I b), (7, .g (Muts.g (slOf ((kvs.l.filter (selD a true)).map dropM)))), (8, .g (Muts.g (slOf ((kvs.l.filter (selD b true)).map dropM)))), (9, I (((kvs.l.take 0).filter (selD a true)).length : Nat)), (10, I (((kvs.l.take 0).filter (selD b (decide (b ≠ a)))).length : Nat)), (11, I (0 : Nat))], [], []⟩ =
      some (.exit 0, ⟨[(0, .g (KVs.g kvs)), (1, I a), (2, I b), (7, .g (Muts.g (slOf ((kvs.l.filter (selD a true)).map dropM)))), (8, .g (Muts.g (slOf ((kvs.l.filter (selD b true)).map dropM)))), (9, I (((kvs.l.take kvs.l.length).filter (selD a true)).length : Nat)), (10, I (((kvs.l.take kvs.l.length).filter (selD b (decide (b ≠ a)))).length : Nat)), (11, I (kvs.l.length : Nat)), (25, B false)], [], []⟩) := by
    refine loop_cnt kvs.l.length (fun k => ⟨[(0, .g (KVs.g kvs)), (1, I a), (2, I b), (7, .g (Muts.g (slOf ((kvs.l.filter (selD a true)).map dropM)))), (8, .g (Muts.g (slOf ((kvs.l.filter (selD b true)).map dropM)))), (9, I (((kvs.l.take k).filter (selD a true)).length : Nat)), (10, I (((kvs.l.take k).filter (selD b (decide (b ≠ a)))).length : Nat)), (11, I k)], [], []⟩) _ (by simp) (fun k hk2 => ?_) ?_
    · cases kvs with
      | nil => simp at hk2
      | of l =>
        simp only [Sl.l_of] at hk2 hlen ⊢
        obtain ⟨x, hx⟩ : ∃ x, l[k] = x := ⟨_, rfl⟩
        have f1 : ((l.take k).filter (selD a true)).length ≤ k := Nat.le_trans (List.length_filter_le _ _) (List.length_take_le k l)
        have f2 : ((l.take k).filter (selD b (decide (b ≠ a)))).length ≤ k := Nat.le_trans (List.length_filter_le _ _) (List.length_take_le k l)
        refine LeaseDrops_step l a b (by omega) _ _ _ _ _ _ k x hk2 hx (fun h => ?_) (fun h => filter_not hk2 hx h) (fun h => ?_) (fun h => filter_not hk2 hx h) (by omega) (by omega)
        · obtain ⟨h1, h2⟩ := filter_at hk2 hx h
          obtain ⟨h3, h4⟩ := slOf_some h1
          exact ⟨_, h3, h4, h2⟩
        · have hba : b ≠ a := by
            intro h0; simp [selD, h0] at h
          have hd : decide (b ≠ a) = true := by simpa using hba
          rw [hd] at h ⊢
          obtain ⟨h1, h2⟩ := filter_at hk2 hx h
          obtain ⟨h3, h4⟩ := slOf_some h1
          exact ⟨_, h3, h4, h2⟩
    · delta L8_0
      cases kvs <;> simp -implicitDefEqProofs
  simp only [List.take_zero, List.filter_nil, List.length_nil, List.take_length, Int.ofNat_zero, Int.cast_ofNat_Int] at hw
  have q1 : (slOf ((kvs.l.filter (selD a true)).map dropM)).l.length = (kvs.l.filter (selD a true)).length := by rw [slOf_l, List.length_map]
  have q2 : b ≠ a → (slOf ((kvs.l.filter (selD b true)).map dropM)).l.length = (kvs.l.filter (selD b (decide (b ≠ a)))).length := by
    intro h; rw [slOf_l, List.length_map, show decide (b ≠ a) = true by simpa using h]
  obtain ⟨SA, eA⟩ : ∃ S, slOf ((kvs.l.filter (selD a true)).map dropM) = S := ⟨_, rfl⟩
  obtain ⟨SB, eB⟩ : ∃ S, slOf ((kvs.l.filter (selD b true)).map dropM) = S := ⟨_, rfl⟩
  obtain ⟨NA, eNA⟩ : ∃ S, (kvs.l.filter (selD a true)).length = S := ⟨_, rfl⟩
  obtain ⟨NB, eNB⟩ : ∃ S, (kvs.l.filter (selD b (decide (b ≠ a)))).length = S := ⟨_, rfl⟩
  rw [eA] at m1 q1 hw
  rw [eB] at m2 q2 hw
  rw [eNA] at q1 hw
  rw [eNB] at q2 hw
  subst q1
  by_cases hab : a = b
  · clear eNB q2
    subst hab
    obtain rfl : SA = SB := eA.symm.trans eB
    by_cases hq : (NB : Int) = SA.l.length
    · simp -implicitDefEqProofs [b1, m1, m2, hw, hq, live08, lenV_Sl]
    · simp -implicitDefEqProofs [b1, m1, m2, hw, hq, live08, lenV_Sl]
  · have := q2 (fun h => hab h.symm)
    subst this
    simp -implicitDefEqProofs [b1, m1, m2, hw, hab, live08, lenV_Sl]
end Go.Proofs.Ytlcjocciianphaa
