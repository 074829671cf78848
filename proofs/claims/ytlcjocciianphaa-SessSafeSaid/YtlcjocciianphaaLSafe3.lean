/- The law SessSafe. -/
import Derived.Test.YtlcjocciianphaaLSafe2
namespace Go.Proofs.Ytlcjocciianphaa
open Go Go.AM Go.Proofs
set_option maxRecDepth 4000
set_option linter.unusedSimpArgs false
set_option linter.unusedVariables false
theorem tl_ev (c0 c1 ttl : Int) (st : Sl Lease) (is : Bool) (k : Nat) (b : S14) (o : List Blk) (h1 : 1 ≤ ttl ∧ ttl ≤ 1000) {k' : Int} (hb : Ok14 ttl k' b) :
    ∃ o', evCode (EvF tab) [] (pTL L14_1) ⟨tmps st is b k, [], blkS c0 c1 ttl b o⟩ = some (.normal, ⟨tmps st is (stB b) k, [], blkS c0 c1 ttl (stB b) o'⟩) := by
  have hsafe := fun h => ok_safe h1.1 h1.2 hb h
  obtain ⟨mine, theirs, p, T, ⟨sa, sb, sc, sd⟩, sent, dn, rp⟩ := b
  simp only at hsafe
  have al := fun H => Alive_at sa sb sc sd mine H
  have g1 := fun H => Due1_ev ttl T theirs H
  have g0 := fun H => Due0_ev theirs H
  delta L14_1
  simp only [pTL, tmps, blkS]
  obtain ⟨q, hq⟩ : ∃ q, (!decide (sa = 0) && decide (mine < sc)) = q := ⟨_, rfl⟩
  rw [hq] at al hsafe
  by_cases hd : T ≤ theirs
  · rw [hsafe hd] at al
    cases p
    · refine ⟨o, ?_⟩
      cases is <;> simp -implicitDefEqProofs [lsl_false, g0, al, inner0, stB, hd]
    · refine ⟨o ++ [.cells [I 1, .g .nsl]], ?_⟩
      simp only [if_pos hd] at g1
      cases is <;> simp -implicitDefEqProofs [lsl_true, lsl_false, Lease.c, g1, al, inner1, stB, hd]
  · cases p
    · refine ⟨o, ?_⟩
      cases is <;> cases q <;> simp -implicitDefEqProofs [lsl_false, g0, al, inner0, stB, hd]
    · refine ⟨o, ?_⟩
      simp only [if_neg hd] at g1
      cases is <;> cases q <;> simp -implicitDefEqProofs [lsl_true, Lease.c, g1, al, inner0, stB, hd]
theorem c_ev (l : List Lease) (is : Bool) (k : Nat) (b : S14) (o : List Blk) (hk : k < l.length) :
    evCode (EvF tab) [] (pC L14_1) ⟨tmps (.of l) is b k, [], o⟩ = some (.normal, ⟨tmps (.of l) is b k, [], o⟩) := by
  delta L14_1
  simp only [pC, tmps]
  simp -implicitDefEqProofs [hk]
theorem i_ev (st : Sl Lease) (is : Bool) (k : Nat) (b : S14) (o : List Blk) (hk : k ≤ 200) :
    evCode (EvF tab) [] (pI L14_1) ⟨tmps st is b k, [], o⟩ = some (.normal, ⟨tmps st is b (k + 1), [], o⟩) := by
  have e2 : IntKind.i64.wrap ((k : Int) + 1) = (k : Int) + 1 := wrap_i64 (by omega) (by omega)
  delta L14_1
  simp only [pI, tmps]
  simp -implicitDefEqProofs [e2]
theorem step_ev (c0 c1 ttl : Int) (l : List Lease) (is : Bool) (k : Nat) (x : Lease) (b : S14) (o : List Blk) (hk : k < l.length) (hy : l[k] = x) (hl : l.length ≤ 200) (h1 : 1 ≤ ttl ∧ ttl ≤ 1000) (hb : Ok14 ttl k b) :
    Ok14 ttl ((k + 1 : Nat) : Int) (stB (stA ttl x b)) ∧ ∃ o', kpN [2, 7, 8, 9, 10, 12, 13, 14, 15, 16, 17] (evCode (EvF tab) [] L14_1 ⟨tmps (.of l) is b k, [], blkS c0 c1 ttl b o⟩) =
      some (.normal, ⟨tmps (.of l) is (stB (stA ttl x b)) (k + 1), [], blkS c0 c1 ttl (stB (stA ttl x b)) o'⟩) := by
  have hA := okA h1.1 h1.2 hb ⟨by omega, by omega⟩ x
  have hB := okB hA
  obtain ⟨o1, e1⟩ := sw_ev c0 c1 ttl l is k x b o hk hy (by omega) h1 hb
  obtain ⟨o2, e2⟩ := tl_ev c0 c1 ttl (.of l) is k (stA ttl x b) o1 h1 hA
  refine ⟨by rw [show ((k + 1 : Nat) : Int) = (k : Int) + 1 by omega]; exact hB, o2, ?_⟩
  rw [show evCode (EvF tab) [] L14_1 = evCode (EvF tab) [] (.seq (pC L14_1) (.seq (.block [2, 7, 8, 9, 10, 12, 13, 14, 15, 16, 17] 1 (.seq (pSW L14_1) (pTL L14_1))) (pI L14_1))) from rfl]
  have e3 := c_ev l is k b (blkS c0 c1 ttl b o) hk
  have e4 := i_ev (.of l) is k (stB (stA ttl x b)) (blkS c0 c1 ttl (stB (stA ttl x b)) o2) (by omega)
  have e5 : ∀ b : S14, ∀ k : Nat, ∀ o, (⟨tmps (.of l) is b k, [], o⟩ : St).kp [2, 7, 8, 9, 10, 12, 13, 14, 15, 16, 17] = ⟨tmps (.of l) is b k, [], o⟩ := fun b k o => by
    simp only [tmps]; simp
  rw [evCode_seq, e3]
  show kpN _ (evCode _ _ _ _) = _
  rw [evCode_seq, evCode_block, evCode_seq, e1]
  show kpN _ (sk (bk _ _ (evCode _ _ _ _)) _) = _
  rw [e2]
  show kpN _ (sk (some (.normal, _)) _) = _
  rw [e5]
  show kpN _ (evCode _ _ _ _) = _
  rw [e4]
  show some (Ex.normal, St.kp _ _) = _
  rw [e5]
theorem Grant0_ev (ttl now : Int) (H : List Blk) (h : 1 ≤ ttl ∧ ttl ≤ 1000) (hn : timeOk now = true) : EvF tab 17 [.agg [I 0, .g .nsl], I ttl, I now] H = some ⟨.tup [.agg [I 1, .g (.sl 3 [[.int .i64 1, .int .i64 ttl, .int .i64 (now + ttl)]])], I 1, I 0], [], []⟩ := by
  have := Grant_ev ⟨0, .nil⟩ ttl now (may_wf rfl) H
  have g : grantOk ⟨0, .nil⟩ ttl now = 0 := grantOk_0.2 ⟨⟨h.1, h.2, hn⟩, by simp⟩
  simp only [grantS, grantI, g, if_true] at this
  exact this
theorem GrantX_ev (ttl now : Int) (H : List Blk) (h : ¬ (1 ≤ ttl ∧ ttl ≤ 1000)) : EvF tab 17 [.agg [I 0, .g .nsl], I ttl, I now] H = some ⟨.tup [.agg [I 0, .g .nsl], I 0, I 1], [], []⟩ := by
  have := Grant_ev ⟨0, .nil⟩ ttl now (may_wf rfl) H
  have g : grantOk ⟨0, .nil⟩ ttl now = 1 := by unfold grantOk; rw [if_neg]; intro h'; exact h ⟨h'.1, h'.2.1⟩
  simp only [grantS, grantI, g, show ¬ (1 : Int) = 0 by decide, if_false] at this
  exact this
theorem steps_inv {gs : List GV} (h : HasTy (.sl 3 tLease) gs) : ∃ s : Sl Lease, ((∀ y ∈ s.l, y.wf) ∧ s.l.length ≤ 9223372036854775807) ∧ gs = [LeaseL.g s] := by
  obtain ⟨k, k1, k2, rfl⟩ := h.sl_inv (fun _ => Lease.inv)
  exact ⟨k, ⟨k1, k2⟩, rfl⟩
theorem runG_inv {α β γ : Type} (P : Nat → β → Prop) (f : α → β → β) (hf : ∀ k x b, P k b → P (k + 1) (f x b)) : ∀ (l : List α) k b, P k b → ∃ b', runG (fun _ x b => (.inl (f x b) : β ⊕ γ)) k l b = .inl b' := by
  intro l
  induction l with
  | nil => intro k b _; exact ⟨b, rfl⟩
  | cons x l ih => intro k b h; simp only [runG]; exact ih _ _ (hf _ _ _ h)
theorem SessSafe_law (ttl : Int) (cl : Int × Int) (steps : Sl Lease) (ht : I64 ttl) (hc : I64 cl.1 ∧ I64 cl.2) (hs : (∀ y ∈ steps.l, y.wf) ∧ steps.l.length ≤ 9223372036854775807) : EvF tab 14 [I ttl, A (I2.c cl), .g (LeaseL.g steps)] [] = some ⟨.g (.bool true), [], []⟩ := by
  refine EvF_walk t14 (by simp) ?_
  obtain ⟨c0, c1⟩ := cl
  by_cases g1 : steps.l.length ≤ 200
  case neg => cases steps <;> simp at g1 <;> simp -implicitDefEqProofs [A, I2.c, g1, show ∀ n : Nat, 200 < n → (200 : Int) < n from fun n h => by omega, live14]
  have g1' : ¬ (200 : Int) < steps.l.length := by omega
  by_cases g2 : c0 < 0
  · simp -implicitDefEqProofs [A, I2.c, g1', g2, live14, lenV_Sl]
  by_cases g3 : 274877906944 < c0
  · simp -implicitDefEqProofs [A, I2.c, g1', g2, g3, live14, lenV_Sl]
  by_cases g4 : c1 < 0
  · simp -implicitDefEqProofs [A, I2.c, g1', g2, g3, g4, live14, lenV_Sl]
  by_cases g5 : 274877906944 < c1
  · simp -implicitDefEqProofs [A, I2.c, g1', g2, g3, g4, g5, live14, lenV_Sl]
  by_cases h1 : 1 ≤ ttl ∧ ttl ≤ 1000
  case neg =>
    have m1 := fun H => GrantX_ev ttl c1 H h1
    simp -implicitDefEqProofs [A, I2.c, g1', g2, g3, g4, g5, m1, live14, lenV_Sl]
  have tk : timeOk c1 = true := timeOk_iff.2 ⟨by omega, by omega⟩
  have m1 := fun H => Grant0_ev ttl c1 H h1 tk
  have m2 := fun H => Begin_ev c0 ⟨0, 0, 0, 0, 1, ttl, false, .nil, .nil⟩ H
  obtain ⟨is, eis⟩ : ∃ x, beginOk c0 ⟨0, 0, 0, 0, 1, ttl, false, .nil, .nil⟩ = x := ⟨_, rfl⟩
  have hS : (beginS c0 ⟨0, 0, 0, 0, 1, ttl, false, .nil, .nil⟩).lease = 0 ∨ ((beginS c0 ⟨0, 0, 0, 0, 1, ttl, false, .nil, .nil⟩).lease = 1 ∧ (beginS c0 ⟨0, 0, 0, 0, 1, ttl, false, .nil, .nil⟩).ttl = ttl ∧ (beginS c0 ⟨0, 0, 0, 0, 1, ttl, false, .nil, .nil⟩).till = c0 + safeN ttl) := by
    unfold beginS; split <;> simp
  obtain ⟨S, eS⟩ : ∃ x, beginS c0 ⟨0, 0, 0, 0, 1, ttl, false, .nil, .nil⟩ = x := ⟨_, rfl⟩
  rw [eis, eS] at m2
  rw [eS] at hS
  clear eis eS
  have ok0 : Ok14 ttl ((0 : Nat) : Int) ⟨c0, c1, true, c1 + ttl, S, -1, false, none⟩ :=
    ⟨by simp only; omega, by simp only; omega, by simp only; omega, by simp only; omega, by simp only; omega, by simp only; omega, by simp only; omega, by simp only; omega, by
      simp only
      rcases hS with h | ⟨h, h', h''⟩
      · exact .inl h
      · exact .inr ⟨h, h', by omega⟩, fun h => by simp at h⟩
  have hw := loop_runJ (E := EvF tab) (h := []) (c := L14_1) (lv := [2, 7, 8, 9, 10, 12, 13, 14, 15, 16, 17]) (l := steps.l) (β := S14) (γ := Unit)
    (fun k b => Ok14 ttl k b) (fun _ x b => .inl (stB (stA ttl x b)))
    (fun k b o => ⟨tmps steps is b k, [], blkS c0 c1 ttl b o⟩)
    (fun b o => (.exit 0, ⟨tmps steps is b steps.l.length ++ [(79, B false)], [], blkS c0 c1 ttl b o⟩))
    (fun _ o => (.ret, ⟨[], [], o⟩)) (by simp) (by simp) (fun k x b o hk hx hy hi => by
      cases steps with
      | nil => simp at hk
      | of l => exact step_ev c0 c1 ttl l is k x b o hk hy g1 h1 hi)
    (fun b o _ => by
      simp only [tmps]
      delta L14_1
      cases steps <;> simp -implicitDefEqProofs) ⟨c0, c1, true, c1 + ttl, S, -1, false, none⟩ [] ok0
  obtain ⟨o', hw⟩ := hw
  obtain ⟨b', hb'⟩ := runG_inv (γ := Unit) (fun _ _ => True) (fun (x : Lease) (b : S14) => stB (stA ttl x b)) (fun _ _ _ _ => trivial) steps.l 0 ⟨c0, c1, true, c1 + ttl, S, -1, false, none⟩ trivial
  rw [hb'] at hw
  obtain ⟨sa, sb, sc, sd⟩ := S
  simp only [endJ, tmps, blkS, lsl_true, repC_none, Int.ofNat_zero, Int.cast_ofNat_Int, Sl.g_of, List.map_cons, List.map_nil, Lease.c] at hw
  simp only [A, Sess.c, Reply.c, List.map_cons, List.map_nil, KVs.g, Evs.g, Sl.g_nil] at m2
  simp -implicitDefEqProofs [A, I2.c, g1', g2, g3, g4, g5, m1, m2, hw, live14, lenV_Sl]
end Go.Proofs.Ytlcjocciianphaa
