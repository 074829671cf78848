/- What the reader makes of keys, questions, deeds, events. -/
import Derived.Test.YtenndgooepdmiaaSRead
namespace Go.Proofs.Ytenndgooepdmiaa
open Go Go.AM Go.Proofs
set_option maxRecDepth 20000
set_option maxHeartbeats 1000000
set_option linter.unusedSimpArgs false
set_option linter.unusedVariables false
@[simp] theorem rC_lt1 (n : Nat) (st : RS) : (rC st).lt1 n = true := by simp [rC, Blk.lt1, AV.lt1, AV.lt0]
theorem rC_set2 {H : List Blk} {p : Nat} (hp : p < H.length) (st : RS) (o : List Blk) : (H.set p (rC st) ++ o)[p]? = some (rC st) := by
  rw [List.getElem?_append_left (by simpa using hp)]; exact List.getElem?_set_self hp
theorem rC_app {H : List Blk} {p : Nat} {st : RS} (hp : H[p]? = some (rC st)) (o : List Blk) : (H ++ o)[p]? = some (rC st) := by
  rw [List.getElem?_append_left (List.getElem?_eq_some_iff.1 hp).1]; exact hp
theorem rdT_len (st : RS) : (rdT st).2.1.length ≤ st.1.length := by
  have := rdN_len st
  unfold rdT; split
  · exact this
  · simp; omega
theorem rdB_len (st : RS) : (rdB st).2.1.length ≤ st.1.length := rdN_len st
theorem rcmp_ev {H : List Blk} {p : Nat} {st : RS} (hp : H[p]? = some (rC st)) (hl : st.1.length ≤ 9223372036854775807) :
    EvF tab 40 [.ptr p 0] H = some ⟨A (rdCmp st).1.c, [(p, rC (rdCmp st).2)], []⟩ := by
  have hpl : p < H.length := (List.getElem?_eq_some_iff.1 hp).1
  obtain ⟨zs, ez⟩ : ∃ zs : Blk, zs = .cells [T [], I 0, I 0, I 0, T []] := ⟨_, rfl⟩
  have l1 := rdT_len st
  have l2 := rdN_len (rdT st).2
  have l3 := rdN_len (rdN (rdT st).2).2
  have l4 := rdN_len (rdN (rdN (rdT st).2).2).2
  have a1 := rt_ev (rC_app hp [zs]) hl
  have a2 := rn_ev (rC_set2 hpl (rdT st).2 [zs]) (by omega)
  have a3 := rn_ev (rC_set2 hpl (rdN (rdT st).2).2 [zs]) (by omega)
  have a4 := rn_ev (rC_set2 hpl (rdN (rdN (rdT st).2).2).2 [zs]) (by omega)
  have a5 := rt_ev (rC_set2 hpl (rdN (rdN (rdN (rdT st).2).2).2).2 [zs]) (by omega)
  refine EvF_walk t40 (by simp) ?_
  simp only [rdCmp, seqP]
  subst ez
  generalize rdT st = x1 at a1 a2 a3 a4 a5 ⊢; obtain ⟨v1, s1⟩ := x1; simp only at a1 a2 a3 a4 a5 ⊢
  generalize rdN s1 = x2 at a2 a3 a4 a5 ⊢; obtain ⟨v2, s2⟩ := x2; simp only at a2 a3 a4 a5 ⊢
  generalize rdN s2 = x3 at a3 a4 a5 ⊢; obtain ⟨v3, s3⟩ := x3; simp only at a3 a4 a5 ⊢
  generalize rdN s3 = x4 at a4 a5 ⊢; obtain ⟨v4, s4⟩ := x4; simp only at a4 a5 ⊢
  generalize rdT s4 = x5 at a5 ⊢; obtain ⟨v5, s5⟩ := x5; simp only at a5 ⊢
  simp -implicitDefEqProofs [zres, a1, a2, a3, a4, a5, hpl, setB_old, updM, A, Cmp.c]
theorem rmut_ev {H : List Blk} {p : Nat} {st : RS} (hp : H[p]? = some (rC st)) (hl : st.1.length ≤ 9223372036854775807) :
    EvF tab 42 [.ptr p 0] H = some ⟨A (rdMut st).1.c, [(p, rC (rdMut st).2)], []⟩ := by
  have hpl : p < H.length := (List.getElem?_eq_some_iff.1 hp).1
  obtain ⟨zs, ez⟩ : ∃ zs : Blk, zs = .cells [B false, T [], T [], I 0] := ⟨_, rfl⟩
  have l1 := rdB_len st
  have l2 := rdT_len (rdB st).2
  have l3 := rdT_len (rdT (rdB st).2).2
  have a1 := rb_ev (rC_app hp [zs]) hl
  have a2 := rt_ev (rC_set2 hpl (rdB st).2 [zs]) (by omega)
  have a3 := rt_ev (rC_set2 hpl (rdT (rdB st).2).2 [zs]) (by omega)
  have a4 := rn_ev (rC_set2 hpl (rdT (rdT (rdB st).2).2).2 [zs]) (by omega)
  refine EvF_walk t42 (by simp) ?_
  simp only [rdMut, seqP]
  subst ez
  generalize rdB st = x1 at a1 a2 a3 a4 ⊢; obtain ⟨v1, s1⟩ := x1; simp only at a1 a2 a3 a4 ⊢
  generalize rdT s1 = x2 at a2 a3 a4 ⊢; obtain ⟨v2, s2⟩ := x2; simp only at a2 a3 a4 ⊢
  generalize rdT s2 = x3 at a3 a4 ⊢; obtain ⟨v3, s3⟩ := x3; simp only at a3 a4 ⊢
  generalize rdN s3 = x4 at a4 ⊢; obtain ⟨v4, s4⟩ := x4; simp only at a4 ⊢
  simp -implicitDefEqProofs [zres, a1, a2, a3, a4, hpl, setB_old, updM, A, Mut.c]
theorem rkv_ev {H : List Blk} {p : Nat} {st : RS} (hp : H[p]? = some (rC st)) (hl : st.1.length ≤ 9223372036854775807) :
    EvF tab 61 [.ptr p 0] H = some ⟨A (rdKV st).1.c, [(p, rC (rdKV st).2)], []⟩ := by
  have hpl : p < H.length := (List.getElem?_eq_some_iff.1 hp).1
  obtain ⟨zs, ez⟩ : ∃ zs : Blk, zs = .cells [T [], T [], I 0, I 0, I 0, I 0] := ⟨_, rfl⟩
  have l1 := rdT_len st
  have l2 := rdT_len (rdT st).2
  have l3 := rdN_len (rdT (rdT st).2).2
  have l4 := rdN_len (rdN (rdT (rdT st).2).2).2
  have l5 := rdN_len (rdN (rdN (rdT (rdT st).2).2).2).2
  have a1 := rt_ev (rC_app hp [zs]) hl
  have a2 := rt_ev (rC_set2 hpl (rdT st).2 [zs]) (by omega)
  have a3 := rn_ev (rC_set2 hpl (rdT (rdT st).2).2 [zs]) (by omega)
  have a4 := rn_ev (rC_set2 hpl (rdN (rdT (rdT st).2).2).2 [zs]) (by omega)
  have a5 := rn_ev (rC_set2 hpl (rdN (rdN (rdT (rdT st).2).2).2).2 [zs]) (by omega)
  have a6 := rn_ev (rC_set2 hpl (rdN (rdN (rdN (rdT (rdT st).2).2).2).2).2 [zs]) (by omega)
  refine EvF_walk t61 (by simp) ?_
  simp only [rdKV, seqP]
  subst ez
  generalize rdT st = x1 at a1 a2 a3 a4 a5 a6 ⊢; obtain ⟨v1, s1⟩ := x1; simp only at a1 a2 a3 a4 a5 a6 ⊢
  generalize rdT s1 = x2 at a2 a3 a4 a5 a6 ⊢; obtain ⟨v2, s2⟩ := x2; simp only at a2 a3 a4 a5 a6 ⊢
  generalize rdN s2 = x3 at a3 a4 a5 a6 ⊢; obtain ⟨v3, s3⟩ := x3; simp only at a3 a4 a5 a6 ⊢
  generalize rdN s3 = x4 at a4 a5 a6 ⊢; obtain ⟨v4, s4⟩ := x4; simp only at a4 a5 a6 ⊢
  generalize rdN s4 = x5 at a5 a6 ⊢; obtain ⟨v5, s5⟩ := x5; simp only at a5 a6 ⊢
  generalize rdN s5 = x6 at a6 ⊢; obtain ⟨v6, s6⟩ := x6; simp only at a6 ⊢
  simp -implicitDefEqProofs [zres, a1, a2, a3, a4, a5, a6, hpl, setB_old, updM, A, KV.c]
theorem rev_ev {H : List Blk} {p : Nat} {st : RS} (hp : H[p]? = some (rC st)) (hl : st.1.length ≤ 9223372036854775807) :
    EvF tab 63 [.ptr p 0] H = some ⟨A (rdEv st).1.c, [(p, rC (rdEv st).2)], []⟩ := by
  have hpl : p < H.length := (List.getElem?_eq_some_iff.1 hp).1
  obtain ⟨zs, ez⟩ : ∃ zs : Blk, zs = .cells [I 0, B false, T [], T [], I 0, I 0, I 0, I 0] := ⟨_, rfl⟩
  have l1 := rdN_len st
  have l2 := rdB_len (rdN st).2
  have a1 := rn_ev (rC_app hp [zs]) hl
  have a2 := rb_ev (rC_set2 hpl (rdN st).2 [zs]) (by omega)
  have a3 := rkv_ev (rC_set2 hpl (rdB (rdN st).2).2 [zs]) (by omega)
  refine EvF_walk t63 (by simp) ?_
  simp only [rdEv, seqP]
  subst ez
  generalize rdN st = x1 at a1 a2 a3 ⊢; obtain ⟨v1, s1⟩ := x1; simp only at a1 a2 a3 ⊢
  generalize rdB s1 = x2 at a2 a3 ⊢; obtain ⟨v2, s2⟩ := x2; simp only at a2 a3 ⊢
  generalize rdKV s2 = x3 at a3 ⊢; obtain ⟨v3, s3⟩ := x3; simp only at a3 ⊢
  simp only [A, KV.c, List.map_cons, List.map_nil] at a3
  simp -implicitDefEqProofs [zres, a1, a2, a3, hpl, setB_old, updM, A, Ev.c]
end Go.Proofs.Ytenndgooepdmiaa
