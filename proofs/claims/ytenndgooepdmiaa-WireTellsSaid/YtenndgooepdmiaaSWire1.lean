/- What a strings.Builder and a writer of requests do: bytes are laid behind bytes. -/
import Derived.Test.YtenndgooepdmiaaSVarW
namespace Go.Proofs.Ytenndgooepdmiaa
open Go Go.AM Go.Proofs
set_option maxRecDepth 4000
set_option linter.unusedSimpArgs false
set_option linter.unusedVariables false
def wB (ad : AV) (q g : Nat) (s : Bs) : Blk := .bld 60 [ad, .ms q g 1 0 s.length]
def wR (g : Nat) (s : Bs) : Blk := .trow 5 1 g (bytesG s)
/-- A writer at block p, its row at block q, holding the bytes s. -/
structure Wr (H : List Blk) (fr : Bool) (p q g : Nat) (s : Bs) : Prop where
  hp : H[p]? = some (wB (if fr = true then .g .nptr else .ptr p 0) q g s)
  hq : H[q]? = some (wR g s)
theorem Wr.lt {H : List Blk} {fr : Bool} {p q g : Nat} {s : Bs} (h : Wr H fr p q g s) : p < H.length ∧ q < H.length ∧ p ≠ q := by
  refine ⟨(List.getElem?_eq_some_iff.1 h.hp).1, (List.getElem?_eq_some_iff.1 h.hq).1, fun e => ?_⟩
  subst e
  have := h.hq
  rw [h.hp] at this; cases this
/-- What has changed, in the order in which it is told. -/
def mPQ (fr : Bool) (p q g : Nat) (s : Bs) : List (Nat × Blk) := if fr = true then [(p, wB (.ptr p 0) q g s), (q, wR g s)] else [(q, wR g s), (p, wB (.ptr p 0) q g s)]
theorem noesc_ev (v : AV) (H : List Blk) : EvF tab 93 [v] H = some ⟨v, [], []⟩ := EvF_ext tx93 rfl
theorem cc0_ev {H : List Blk} {p q g : Nat} {s : Bs} (hp : H[p]? = some (wB (.g .nptr) q g s)) (hpl : p < H.length) (hql : q < H.length) :
    EvF tab 87 [.ptr p 0] H = some ⟨.tup [], [(p, wB (.ptr p 0) q g s)], []⟩ := by
  refine EvF_walk t87 (by simp) ?_
  unfold wB at hp ⊢
  have hp2 := (List.getElem?_eq_some_iff.1 hp).2
  simp -implicitDefEqProofs [hp2, hpl, hql, getB_old, setB_old, St.kp, updM, noesc_ev]
theorem cc1_ev {H : List Blk} {p q g : Nat} {s : Bs} (hp : H[p]? = some (wB (.ptr p 0) q g s)) (hpl : p < H.length) (hql : q < H.length) :
    EvF tab 87 [.ptr p 0] H = some ⟨.tup [], [], []⟩ := by
  refine EvF_walk t87 (by simp) ?_
  unfold wB at hp
  have hp2 := (List.getElem?_eq_some_iff.1 hp).2
  simp -implicitDefEqProofs [hp2, hpl, hql, getB_old, setB_old, St.kp, updM]
theorem appTV_app {e : TypeId} {h : List Blk} {st : St} {q g : Nat} {s t : Bs} (ht : t ≠ []) (hr : s.length + t.length ≤ 140737488355328) (hq : getB h st q = some (.trow e 1 g (bytesG s))) :
    appTV e h st 1 1 q g 0 s.length (bytesG t) = some (.ms q (g + 1) 1 0 (s ++ t).length, setB h st q (.trow e 1 (g + 1) (bytesG (s ++ t))), [q]) := by
  cases t with
  | nil => exact absurd rfl ht
  | cons b t =>
    have h1 : (bytesG (b :: t)).length = t.length + 1 := by rw [bytesG_len]; rfl
    have h2 : bytesG (b :: t) = [.int .u8 b.toNat] :: bytesG t := rfl
    have h3 : bytesG (s ++ b :: t) = bytesG s ++ [.int .u8 b.toNat] :: bytesG t := by rw [bytesG_append, h2]
    have h4 : (bytesG s).length = s.length := bytesG_len s
    have h5 : (bytesG t).length = t.length := bytesG_len t
    simp only [List.length_cons] at hr
    simp only [appTV, h2, hq, h3]
    have h6 : ¬ 0 + s.length + (t.length + 1) ≤ s.length := by omega
    simp only [true_and, and_self, if_true, List.length_cons, h4, h5, h6, if_false, Nat.le_refl, room, List.length_append, List.take_of_length_le (Nat.le_of_eq h4)]
    have h7 : s.length + (t.length + 1) ≤ 140737488355328 := hr
    simp [h7]
theorem appTV_none {e : TypeId} {h : List Blk} {st : St} {q g : Nat} {s : Bs} (hq : getB h st q = some (.trow e 1 g (bytesG s))) :
    appTV e h st 1 1 q g 0 s.length [] = some (.ms q g 1 0 s.length, st, []) := by
  simp [appTV, cur, hq]
theorem WS_ev {H : List Blk} {fr : Bool} {p q g : Nat} {s : Bs} (w : Wr H fr p q g s) (t : Bs) (ht : t ≠ []) (hr : s.length + t.length ≤ 140737488355328) :
    EvF tab 72 [.ptr p 0, T t] H = some ⟨.tup [I t.length, .g .nif], mPQ fr p q (g + 1) (s ++ t), []⟩ := by
  obtain ⟨hpl, hql, hne⟩ := w.lt
  have hq2 := (List.getElem?_eq_some_iff.1 w.hq).2
  have ha := fun (st : St) => appTV_app (e := 5) (h := H) (st := st) (q := q) (g := g) ht hr
  refine EvF_walk t72 (by simp) ?_
  have hp := w.hp
  unfold mPQ
  cases fr
  · rw [if_neg (by simp)] at hp
    have hc := cc1_ev hp hpl hql
    unfold wB at hp hc ⊢
    unfold wR at hq2 ⊢
    have hp2 := (List.getElem?_eq_some_iff.1 hp).2
    simp -implicitDefEqProofs [hc, hp2, hq2, hpl, hql, hne, Ne.symm hne, getB_old, setB_old, St.kp, updM, orB, ha]
  · rw [if_pos rfl] at hp
    have hc := cc0_ev hp hpl hql
    unfold wB at hp hc ⊢
    unfold wR at hq2 ⊢
    have hp2 := (List.getElem?_eq_some_iff.1 hp).2
    simp -implicitDefEqProofs [hc, hp2, hq2, hpl, hql, hne, Ne.symm hne, getB_old, setB_old, St.kp, updM, orB, ha]
theorem WS0_ev {H : List Blk} {fr : Bool} {p q g : Nat} {s : Bs} (w : Wr H fr p q g s) :
    EvF tab 72 [.ptr p 0, T []] H = some ⟨.tup [I 0, .g .nif], [(p, wB (.ptr p 0) q g s)], []⟩ := by
  obtain ⟨hpl, hql, hne⟩ := w.lt
  have hq2 := (List.getElem?_eq_some_iff.1 w.hq).2
  have ha := fun (st : St) => appTV_none (e := 5) (h := H) (st := st) (q := q) (g := g) (s := s)
  refine EvF_walk t72 (by simp) ?_
  have hp := w.hp
  have hb : bytesG [] = [] := rfl
  cases fr
  · rw [if_neg (by simp)] at hp
    have hc := cc1_ev hp hpl hql
    unfold wB at hp hc ⊢
    unfold wR at hq2
    have hp2 := (List.getElem?_eq_some_iff.1 hp).2
    simp -implicitDefEqProofs [hc, hp2, hq2, hpl, hql, hne, Ne.symm hne, getB_old, setB_old, St.kp, updM, orB, ha, hb]
  · rw [if_pos rfl] at hp
    have hc := cc0_ev hp hpl hql
    unfold wB at hp hc ⊢
    unfold wR at hq2
    have hp2 := (List.getElem?_eq_some_iff.1 hp).2
    simp -implicitDefEqProofs [hc, hp2, hq2, hpl, hql, hne, Ne.symm hne, getB_old, setB_old, St.kp, updM, orB, ha, hb]
/-- What a writer holds, as a text. -/
theorem String_ev {H : List Blk} {fr : Bool} {p q g : Nat} {s : Bs} (w : Wr H fr p q g s) (hs : s ≠ []) (hl : s.length ≤ 140737488355328) (hg : 1 < g) :
    EvF tab 31 [.ptr p 0] H = some ⟨T s, [(q, .fro 1 g (bytesG s))], []⟩ := by
  obtain ⟨hpl, hql, hne⟩ := w.lt
  have hq2 := (List.getElem?_eq_some_iff.1 w.hq).2
  have hp := w.hp
  refine EvF_walk t31 (by simp) ?_
  unfold wB at hp
  unfold wR at hq2
  have hp2 := (List.getElem?_eq_some_iff.1 hp).2
  have h0 : 0 < s.length := List.length_pos_iff.2 hs
  have h1 : (bytesG s).length = s.length := bytesG_len s
  have h2 : List.take s.length (bytesG s) = bytesG s := List.take_of_length_le (Nat.le_of_eq h1)
  have h3 : evI.bytesOfG (bytesG s) = some s := bytesOf_bytesG s
  have h4 : isLiveB H p = true := by unfold isLiveB; rw [hp]; rfl
  have h5 : (s.length : Int) ≤ 9223372036854775807 := by omega
  simp -implicitDefEqProofs [Blk.lt1, h4, h5, hp2, hq2, hpl, hql, hne, Ne.symm hne, getB_old, setB_old, St.kp, updM, orB, h0, h1, h2, h3, show ¬ g = 1 by omega, show s.length ≤ 9223372036854775807 by omega]
end Go.Proofs.Ytenndgooepdmiaa
