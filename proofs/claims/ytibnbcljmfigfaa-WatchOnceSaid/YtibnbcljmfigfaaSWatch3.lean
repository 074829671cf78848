/- The rounds of watch.Since. -/
import Derived.Test.YtibnbcljmfigfaaSWatch2
namespace Go.Proofs.Ytibnbcljmfigfaa
open Go Go.AM Go.Proofs
set_option maxRecDepth 20000
set_option maxHeartbeats 2000000
set_option linter.unusedSimpArgs false
set_option linter.unusedVariables false
/-! ### Blocks behind others -/
theorem get_app (h L : List Blk) (k : Nat) : (h ++ L)[h.length + k]? = L[k]? := by rw [List.getElem?_append_right (by omega), Nat.add_sub_cancel_left]
theorem get_app0 (h L : List Blk) : (h ++ L)[h.length]? = L[0]? := by rw [List.getElem?_append_right (by omega), Nat.sub_self]
theorem set_app (h L : List Blk) (k : Nat) (b : Blk) : (h ++ L).set (h.length + k) b = h ++ L.set k b := by
  rw [List.set_append_right _ _ (by omega), Nat.add_sub_cancel_left]
theorem getB_app (h L : List Blk) (t : List (Nat × AV)) (m : List (Nat × Blk)) (o : List Blk) (k : Nat) (hk : k < L.length) : getB (h ++ L) ⟨t, m, o⟩ (h.length + k) = orB (lookM m (h.length + k)) L[k]? := by
  rw [getB_old (by rw [List.length_append]; omega), get_app]
theorem setB_app (h L : List Blk) (t : List (Nat × AV)) (m : List (Nat × Blk)) (o : List Blk) (k : Nat) (b : Blk) (hk : k < L.length) : setB (h ++ L) ⟨t, m, o⟩ (h.length + k) b = ⟨t, updM m (h.length + k) b, o⟩ := by
  rw [setB_old (by rw [List.length_append]; omega)]
theorem app_growG {h : List Blk} {id sz bytes g : Nat} {xs ys : List (List GV)} (hid : id < h.length) (hne : ys ≠ []) (h1 : xs.length + ys.length ≤ 140737488355328) (h2 : (xs.length + ys.length) * bytes ≤ 140737488355328) (t : List (Nat × AV)) (m : List (Nat × Blk)) (o : List Blk)
    (hg : getB h ⟨t, m, o⟩ id = some (.rows sz g xs)) :
    appV h ⟨t, m, o⟩ sz bytes (.ms id g sz 0 xs.length) ys = some (.ms id (g + 1) sz 0 (xs.length + ys.length), ⟨t, updM m id (.rows sz (g + 1) (xs ++ ys)), o⟩, [id]) := by
  cases ys with
  | nil => exact absurd rfl hne
  | cons y ys =>
    simp only [List.length_cons] at h1 h2
    have e : ¬ xs.length + (ys.length + 1) ≤ xs.length := by omega
    simp only [appV, hg, true_and, if_true, List.length_cons, Nat.zero_add, if_neg e, Nat.le_refl, room, h1, h2, decide_true, Bool.and_self, setB_old hid, List.take_length]
def lpT (n : Nat) : List (Nat × AV) := [(7, .ptr (n + 1) 0), (8, .ptr (n + 3) 0), (9, .ptr (n + 4) 0), (10, .ptr (n + 5) 0), (11, .ptr (n + 7) 0)]
noncomputable def tenB (n : Nat) (s : Store) (most : Int) (res : AV) (n1 n2 : Int) (g : Nat) (out : List Ev) (G : GV) (j : Option (Option Nat)) : List Blk :=
  [.cells (s.c.map .g), .cells [I most], .rows 8 1 [], .cells [res], .cells [I n1], .cells [I n2], .rows 8 g (out.map Ev.c), .cells [.ms (n + 6) g 8 0 out.length], .cells [.g G], .lp rd16 (lpT n) j]
theorem round_fits (s : Store) (most : Int) (g : Nat) (out grp : List Ev) (G : GV) (hne : grp ≠ []) (hsz : out.length + grp.length ≤ 1000000) (hf : ((out.length + grp.length : Nat) : Int) ≤ most) (H : List Blk) :
    evRound (EvF tab) R16 [.g (Evs.g (.of grp))] (H.length + 9) (H ++ tenB H.length s most (.ms (H.length + 2) 1 8 0 0) 0 0 g out G none) =
      some ⟨B true, [(H.length + 9, .lp rd16 (lpT H.length) none), (H.length + 6, .rows 8 (g + 1) ((out ++ grp).map Ev.c)), (H.length + 7, .cells [.ms (H.length + 6) (g + 1) 8 0 (out ++ grp).length])], []⟩ := by
  have hgl : 0 < grp.length := List.length_pos_iff.2 hne
  have e1 : IntKind.i64.wrap ((out.length : Int) + (grp.length : Int)) = (out.length : Int) + (grp.length : Int) := wrap_i64 (by omega) (by omega)
  have e2 : (out.length : Int) + (grp.length : Int) ≤ most := by omega
  have hap := fun t o => app_growG (h := H ++ (tenB H.length s most (.ms (H.length + 2) 1 8 0 0) 0 0 g out G none).set 9 .hid) (id := H.length + 6) (sz := 8) (bytes := 80) (g := g) (xs := out.map Ev.c) (ys := grp.map Ev.c) (by simp [tenB]) (by simpa using hne) (by simp; omega) (by simp; omega) t [] o (by simp [tenB, getB_app])
  simp only [List.length_map] at hap
  unfold evRound
  unfold tenB at hap ⊢
  simp only [get_app, hideB, set_app]
  simp only [List.set] at hap ⊢
  simp -implicitDefEqProofs [R16, lpT, putPs, bodyRd, endRd, jmpO, getB_app, setB_app, e1, e2, hap]

theorem round_full (s : Store) (most : Int) (g : Nat) (grp : List Ev) (G : GV) (hne : grp ≠ []) (hsz : grp.length ≤ 1000000) (hf : most < (grp.length : Int)) (H : List Blk) :
    evRound (EvF tab) R16 [.g (Evs.g (.of grp))] (H.length + 9) (H ++ tenB H.length s most (.ms (H.length + 2) 1 8 0 0) 0 0 g [] G none) =
      some ⟨B false, [(H.length + 9, .lp rd16 (lpT H.length) (some none)), (H.length + 3, .cells [.g .nsl]), (H.length + 4, .cells [I 0]), (H.length + 5, .cells [I 4])], []⟩ := by
  have e1 : IntKind.i64.wrap ((grp.length : Int)) = (grp.length : Int) := wrap_i64 (by omega) (by omega)
  have e2 : ¬ (grp.length : Int) ≤ most := by omega
  unfold evRound
  unfold tenB
  simp only [get_app, hideB, set_app]
  simp only [List.set]
  simp -implicitDefEqProofs [R16, lpT, putPs, bodyRd, endRd, jmpO, getB_app, setB_app, e1, e2]
theorem round_ends (s : Store) (most : Int) (g : Nat) (out grp : List Ev) (G : GV) (hne : grp ≠ []) (ho : out ≠ []) (hsz : out.length + grp.length ≤ 1000000) (hf : most < ((out.length + grp.length : Nat) : Int)) (H : List Blk) :
    evRound (EvF tab) R16 [.g (Evs.g (.of grp))] (H.length + 9) (H ++ tenB H.length s most (.ms (H.length + 2) 1 8 0 0) 0 0 g out G none) =
      some ⟨B false, [(H.length + 9, .lp rd16 (lpT H.length) (some none)), (H.length + 3, .cells [.ms (H.length + 6) g 8 0 out.length]), (H.length + 4, .cells [I (revAt grp 0)]), (H.length + 5, .cells [I 0])], []⟩ := by
  have hol : 0 < out.length := List.length_pos_iff.2 ho
  have e3 : ¬ (out.length : Int) = 0 := by omega
  cases grp with
  | nil => exact absurd rfl hne
  | cons x grp =>
    simp only [List.length_cons] at hsz hf
    have e1 : IntKind.i64.wrap ((out.length : Int) + ((grp.length : Int) + 1)) = (out.length : Int) + ((grp.length : Int) + 1) := wrap_i64 (by omega) (by omega)
    have e2 : ¬ (out.length : Int) + ((grp.length : Int) + 1) ≤ most := by omega
    unfold evRound
    unfold tenB
    simp only [get_app, hideB, set_app]
    simp only [List.set]
    simp -implicitDefEqProofs [R16, lpT, putPs, bodyRd, endRd, jmpO, getB_app, setB_app, e1, e2, e3, ho, revAt, Ev.c]
theorem revisions_ev (G : GV) (H : List Blk) : EvF tab 46 [.g G] H = some ⟨.fv 77 [.ptr H.length 0], [], [.cells [.g G]]⟩ := by
  refine EvF_walk t46 (by simp) ?_
  simp -implicitDefEqProofs
theorem other_ev (e : Ev) (x : Ev) (l : List Ev) {H : List Blk} {p : Nat} (hp : H[p]? = some (.cells [.g (Evs.g (.of (x :: l)))])) : EvF tab 79 [A e.c, .ptr p 0] H = some ⟨B (decide (e.rev ≠ x.rev)), [], []⟩ := by
  have hlt : p < H.length := (List.getElem?_eq_some_iff.1 hp).1
  have hg : H[p] = .cells [.g (Evs.g (.of (x :: l)))] := (List.getElem?_eq_some_iff.1 hp).2
  have hlv : ∀ o, isLiveB (H ++ o) p = true := fun o => by unfold isLiveB; rw [List.getElem?_append_left hlt, hp]; rfl
  refine EvF_walk t79 (by simp) ?_
  by_cases c : e.rev = x.rev
  · simp -implicitDefEqProofs [Ev.c, A, getB_old hlt, orB, hg, hp, c, hlv]
  · simp -implicitDefEqProofs [Ev.c, A, getB_old hlt, orB, hg, hp, c, hlv]
theorem idxR_ev (x : Ev) (l : List Ev) (hl : (x :: l).length ≤ 1000000) {H : List Blk} {p : Nat} (hp : H[p]? = some (.cells [.g (Evs.g (.of (x :: l)))])) :
    EvF tab 78 [.g (Evs.g (.of (x :: l))), .fv 79 [.ptr p 0]] H = some ⟨I (idxG (fun e => decide (e.rev ≠ revAt (x :: l) 0)) 0 (x :: l)), [], []⟩ := by
  have := index_ev (Tb := tab) (f := 78) (agg := true) (n := 8) (c := Ev.c) t78 (fun e => A e.c) (fun e => decide (e.rev ≠ revAt (x :: l) 0)) (.fv 79 [.ptr p 0]) (.of (x :: l)) (by rw [Sl.l_of]; omega) H (fun e => by simp [Ev.c, A]) (fun e _ t => by
    have := other_ev e x l (H := full H ⟨t, [], []⟩) (p := p) (by simpa using hp)
    rw [evCall_fv]
    simp only [List.all_nil, if_true]
    show fin H [] ⟨t, [], []⟩ (EvF tab _ [A e.c, .ptr p 0] _) = _
    simp only [hideB]
    rw [this]
    simp -implicitDefEqProofs [revAt])
  exact this
end Go.Proofs.Ytibnbcljmfigfaa
