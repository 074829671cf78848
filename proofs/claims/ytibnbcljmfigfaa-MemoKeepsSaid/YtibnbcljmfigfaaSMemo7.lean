/- What is kept: rows of memos. -/
import Derived.Test.YtibnbcljmfigfaaSMemo6
namespace Go.Proofs.Ytibnbcljmfigfaa
open Go Go.AM Go.Proofs
set_option maxRecDepth 20000
set_option maxHeartbeats 4000000
set_option linter.unusedSimpArgs false
set_option linter.unusedVariables false
theorem idxKeep_ev (l : List Memo) (w y : Int) (ys : List Int) (hl : l.length ≤ 1000000) {H : List Blk} {id g p q : Nat} (hid : H[id]? = some (.rows 11 g (l.map Memo.c))) (hp : H[p]? = some (.cells [I w])) (hq : H[q]? = some (.cells [.g (.sl 1 ((y :: ys).map Ints.c))])) :
    EvF tab 59 [.ms id g 11 0 l.length, .fv 67 [.ptr p 0, .ptr q 0]] H = some ⟨I (idxG (isP w y) 0 l), [], []⟩ := by
  have hlt : id < H.length := (List.getElem?_eq_some_iff.1 hid).1
  have hidg : H[id] = .rows 11 g (l.map Memo.c) := (List.getElem?_eq_some_iff.1 hid).2
  have hlv : ∀ o, isLiveB (H ++ o) id = true := fun o => by unfold isLiveB; rw [List.getElem?_append_left hlt, hid]; rfl
  have hcall : ∀ x t, evCall (EvF tab) H [] ⟨t, [], []⟩ (.fv 67 [.ptr p 0, .ptr q 0]) [A x.c] = some (.g (.bool (isP w y x)), ⟨t, [], []⟩, []) := fun x t => by
    have := keep1_ev x w y ys (H := full H ⟨t, [], []⟩) (p := p) (q := q) (by simpa using hp) (by simpa using hq)
    rw [evCall_fv]
    simp only [List.all_nil, if_true]
    show fin H [] ⟨t, [], []⟩ (EvF tab _ [A x.c, .ptr p 0, .ptr q 0] _) = _
    simp only [hideB]
    rw [this]
    simp -implicitDefEqProofs
  generalize AV.fv 67 [.ptr p 0, .ptr q 0] = fv at hcall ⊢
  have hw := loop_run (E := EvF tab) (h := H) (c := L59_0) (lv := [0, 1, 7, 8]) (l := l) (fun _ (_ : Unit) => True) (fun k x _ => if isP w y x = true then .inr (.ret, ⟨[(4, I k)], [], []⟩) else .inl ())
    (fun k _ => ⟨[(0, .ms id g 11 0 l.length), (1, fv), (7, I l.length), (8, I k)], [], []⟩) (fun _ => (.exit 0, ⟨[(0, .ms id g 11 0 l.length), (1, fv), (7, I l.length), (8, I l.length), (9, B false)], [], []⟩)) (by simp)
    (fun k x _ hk hx hx' _ => ?_) (fun _ _ => by delta L59_0; simp -implicitDefEqProofs) l.length 0 () rfl (Nat.zero_le _) trivial
  · have key : ∀ (l : List Memo) (k : Nat) (fin : Ex × St), endL (fun _ => fin) (runL (β := Unit) (fun k x _ => if isP w y x = true then .inr (.ret, ⟨[(4, I k)], [], []⟩) else .inl ()) k l ()) = if l.any (isP w y) = true then (.ret, ⟨[(4, I (idxG (isP w y) k l))], [], []⟩) else fin := by
      intro l
      induction l with
      | nil => intro k fin; simp [runL, endL]
      | cons x l ih =>
        intro k fin
        simp only [runL, List.any_cons, idxG]
        by_cases hp : isP w y x = true
        · simp [hp, endL]
        · simp only [hp, Bool.false_eq_true, if_false]
          rw [ih]; simp
    rw [List.drop_zero, key] at hw
    refine EvF_walk t59 (by simp) ?_
    have e0 : ((0 : Nat) : Int) = 0 := rfl
    rw [e0] at hw
    rcases idxG_findM (isP w y) l 0 with ⟨x, j, h1, h2, h3⟩ | ⟨h1, h2⟩
    · have ha : l.any (isP w y) = true := (idxG_iff _ l 0).1 (by rw [h3]; omega)
      rw [if_pos ha] at hw
      simp -implicitDefEqProofs [getB_old hlt, orB, hid, hidg, hlv, hw]
    · have ha : ¬ l.any (isP w y) = true := fun h => by
        have := (idxG_iff _ l 0).2 h; rw [h2] at this; omega
      rw [if_neg ha] at hw
      rw [h2]
      simp -implicitDefEqProofs [getB_old hlt, orB, hid, hidg, hlv, hw]
  · have hc := hcall x
    have e2 := wrap_succ hk (by omega)
    have hlv0 : isLiveB H id = true := by have := hlv []; simpa using this
    delta L59_0
    generalize hpp : isP w y x = b at hc ⊢
    obtain ⟨xw, xs, x1, x2, x3, x4, x5, x6, x7, x8, x9⟩ := x
    simp only [A, Memo.c, List.map_cons, List.map_nil] at hc
    cases b
    · simp -implicitDefEqProofs [getB_old hlt, orB, hid, hidg, hlv, hlv0, hk, hx', Memo.c, hc, e2]
    · simp -implicitDefEqProofs [getB_old hlt, orB, hid, hidg, hlv, hlv0, hk, hx', Memo.c, hc, e2]
/-! ### One behind all, as a row of one's own -/
def concatX (sz bytes : Nat) (g : FuncId) (m : TypeId) (msg : List UInt8) : IFunc := { concatF sz bytes g m msg with esc := true }
theorem concatX_ev {f g : FuncId} {α : Type} {sz bytes : Nat} {z : List GV} {m m' : TypeId} {msg msg' : List UInt8} {c : α → List GV} (hF : tab.T f = some (concatX sz bytes g m msg)) (hG : tab.T g = some (growF sz bytes z m' msg'))
    (a b : Sl α) (h0 : ¬ a.l.length + b.l.length = 0) (hn : a.l.length + b.l.length ≤ 140737488355328) (hb : (a.l.length + b.l.length) * bytes ≤ 140737488355328) (H : List Blk) :
    EvF tab f [.g (.sl 1 [[a.g sz c], [b.g sz c]])] H = some ⟨.ms (H.length + 2) 2 sz 0 (a.l ++ b.l).length, [], [.rows sz 1 [], .rows sz 1 [], .rows sz 2 ((a.l ++ b.l).map c)]⟩ := by
  refine EvF_walk hF (by simp [concatX, concatF]) ?_
  have g1 := fun H => grow_ev hG (a.l.length + b.l.length) hn hb H
  have l0 := fun o => concat_loop0 (E := EvF tab) (m := m) (msg := msg) (sz := sz) (c := c) a b hn H o
  simp only [Int.natCast_add] at l0 g1
  have l1 := fun A B => concat_loop1 (E := EvF tab) (sz := sz) (bytes := bytes) (z := z) (c := c) a b H A B
  simp only [if_neg h0] at g1
  simp -implicitDefEqProofs only [List.map_append] at l1
  unfold concatF
  simp -implicitDefEqProofs [l0, g1, l1]
theorem concatTM : ∃ m msg m' msg', tab.T 66 = some (concatX 11 120 88 m msg) ∧ tab.T 88 = some (growF 11 120 [.int .i64 0, .int .i64 0, .int .i64 0, .int .i64 0, .int .i64 0, .int .i64 0, .int .i64 0, .int .i64 0, .bool false, .nsl, .nsl] m' msg') :=
  ⟨_, _, _, _, t66, t88⟩
theorem concatM_ev (a : Sl Memo) (x : Memo) (hn : a.l.length ≤ 10000) (H : List Blk) :
    EvF tab 66 [.g (.sl 1 [[MemoL.g a], [.sl 11 [x.c]]])] H = some ⟨.ms (H.length + 2) 2 11 0 (a.l ++ [x]).length, [], [.rows 11 1 [], .rows 11 1 [], .rows 11 2 ((a.l ++ [x]).map Memo.c)]⟩ := by
  obtain ⟨m, msg, m', msg', h1, h2⟩ := concatTM
  exact concatX_ev h1 h2 a (.of [x]) (by simp) (by simp; omega) (by simp; omega) H
/-! ### One taken out of a row -/
def memo0G : List GV := [.int .i64 0, .int .i64 0, .int .i64 0, .int .i64 0, .int .i64 0, .int .i64 0, .int .i64 0, .int .i64 0, .bool false, .nsl, .nsl]
theorem delM_ev (l : List Memo) (i : Nat) (hi : i < l.length) (hl : l.length ≤ 10000) {H : List Blk} {id : Nat} (hid : H[id]? = some (.rows 11 2 (l.map Memo.c))) :
    EvF tab 68 [.ms id 2 11 0 l.length, I i, I (i + 1 : Nat)] H = some ⟨.ms id 2 11 0 (l.length - 1), [(id, .rows 11 2 ((l.eraseIdx i).map Memo.c ++ [memo0G]))], []⟩ := by
  have hlt : id < H.length := (List.getElem?_eq_some_iff.1 hid).1
  have hidg : H[id] = .rows 11 2 (l.map Memo.c) := (List.getElem?_eq_some_iff.1 hid).2
  have hlv : ∀ o, isLiveB (H ++ o) id = true := fun o => by unfold isLiveB; rw [List.getElem?_append_left hlt, hid]; rfl
  refine EvF_walk t68 (by simp) ?_
  have hiI : (i : Int) < (l.length : Int) := by omega
  have hi1 : ((i + 1 : Nat) : Int) ≤ (l.length : Int) := by omega
  obtain ⟨L, hL⟩ : ∃ L, List.map Memo.c l = L := ⟨_, rfl⟩
  have hLl : L.length = l.length := by rw [← hL]; simp
  have hres : (l.eraseIdx i).map Memo.c = L.take i ++ L.drop (i + 1) := by rw [List.eraseIdx_eq_take_drop_succ, List.map_append, List.map_take, List.map_drop, hL]
  rw [hres]
  rw [hL] at hid hidg
  rw [← hLl] at hi hiI hi1 hl ⊢
  clear hres hL hLl
  have eD : List.take (L.length - (i + 1)) (List.drop (i + 1) L) = List.drop (i + 1) L := List.take_of_length_le (by simp)
  by_cases hlast : i + 1 = L.length
  · have hd : List.drop (i + 1) L = [] := List.drop_eq_nil_of_le (by omega)
    have e3 : L.length - (i + 1) = 0 := by omega
    simp -implicitDefEqProofs [getB_old hlt, setB_old hlt, orB, hid, hidg, hlv, cutB, bnd, intOfA, hiI, hi1, hi, show i ≤ L.length by omega, show i + 1 ≤ L.length by omega, show (i : Int) ≤ (L.length : Int) by omega, show (i : Int) + 1 ≤ (L.length : Int) by omega, show (0 : Int) ≤ (i : Int) + 1 by omega, show (i : Int) ≤ (i : Int) + 1 by omega, show ¬ (i : Int) = (i : Int) + 1 by omega, eD, hd, e3, appV]
    simp [hlt, memo0G, hd, show L.length - i = 1 by omega, show L.length - 1 = i by omega]
  · obtain ⟨y, ys, hd⟩ : ∃ y ys, List.drop (i + 1) L = y :: ys := by
      cases h : List.drop (i + 1) L with
      | nil => have := congrArg List.length h; simp at this; omega
      | cons y ys => exact ⟨y, ys, rfl⟩
    have hlen := congrArg List.length hd
    simp only [List.length_drop, List.length_cons] at hlen
    have hl3 : i + (ys.length + 1) ≤ L.length := by omega
    have hl4 : i + (ys.length + 1) = L.length - 1 := by omega
    have hd2 : (List.drop (L.length - 1) L).length = 1 := by rw [List.length_drop]; omega
    obtain ⟨z, hz⟩ : ∃ z, List.drop (L.length - 1) L = [z] := by
      match h : List.drop (L.length - 1) L, hd2 with
      | [z], _ => exact ⟨z, rfl⟩
    rw [hd] at eD
    simp -implicitDefEqProofs [getB_old hlt, setB_old hlt, orB, hid, hidg, hlv, cutB, bnd, intOfA, hiI, hi1, hi, show i ≤ L.length by omega, show i + 1 ≤ L.length by omega, show (i : Int) ≤ (L.length : Int) by omega, show (i : Int) + 1 ≤ (L.length : Int) by omega, show (0 : Int) ≤ (i : Int) + 1 by omega, show (i : Int) ≤ (i : Int) + 1 by omega, show ¬ (i : Int) = (i : Int) + 1 by omega, eD, hd, appV, hl3, hl4, hz]
    have eT : List.take (L.length - 1) (List.take i L ++ y :: (ys ++ [z])) = List.take i L ++ y :: ys := by
      have e : List.take i L ++ y :: (ys ++ [z]) = (List.take i L ++ y :: ys) ++ [z] := by simp
      rw [e]
      exact List.take_left' (by simp; omega)
    have eN : List.drop L.length (List.take i L ++ y :: (ys ++ [z])) = [] := List.drop_eq_nil_of_le (by simp; omega)
    simp [hlt, memo0G, hd, show ¬ L.length ≤ L.length - 1 by omega, show L.length ≤ i + (ys.length + 1 + 1) by omega, show L.length - (L.length - 1) = 1 by omega, eT, eN]
    omega
end Go.Proofs.Ytibnbcljmfigfaa
