/- Which requests may be: what the program says, and the reference. -/
import Derived.Test.YtenndgooepdmiaaSWire2
namespace Go.Proofs.Ytenndgooepdmiaa
open Go Go.AM Go.Proofs
set_option maxRecDepth 4000
set_option linter.unusedSimpArgs false
set_option linter.unusedVariables false
def numOk (n : Int) : Bool := decide (0 ≤ n) && decide (n ≤ 1099511627775)
def txtOk (k v : Bs) : Bool := decide (k.length ≤ 40) && decide (v.length ≤ 20)
def cmpOk (c : Cmp) : Bool := txtOk c.key c.value && decide (1 ≤ c.what) && decide (c.what ≤ 4) && decide (1 ≤ c.how) && decide (c.how ≤ 3) && numOk c.n
def mutOk (m : Mut) : Bool := txtOk m.key m.value && numOk m.lease
def cmpsOk (s : Sl Cmp) : Bool := decide (s.l.length ≤ 4) && s.l.all cmpOk
def mutsOk (s : Sl Mut) : Bool := decide (s.l.length ≤ 4) && s.l.all mutOk
def reqOk (r : Req) : Bool := (decide (1 ≤ r.kind) && decide (r.kind ≤ 8)) && txtOk r.key r.value && (numOk r.who && (numOk r.seq && (numOk r.lease && (numOk r.rev && (numOk r.ttl && numOk r.token))))) && cmpsOk r.iff && mutsOk r.thn && mutsOk r.els
theorem all_any {α : Type} (p : α → Bool) (l : List α) : l.all p = !(l.any fun x => !p x) := by
  induction l with
  | nil => rfl
  | cons x l ih => simp only [List.all_cons, List.any_cons, ih]; cases p x <;> rfl
theorem num1_ev (n : Int) (H : List Blk) : EvF tab 78 [I n] H = some ⟨B (!numOk n), [], []⟩ := by
  refine EvF_walk t78 (by simp) ?_
  unfold numOk
  by_cases h1 : n < 0
  · simp -implicitDefEqProofs [h1, show ¬ 0 ≤ n by omega]
  · by_cases h2 : n ≤ 1099511627775
    · simp -implicitDefEqProofs [h1, h2, show 0 ≤ n by omega, show ¬ 1099511627775 < n by omega]
    · simp -implicitDefEqProofs [h1, h2, show 0 ≤ n by omega, show 1099511627775 < n by omega]
theorem number_ev (l : List Int) (hl : l.length ≤ 9223372036854775807) (H : List Blk) : EvF tab 49 [.g (ints l)] H = some ⟨B (l.all numOk), [], []⟩ := by
  have hc := contains_ev (Tb := tab) (f := 77) (g := 88) (agg := false) (n := 1) (c := fun x : Int => [GV.int .i64 x]) t77 t88 (fun x => I x) (fun x => !numOk x) (.g (.fn 78)) (.of l) hl H (by simp) (fun x _ t => by
    simp -implicitDefEqProofs [num1_ev])
  refine EvF_walk t49 (by simp) ?_
  simp only [Sl.g_of, Sl.l_of] at hc
  unfold ints
  rw [all_any]
  generalize (l.any fun x => !numOk x) = b at hc ⊢
  simp -implicitDefEqProofs [hc]
theorem texts_ev (k v : Bs) (H : List Blk) : EvF tab 48 [T k, T v] H = some ⟨B (txtOk k v), [], []⟩ := by
  refine EvF_walk t48 (by simp) ?_
  unfold txtOk
  by_cases h1 : k.length ≤ 40
  · by_cases h2 : v.length ≤ 20
    · simp -implicitDefEqProofs [h1, h2, show (k.length : Int) ≤ 40 by omega, show (v.length : Int) ≤ 20 by omega]
    · simp -implicitDefEqProofs [h1, h2, show (k.length : Int) ≤ 40 by omega, show ¬ (v.length : Int) ≤ 20 by omega]
  · simp -implicitDefEqProofs [h1, show ¬ (k.length : Int) ≤ 40 by omega]
theorem num_one (n : Int) (H : List Blk) : EvF tab 49 [.g (.sl 1 [[.int .i64 n]])] H = some ⟨B (numOk n), [], []⟩ := by
  have := number_ev [n] (by simp) H
  simp only [ints, List.map_cons, List.map_nil, List.all_cons, List.all_nil, Bool.and_true] at this
  exact this
theorem mayCmp_ev (c : Cmp) (H : List Blk) : EvF tab 51 [A c.c] H = some ⟨B (cmpOk c), [], []⟩ := by
  refine EvF_walk t51 (by simp) ?_
  unfold cmpOk
  have ht := texts_ev c.key c.value
  have hn := num_one c.n
  generalize txtOk c.key c.value = b1 at ht ⊢
  generalize numOk c.n = b2 at hn ⊢
  cases b1
  · simp -implicitDefEqProofs [A, Cmp.c, ht]
  · by_cases h1 : 1 ≤ c.what
    · by_cases h2 : c.what ≤ 4
      · by_cases h3 : 1 ≤ c.how
        · by_cases h4 : c.how ≤ 3
          · simp -implicitDefEqProofs [A, Cmp.c, ht, hn, h1, h2, h3, h4, chunk]
          · simp -implicitDefEqProofs [A, Cmp.c, ht, hn, h1, h2, h3, h4, chunk]
        · simp -implicitDefEqProofs [A, Cmp.c, ht, hn, h1, h2, h3, chunk]
      · simp -implicitDefEqProofs [A, Cmp.c, ht, hn, h1, h2, chunk]
    · simp -implicitDefEqProofs [A, Cmp.c, ht, hn, h1, chunk]
theorem mayMut_ev (m : Mut) (H : List Blk) : EvF tab 53 [A m.c] H = some ⟨B (mutOk m), [], []⟩ := by
  refine EvF_walk t53 (by simp) ?_
  unfold mutOk
  have ht := texts_ev m.key m.value
  have hn := num_one m.lease
  generalize txtOk m.key m.value = b1 at ht ⊢
  generalize numOk m.lease = b2 at hn ⊢
  cases b1 <;> simp -implicitDefEqProofs [A, Mut.c, ht, hn, chunk]
theorem allCmp1_ev (c : Cmp) {H : List Blk} {p : Nat} (hp : H[p]? = some (.cells [.g (.fn 51)])) : EvF tab 80 [A c.c, .ptr p 0] H = some ⟨B (!cmpOk c), [], []⟩ := by
  refine EvF_walk t80 (by simp) ?_
  have hpl : p < H.length := (List.getElem?_eq_some_iff.1 hp).1
  have hp2 := (List.getElem?_eq_some_iff.1 hp).2
  have hm := fun H => mayCmp_ev c H
  obtain ⟨b, eb⟩ : ∃ b, cmpOk c = b := ⟨_, rfl⟩
  rw [eb] at hm ⊢
  simp only [A, Cmp.c, List.map_cons, List.map_nil] at hm
  simp -implicitDefEqProofs [A, Cmp.c, hp2, hpl, getB_old, orB, hm]
theorem allMut1_ev (c : Mut) {H : List Blk} {p : Nat} (hp : H[p]? = some (.cells [.g (.fn 53)])) : EvF tab 82 [A c.c, .ptr p 0] H = some ⟨B (!mutOk c), [], []⟩ := by
  refine EvF_walk t82 (by simp) ?_
  have hpl : p < H.length := (List.getElem?_eq_some_iff.1 hp).1
  have hp2 := (List.getElem?_eq_some_iff.1 hp).2
  have hm := fun H => mayMut_ev c H
  obtain ⟨b, eb⟩ : ∃ b, mutOk c = b := ⟨_, rfl⟩
  rw [eb] at hm ⊢
  simp only [A, Mut.c, List.map_cons, List.map_nil] at hm
  simp -implicitDefEqProofs [A, Mut.c, hp2, hpl, getB_old, orB, hm]
theorem allCmp_ev (s : Sl Cmp) (hl : s.l.length ≤ 9223372036854775807) (H : List Blk) : EvF tab 50 [.g (Cmps.g s), I 4, .g (.fn 51)] H = some ⟨B (cmpsOk s), [], []⟩ := by
  have hc := contains_ev (Tb := tab) (f := 79) (g := 89) (agg := true) (n := 5) (c := Cmp.c) t79 t89 (fun x => A x.c) (fun x => !cmpOk x) (.fv 80 [.ptr H.length 0]) s hl (H ++ [.cells [.g (.fn 51)]]) (fun x => by simp [A, Cmp.c]) (fun x _ t => by
    have h1 := allCmp1_ev x (H := H ++ [.cells [.g (.fn 51)]]) (p := H.length) (by simp)
    simp -implicitDefEqProofs [h1])
  refine EvF_walk t50 (by simp) ?_
  unfold cmpsOk
  rw [all_any]
  generalize (s.l.any fun x => !cmpOk x) = b at hc ⊢
  by_cases h1 : s.l.length ≤ 4
  · simp -implicitDefEqProofs [hc, h1, show (s.l.length : Int) ≤ 4 by omega]
  · simp -implicitDefEqProofs [hc, h1, show ¬ (s.l.length : Int) ≤ 4 by omega]
theorem allMut_ev (s : Sl Mut) (hl : s.l.length ≤ 9223372036854775807) (H : List Blk) : EvF tab 52 [.g (Muts.g s), I 4, .g (.fn 53)] H = some ⟨B (mutsOk s), [], []⟩ := by
  have hc := contains_ev (Tb := tab) (f := 81) (g := 90) (agg := true) (n := 4) (c := Mut.c) t81 t90 (fun x => A x.c) (fun x => !mutOk x) (.fv 82 [.ptr H.length 0]) s hl (H ++ [.cells [.g (.fn 53)]]) (fun x => by simp [A, Mut.c]) (fun x _ t => by
    have h1 := allMut1_ev x (H := H ++ [.cells [.g (.fn 53)]]) (p := H.length) (by simp)
    simp -implicitDefEqProofs [h1])
  refine EvF_walk t52 (by simp) ?_
  unfold mutsOk
  rw [all_any]
  generalize (s.l.any fun x => !mutOk x) = b at hc ⊢
  by_cases h1 : s.l.length ≤ 4
  · simp -implicitDefEqProofs [hc, h1, show (s.l.length : Int) ≤ 4 by omega]
  · simp -implicitDefEqProofs [hc, h1, show ¬ (s.l.length : Int) ≤ 4 by omega]
/-- The lists of a request, so many things at most. -/
def RL (r : Req) : Prop := r.iff.l.length ≤ 9223372036854775807 ∧ r.thn.l.length ≤ 9223372036854775807 ∧ r.els.l.length ≤ 9223372036854775807
theorem rl {r : Req} (w : r.wf) : RL r := ⟨w.2.2.2.2.2.2.2.2.2.1.2, w.2.2.2.2.2.2.2.2.2.2.1.2, w.2.2.2.2.2.2.2.2.2.2.2.2⟩
theorem MayAsk_ev (r : Req) (w : RL r) (H : List Blk) : EvF tab 14 [A r.c] H = some ⟨B (reqOk r), [], []⟩ := by
  have ht := texts_ev r.key r.value
  have hn := number_ev [r.who, r.seq, r.lease, r.rev, r.ttl, r.token] (by simp)
  have e : ([r.who, r.seq, r.lease, r.rev, r.ttl, r.token].all numOk) = (numOk r.who && (numOk r.seq && (numOk r.lease && (numOk r.rev && (numOk r.ttl && numOk r.token))))) := by simp only [List.all_cons, List.all_nil, Bool.and_true]
  rw [e] at hn
  simp only [ints, List.map_cons, List.map_nil] at hn
  have hc := allCmp_ev r.iff w.1
  have hm1 := allMut_ev r.thn w.2.1
  have hm2 := allMut_ev r.els w.2.2
  refine EvF_walk t14 (by simp) ?_
  unfold reqOk
  generalize txtOk r.key r.value = b1 at ht ⊢
  generalize (numOk r.who && (numOk r.seq && (numOk r.lease && (numOk r.rev && (numOk r.ttl && numOk r.token))))) = b2 at hn ⊢
  generalize cmpsOk r.iff = b3 at hc ⊢
  generalize mutsOk r.thn = b4 at hm1 ⊢
  generalize mutsOk r.els = b5 at hm2 ⊢
  generalize hG1 : Cmps.g r.iff = G1 at hc
  generalize hG2 : Muts.g r.thn = G2 at hm1
  generalize hG3 : Muts.g r.els = G3 at hm2
  by_cases h1 : 1 ≤ r.kind
  · by_cases h2 : r.kind ≤ 8
    · cases b1
      · simp -implicitDefEqProofs [A, Req.c, hG1, hG2, hG3, ht, h1, h2, show ¬ r.kind < 1 by omega, show ¬ 8 < r.kind by omega]
      · cases b2
        · simp -implicitDefEqProofs [A, Req.c, hG1, hG2, hG3, ht, hn, chunk, h1, h2, show ¬ r.kind < 1 by omega, show ¬ 8 < r.kind by omega]
        · cases b3
          · simp -implicitDefEqProofs [A, Req.c, hG1, hG2, hG3, ht, hn, hc, chunk, h1, h2, show ¬ r.kind < 1 by omega, show ¬ 8 < r.kind by omega]
          · cases b4
            · simp -implicitDefEqProofs [A, Req.c, hG1, hG2, hG3, ht, hn, hc, hm1, chunk, h1, h2, show ¬ r.kind < 1 by omega, show ¬ 8 < r.kind by omega]
            · simp -implicitDefEqProofs [A, Req.c, hG1, hG2, hG3, ht, hn, hc, hm1, hm2, chunk, h1, h2, show ¬ r.kind < 1 by omega, show ¬ 8 < r.kind by omega]
    · simp -implicitDefEqProofs [A, Req.c, hG1, hG2, hG3, h1, h2, show ¬ r.kind < 1 by omega, show 8 < r.kind by omega]
  · simp -implicitDefEqProofs [A, Req.c, hG1, hG2, hG3, h1, show r.kind < 1 by omega]
end Go.Proofs.Ytenndgooepdmiaa
