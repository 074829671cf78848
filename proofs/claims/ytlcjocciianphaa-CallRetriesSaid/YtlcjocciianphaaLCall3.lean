/- The law CallRetries. -/
import Derived.Test.YtlcjocciianphaaLCall2
namespace Go.Proofs.Ytlcjocciianphaa
open Go Go.AM Go.Proofs
set_option maxRecDepth 20000
set_option maxHeartbeats 4000000
set_option linter.unusedSimpArgs false
set_option linter.unusedVariables false
def cK (r : Req) (now : Int) (k : Nat) : AM.Call := ⟨true, r, now, now + waitN k, k⟩
theorem retries_step (r : Req) (w : r.wf) (hok : reqOk r = true) (now : Int) (h0 : 0 ≤ now) (h1 : now ≤ 549755813888) (n k : Nat) (hk : k < n) (hn : n ≤ 20) (o : List Blk) :
    ∃ o', kpN [1, 2, 3, 7, 9, 10] (evCode (EvF tab) [] L11_0 ⟨[(1, I now), (2, I n), (3, .ptr 0 0), (7, T (encReq r)), (9, .ptr 4 0), (10, I k)], [], .cells (r.c.map .g) :: .rows 5 1 [] :: .rows 4 1 [] :: .rows 4 1 [] :: .cells ((cK r now k).c.map .g) :: o⟩) =
      some (.normal, ⟨[(1, I now), (2, I n), (3, .ptr 0 0), (7, T (encReq r)), (9, .ptr 4 0), (10, I (k + 1 : Nat))], [], .cells (r.c.map .g) :: .rows 5 1 [] :: .rows 4 1 [] :: .rows 4 1 [] :: .cells ((cK r now (k + 1)).c.map .g) :: o'⟩) := by
  refine ⟨o ++ [.rows 5 1 [], .rows 4 1 [], .rows 4 1 [], .cells ((cK r now k).c.map .g), .rows 5 1 [], .rows 4 1 [], .rows 4 1 [], .cells ((cK r now (k + 1)).c.map .g)], ?_⟩
  have b1 := waitN_bd (k : Int)
  have b2 := pauseN_bd (k : Int)
  have hwf : (cK r now k).wf := ⟨w, ⟨by simp only [cK]; omega, by simp only [cK]; omega⟩, ⟨by simp only [cK]; omega, by simp only [cK]; omega⟩, ⟨by simp only [cK]; omega, by simp only [cK]; omega⟩⟩
  have hsucc : waitN ((k : Int) + 1) = waitN k + pauseN k := waitN_succ (by omega) (by omega)
  have m1 := fun H => Wait_ev (k : Int) H
  have m2 := fun H => Wait_ev ((k : Int) + 1) H
  have m3 := fun H => Pause2_ev (k : Int) H
  have m4 := fun H => Sends_ev (cK r now k) hwf (now + waitN k - 1) H
  have m5 := fun H => Sends_ev (cK r now k) hwf (now + waitN k) H
  have o4 : sendsOk (cK r now k) (now + waitN k - 1) = false := by simp [sendsOk, cK, show ¬ now + waitN (k : Int) ≤ now + waitN (k : Int) - 1 by omega]
  have o5 : sendsOk (cK r now k) (now + waitN k) = true := by simp [sendsOk, cK, hok, timOk]; omega
  have m6 := fun H => Same_ev r r ⟨rfl, rfl, rfl, rfl, rfl, rfl, rfl, rfl, rfl, rfl, rfl, rfl, rfl⟩ w.2.2.2.2.2.2.2.2.2.1.2 w.2.2.2.2.2.2.2.2.2.2.1.2 w.2.2.2.2.2.2.2.2.2.2.2.2 H
  have e1 : IntKind.i64.wrap (now + waitN k) = now + waitN k := wrap_i64 (by omega) (by omega)
  have e2 : IntKind.i64.wrap (now + waitN k - 1) = now + waitN k - 1 := wrap_i64 (by omega) (by omega)
  have e3 : IntKind.i64.wrap ((k : Int) + 1) = (k : Int) + 1 := wrap_i64 (by omega) (by omega)
  have e4 : IntKind.i64.wrap (waitN k + pauseN k) = waitN k + pauseN k := wrap_i64 (by omega) (by omega)
  simp only [sendsC, sendsT, o4, o5, Bool.false_eq_true, if_true, if_false] at m4 m5
  simp only [cK, e3] at m4 m5
  rw [hsucc] at m2
  have eK : now + waitN ((k : Int) + 1) = now + waitN k + pauseN k := by omega
  unfold cK
  simp only [show (((k + 1 : Nat) : Nat) : Int) = (k : Int) + 1 by omega, eK]
  generalize encReq r = er at m5 ⊢
  generalize waitN (k : Int) = wk at m1 m2 m4 m5 e1 e2 e4 ⊢
  generalize pauseN (k : Int) = pk at m2 m3 m5 e4 ⊢
  simp only [A, Call.c, Req.c, List.map_cons, List.map_nil, List.cons_append, List.nil_append] at m4 m5 m6 ⊢
  delta L11_0
  simp -implicitDefEqProofs [zres, m1, m2, m3, m4, m5, m6, e1, e2, e3, e4, show (k : Int) < n by omega, hk]
theorem retries_loop (r : Req) (w : r.wf) (hok : reqOk r = true) (now : Int) (h0 : 0 ≤ now) (h1 : now ≤ 549755813888) (n : Nat) (hn : n ≤ 20) :
    ∃ o', loopE (EvF tab) [] L11_0 [1, 2, 3, 7, 9, 10] ⟨[(1, I now), (2, I n), (3, .ptr 0 0), (7, T (encReq r)), (9, .ptr 4 0), (10, I 0)], [], [.cells (r.c.map .g), .rows 5 1 [], .rows 4 1 [], .rows 4 1 [], .cells ((cK r now 0).c.map .g)]⟩ =
      some (.exit 0, ⟨[(1, I now), (2, I n), (3, .ptr 0 0), (7, T (encReq r)), (9, .ptr 4 0), (10, I n), (53, B false)], [], .cells (r.c.map .g) :: .rows 5 1 [] :: .rows 4 1 [] :: .rows 4 1 [] :: .cells ((cK r now n).c.map .g) :: o'⟩) := by
  have hw := loop_runJ (E := EvF tab) (h := []) (c := L11_0) (lv := [1, 2, 3, 7, 9, 10]) (l := List.replicate n ()) (β := Unit) (γ := Unit) (fun _ _ => True) (fun k x b => .inl ())
    (fun k _ o => ⟨[(1, I now), (2, I n), (3, .ptr 0 0), (7, T (encReq r)), (9, .ptr 4 0), (10, I k)], [], .cells (r.c.map .g) :: .rows 5 1 [] :: .rows 4 1 [] :: .rows 4 1 [] :: .cells ((cK r now k).c.map .g) :: o⟩)
    (fun _ o => (.exit 0, ⟨[(1, I now), (2, I n), (3, .ptr 0 0), (7, T (encReq r)), (9, .ptr 4 0), (10, I n), (53, B false)], [], .cells (r.c.map .g) :: .rows 5 1 [] :: .rows 4 1 [] :: .rows 4 1 [] :: .cells ((cK r now n).c.map .g) :: o⟩)) (fun _ o => (.ret, ⟨[], [], o⟩)) (by simp) (by simp)
    (fun k x _ o hk hx hy _ => ?_) (fun _ o _ => by rw [List.length_replicate]; delta L11_0; simp -implicitDefEqProofs) () [] trivial
  · obtain ⟨o', hw⟩ := hw
    refine ⟨o', ?_⟩
    have key : ∀ (l : List Unit) (k : Nat) (b : Unit), runG (γ := Unit) (fun k (x : Unit) b => .inl ()) k l b = .inl () := by
      intro l
      induction l with
      | nil => intro k b; simp [runG]
      | cons x l ih => intro k b; simp only [runG, ih]
    rw [key] at hw
    have e0 : ((0 : Nat) : Int) = 0 := rfl
    simp only [e0, endJ] at hw
    exact hw
  · rw [List.length_replicate] at hk
    obtain ⟨o', h⟩ := retries_step r w hok now h0 h1 n k hk hn o
    exact ⟨trivial, o', h⟩
theorem CallRetries_law (x0 : Req) (x1 x2 : Int) (w0 : x0.wf) (w1 : I64 x1) (w2 : I64 x2) : EvF tab 11 [A x0.c, I x1, I x2] [] = some ⟨.g (.bool true), [], []⟩ := by
  have m1 := fun H => Short_ev x0 w0 H
  have m2 := fun H => MayAsk_ev x0 w0 H
  have m3 := fun H => Ask_ev x0 w0 H
  have m4 := fun H => Begin_ev x0 x1 H
  refine EvF_walk t11 (by simp) ?_
  generalize shortReq x0 = b1 at m1
  cases hok : reqOk x0
  · rw [hok] at m2
    simp only [A, Call.c, Req.c, List.map_cons, List.map_nil, List.cons_append, List.nil_append] at m1 m2
    cases b1 <;> simp -implicitDefEqProofs [A, Req.c, m1, m2, live13]
  · rw [hok, if_pos rfl] at m3
    rw [hok] at m2
    have hL := fun h0 h1 => retries_loop x0 w0 hok x1 h0 h1
    generalize encReq x0 = er at m3 hL
    simp only [A, Call.c, Req.c, List.map_cons, List.map_nil, List.cons_append, List.nil_append] at m1 m2 m3 m4
    cases b1
    · simp -implicitDefEqProofs [A, Req.c, m1, live13]
    · by_cases h0 : x1 < 0
      · simp -implicitDefEqProofs [A, Req.c, m1, m2, h0, live13]
      · by_cases h1 : 549755813888 < x1
        · simp -implicitDefEqProofs [A, Req.c, m1, m2, h0, h1, live13]
        · by_cases h2 : x2 < 0
          · simp -implicitDefEqProofs [A, Req.c, m1, m2, h0, h1, h2, live13]
          · by_cases h3 : 20 < x2
            · simp -implicitDefEqProofs [A, Req.c, m1, m2, h0, h1, h2, h3, live13]
            · obtain ⟨n, rfl⟩ : ∃ n : Nat, x2 = n := ⟨x2.toNat, by omega⟩
              obtain ⟨o', hw⟩ := hL (by omega) (by omega) n (by omega)
              simp only [cK, Call.c, Req.c, List.map_cons, List.map_nil, List.cons_append, List.nil_append, show ((0 : Nat) : Int) = 0 from rfl, show waitN 0 = 0 from rfl, Int.add_zero] at hw
              simp -implicitDefEqProofs [A, Req.c, zres, m1, m2, m3, m4, h0, h1, h2, h3, hw, live13]
end Go.Proofs.Ytlcjocciianphaa
