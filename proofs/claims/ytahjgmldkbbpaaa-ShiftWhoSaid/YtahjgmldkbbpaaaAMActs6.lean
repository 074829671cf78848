/- The operations that act on memory: the theorem. -/
import Derived.Test.YtahjgmldkbbpaaaAMActs5
set_option linter.unusedSimpArgs false
set_option linter.unusedVariables false
namespace Go.AM
open Go

section
variable {P : Program} {h : List Blk} {s s' : St} {a : Act} {w : World} {L : Nat → Lc} {v : AV} {ws : List Nat} {drw : Option Nat} {nb : Nat}

theorem rowT_ok {e : TypeId} {r : Nat × Nat × List GV} (hr : rowT P e = some r) : szT P e = some r.1 ∧ bytesT P e = some r.2.1 ∧ r.2.2.length = r.1 ∧
    ∃ i z, P.info? e = some i ∧ i.zero = some z ∧ (P.info? e).bind (·.zero) = some z ∧ z.cells.size = r.1 ∧ ∀ (E : Env) (j : Nat) (g : GV) (u : Value), r.2.2[j]? = some g → z.cells[j]? = some u → GR E g u := by
  unfold rowT at hr
  cases h1 : szT P e with
  | none => simp [h1] at hr
  | some n =>
    cases h2 : bytesT P e with
    | none => simp [h1, h2] at hr
    | some b =>
      cases h3 : cZero P e with
      | none => simp [h1, h2, h3] at hr
      | some z =>
        cases h4 : z.mapM gOf with
        | none => simp [h1, h2, h3, h4] at hr
        | some g =>
          simp [h1, h2, h3, h4] at hr
          obtain ⟨hl, rfl⟩ := hr
          obtain ⟨i, zv, e1, e2, _, _⟩ := cZero_ok (E := ⟨default, fun _ => False, fun _ => ⟨none, 0, 0, false⟩, 0, fun _ => False⟩) h3
          obtain ⟨m1, m2⟩ := mapM_get h4
          refine ⟨rfl, rfl, hl, i, zv, e1, e2, by simp [e1, e2], ?_, fun E j gg u hg hu => ?_⟩
          · obtain ⟨_, _, e1', e2', c1, _⟩ := cZero_ok (E := ⟨default, fun _ => False, fun _ => ⟨none, 0, 0, false⟩, 0, fun _ => False⟩) h3
            rw [e1] at e1'; cases e1'; rw [e2] at e2'; cases e2'
            rw [← c1.1, ← m1]; exact hl
          · obtain ⟨_, _, e1', e2', c1, _⟩ := cZero_ok (E := E) h3
            rw [e1] at e1'; cases e1'; rw [e2] at e2'; cases e2'
            have hlt : j < z.length := by rw [c1.1]; exact (Array.getElem?_eq_some_iff.1 hu).1
            have hz := List.getElem?_eq_getElem hlt
            have := m2 j _ gg hz hg
            have har := c1.2 j _ u hz hu
            cases hq : z[j] with
            | g x => rw [hq] at this har; simp [gOf] at this; subst this; exact har.inv_g
            | _ => rw [hq] at this; simp [gOf] at this

/-- Zero elements, and their cells. -/
theorem zero_new {E : Env} {z : Value} {g : List GV} {sz : Nat} (hz : z.cells.size = sz) (hg : g.length = sz) (hr : ∀ (j : Nat) (x : GV) (u : Value), g[j]? = some x → z.cells[j]? = some u → GR E x u) (n : Nat) :
    NewIs E sz (List.replicate n g) (Builtin.zeroCells z.cells n).toList := by
  refine ⟨by simp [size_zeroCells, hz], fun i el hi => ?_⟩
  have hel : el = g ∧ i < n := by
    rw [List.getElem?_replicate] at hi
    split at hi
    · cases hi; exact ⟨rfl, by assumption⟩
    · cases hi
  obtain ⟨rfl, hin⟩ := hel
  refine ⟨hg, fun j x hj => ?_⟩
  have hjs : j < sz := by rw [← hg]; exact (List.getElem?_eq_some_iff.1 hj).1
  have hjz : j < z.cells.size := by omega
  refine ⟨z.cells[j], ?_, hr j x _ hj (Array.getElem?_eq_getElem hjz)⟩
  have hk : i * sz + j < n * z.cells.size := by rw [hz]; exact mul_lt_row hin hjs
  have hmod : (i * sz + j) % z.cells.size = j := by rw [hz, Nat.mul_comm, Nat.mul_add_mod, Nat.mod_eq_of_lt hjs]
  unfold Builtin.zeroCells
  simp only [Array.toList_map, Array.toList_range, List.getElem?_map, List.getElem?_range hk, Option.map_some, hmod]
  congr 1
  exact getElem!_pos z.cells j hjz

theorem set_same {α : Type} {l : List α} {i : Nat} {x : α} (h : l[i]? = some x) : l.set i x = l := by
  apply List.ext_getElem?
  intro j
  by_cases e : i = j
  · subst e; rw [List.getElem?_set_self (List.getElem?_eq_some_iff.1 h).1, h]
  · rw [List.getElem?_set_ne e]

theorem app_args {cargs : Array Operand} {X Y : Opd} (hxs : cOpds cargs.toList = some [X, Y]) : ∃ x y, cargs.map a.eval = #[a.eval x, a.eval y] ∧ cOpd x = some X ∧ cOpd y = some Y := by
  obtain ⟨x, y, hl, hx, hy⟩ := cOpds_two hxs
  refine ⟨x, y, ?_, hx, hy⟩
  have : cargs = #[x, y] := by
    apply Array.ext'; simpa using hl
  subst this; simp

theorem size_two {cts : Array TypeId} (h : cts.size = 2) : cts = #[cts.getD 0 0, cts.getD 1 0] := by
  match cts, h with
  | ⟨[x, y]⟩, _ => rfl

theorem bytes_new {E : Env} (b : List UInt8) : NewIs E 1 (bytesG b) (b.map fun c => Value.int .u8 c.toNat) := by
  refine ⟨by simp [bytesG], fun i el hi => ?_⟩
  simp [bytesG] at hi
  obtain ⟨c, hc, rfl⟩ := hi
  refine ⟨rfl, fun j g hj => ?_⟩
  match j with
  | 0 => simp at hj; subst hj; exact ⟨.int .u8 c.toNat, by simp [hc], .int _ _⟩
  | j + 1 => simp at hj

theorem i_builtin (hr : HR w (full h s) L) (ht : TR (envOf w (full h s) L) a s.t) {dst : Option Tmp} {ty : TypeId} {pos : String} {after : Array Edge} {gd : Option (Nat × Bool)} {b : Builtin} {cargs : Array Operand} {cts : Array TypeId} {xs : List Opd} {ao : AOp} (hxs : cOpds cargs.toList = some xs) (hc : cBuiltin P b cts xs = some ao)
    (he : evI h nb s ao = some (v, s', ws)) : Im w (full h s) L ((execOp a.eval ⟨dst, .call ⟨.builtin b, cargs, cts⟩, ty, pos, after, gd⟩).run P w) v (full h s') ws ∧ s'.t = s.t := by
  have hrun : ∀ {cv : Value} {w' : World}, (builtin b cts ty (cargs.map fun | .const _ => true | _ => false) (cargs.map a.eval)).run P w = .ok (.value cv) w' → (execOp a.eval ⟨dst, .call ⟨.builtin b, cargs, cts⟩, ty, pos, after, gd⟩).run P w = .ok (.value cv) w' := by
    intro cv w' h1
    simp only [execOp, resolve, pure_bind, invoke]
    exact h1
  -- append
  have app : ∀ {e t u : TypeId} {r : Nat × Nat × List GV} {X Y : Opd} {x y : Operand} {vx : AV} {ys : List (List GV)} {news : List Value}, b = .append → cts = #[t, u] → cargs.map a.eval = #[a.eval x, a.eval y] → rowT P e = some r →
      AR (envOf w (full h s) L) vx (a.eval x) → NewIs (envOf w (full h s) L) r.1 ys news →
      (∀ (A : Option Addr) (sLen sCap : Nat) (w2 : World), sLen + ys.length ≤ sCap → (match A with | none => w2 = w | some a => (storeCells (a.add (sLen * r.1)) news).run P w = .ok () w2) →
        (Builtin.append_ #[t, u] ty #[.slice A sLen sCap, a.eval y]).run P w = .ok (.slice A (sLen + ys.length) sCap) w2) →
      (∀ (z : Value), (P.info? e).bind (·.zero) = some z → z.cells.size = r.1 → ∀ (A : Option Addr) (sLen sCap : Nat) (olds : List Value), ¬ sLen + ys.length ≤ sCap → sLen + ys.length ≤ 9223372036854775807 → (sLen + ys.length) * r.2.1 ≤ 140737488355328 →
        (∀ w1 : World, w1.heap = w.heap → (Builtin.firstCells r.1 sLen (.slice A sLen sCap)).run P w1 = .ok olds.toArray w1) →
        (Builtin.append_ #[t, u] ty #[.slice A sLen sCap, a.eval y]).run P w = .ok (.slice (some ⟨w.heap.size, 0, none⟩) (sLen + ys.length) (grownCap w (sLen + ys.length) sCap e)) (grownW w (sLen + ys.length) sCap e z olds news)) →
      appV h s r.1 r.2.1 vx ys = some (v, s', ws) →
      Im w (full h s) L ((execOp a.eval ⟨dst, .call ⟨.builtin b, cargs, cts⟩, ty, pos, after, gd⟩).run P w) v (full h s') ws ∧ s'.t = s.t := by
    intro e t u r X Y x y vx ys news hb hct hca hrow hx hy h1 h2 hap
    subst hb
    obtain ⟨_, _, _, i, z, _, _, hz, hzs, _⟩ := rowT_ok hrow
    obtain ⟨⟨cv, w', L', k1, k2, k3, k4, k5⟩, kt⟩ := appV_ok (P := P) (t := t) (u := u) (ty := ty) (e := e) hr hzs hx hy h1 (h2 z hz hzs) hap
    refine ⟨⟨_, w', L', hrun (cv := cv) (w' := w') ?_, .inl ⟨cv, rfl, k2⟩, k3, k4, k5⟩, kt⟩
    simp only [builtin]
    rw [Sem.run_bind, hct, hca, k1]
    rfl
  unfold cBuiltin at hc
  cases b <;> (try (cases hc; done)) <;> dsimp only at hc
  case len => split at hc <;> (try (cases hc; done)) <;> (split at hc <;> (try (cases hc; done)) <;> (cases hc; simp [evI] at he))
  case cap => split at hc <;> (try (cases hc; done)) <;> (split at hc <;> (try (cases hc; done)) <;> (cases hc; simp [evI] at he))
  case max => split at hc <;> (try (cases hc; done)) <;> (cases hc; simp [evI] at he)
  case min => split at hc <;> (try (cases hc; done)) <;> (cases hc; simp [evI] at he)
  case append =>
    split at hc
    · rename_i X Y e e2 hu1 hu2
      split at hc
      · rename_i hsz
        cases hrow : rowT P e with
        | none => simp [hrow] at hc
        | some r =>
          simp [hrow] at hc
          subst hc
          obtain ⟨x, y, hca, hx, hy⟩ := app_args (a := a) hxs
          simp only [evI] at he
          split at he
          · rename_i vx vy hX hY
            cases hvw : viewN h s r.1 vy with
            | none => simp [hvw] at he
            | some ys =>
              simp only [hvw] at he
              obtain ⟨q1, q2, _⟩ := rowT_ok hrow
              obtain ⟨A, cap, news, e1, e2', hns, hf⟩ := viewN_ok (P := P) hr hvw (cOpd_ok ht hy hY)
              have hsrc : Src P (cts.getD 1 0) (a.eval y) r.1 ys.length news w := ⟨⟨_, hu2, .inl ⟨_, rfl⟩⟩, fun w1 => by rw [e1]; rfl, hf⟩
              exact app (X := X) (Y := Y) rfl (size_two hsz) hca hrow (cOpd_ok ht hx hX) hns (fun A sLen sCap w2 h1 h2 => run_app_room hu1 q1 q2 A sLen sCap _ _ news hsrc h1 w2 h2)
                (fun z hz hzs A sLen sCap olds h1 h2 h3 h4 => run_app_grow hu1 q1 q2 hz A sLen sCap _ _ olds news hsrc h1 h2 h3 h4) he
          · cases he
      · cases hc
    · rename_i X Y e hu1 hu2
      split at hc
      · rename_i hsz
        cases hrow : rowT P e with
        | none => simp [hrow] at hc
        | some r =>
          simp [hrow] at hc
          obtain ⟨⟨hr1, hr2⟩, rfl⟩ := hc
          obtain ⟨x, y, hca, hx, hy⟩ := app_args (a := a) hxs
          simp only [evI] at he
          split at he
          · rename_i vx bs hX hY
            obtain ⟨q1, q2, _⟩ := rowT_ok hrow
            have hye := (cOpd_ok ht hy hY).inv_g.inv_str
            have hlen : (bytesG bs).length = bs.length := by simp [bytesG]
            have hsrc : Src P (cts.getD 1 0) (a.eval y) r.1 (bytesG bs).length (bs.map fun c => Value.int .u8 c.toNat) w := by
              refine ⟨⟨_, hu2, .inr rfl⟩, fun w1 => by rw [hye, hlen]; simp [Builtin.lenOf]; rfl, fun w1 _ => ?_⟩
              rw [hye, hlen]
              simp only [Builtin.firstCells, Sem.run_pure]
              congr 1
              rw [ByteArray.extract_mk]
              simp
            have he : appV h s r.1 r.2.1 vx (bytesG bs) = some (v, s', ws) := by rw [hr1, hr2]; exact he
            have hns : NewIs (envOf w (full h s) L) r.1 (bytesG bs) (bs.map fun c => Value.int .u8 c.toNat) := by rw [hr1]; exact bytes_new bs
            exact app (X := X) (Y := Y) rfl (size_two hsz) hca hrow (cOpd_ok ht hx hX) hns (fun A sLen sCap w2 h1 h2 => run_app_room hu1 q1 q2 A sLen sCap _ _ _ hsrc h1 w2 h2)
              (fun z hz hzs A sLen sCap olds h1 h2 h3 h4 => run_app_grow hu1 q1 q2 hz A sLen sCap _ _ olds _ hsrc h1 h2 h3 h4) he
          · cases he
      · cases hc
    · rename_i X Y e k hu1 hu2
      split at hc
      · rename_i hsz
        cases hrow : rowT P e with
        | none => simp [hrow] at hc
        | some r =>
          simp [hrow] at hc
          subst hc
          obtain ⟨x, y, hca, hx, hy⟩ := app_args (a := a) hxs
          simp only [evI] at he
          split at he
          · rename_i vx n hX hY
            split at he
            · rename_i hcond
              obtain ⟨n0, n1, n2⟩ := hcond
              obtain ⟨q1, q2, q3, i, z, _, _, hz, hzs, hzr⟩ := rowT_ok hrow
              have hye := (cOpd_ok ht hy hY).inv_g.inv_int
              have hn : ((n.toNat : Nat) : Int) = n := Int.toNat_of_nonneg n0
              have hye' : a.eval y = .int .i64 n.toNat := by rw [hye, hn]
              have hl : (List.replicate n.toNat r.2.2).length = n.toNat := by simp
              have b1 : n.toNat ≤ 281474976710656 := by omega
              have b2 : n.toNat * r.2.1 ≤ 281474976710656 := by
                have : ((n.toNat * r.2.1 : Nat) : Int) = n * r.2.1 := by rw [Int.natCast_mul, hn]
                omega
              refine app (X := X) (Y := Y) (news := (Builtin.zeroCells z.cells n.toNat).toList) rfl (size_two hsz) hca hrow (cOpd_ok ht hx hX) (zero_new hzs q3 (hzr _) n.toNat) (fun A sLen sCap w2 h1 h2 => ?_) (fun z' hz' hzs' A sLen sCap olds h1 h2 h3 h4 => ?_) he
              · rw [hl] at h1 ⊢
                rw [hye']
                exact run_appZ_room hu1 q1 q2 A sLen sCap n.toNat (.int .i64 n.toNat) [] hz hzs hu2 b1 b2 h1 w2 h2
              · rw [hz] at hz'; cases hz'
                rw [hl] at h1 h2 h3 ⊢
                rw [hye']
                exact run_appZ_grow hu1 q1 q2 hz hzs A sLen sCap n.toNat olds hu2 b1 b2 h1 h2 h3 h4
            · cases he
          · cases he
      · cases hc
    · cases hc
  case clear =>
    split at hc
    · rename_i X e hu1
      split at hc
      · rename_i hsz
        cases hrow : rowT P e with
        | none => simp [hrow] at hc
        | some r =>
          simp [hrow] at hc
          subst hc
          obtain ⟨x, hl, hx⟩ := cOpds_one hxs
          have hca : cargs.map a.eval = #[a.eval x] := by
            have : cargs = #[x] := by apply Array.ext'; simpa using hl
            subst this; simp
          have hct : cts = #[cts.getD 0 0] := by
            match cts, hsz with
            | ⟨[y]⟩, _ => rfl
          obtain ⟨q1, q2, q3, i, z, hi, hz0, hz, hzs, hzr⟩ := rowT_ok hrow
          simp only [evI] at he
          split at he
          · rename_i hX
            simp at he
            obtain ⟨rfl, rfl, rfl⟩ := he
            have hq := (cOpd_ok ht hx hX).inv_g
            generalize hcx : a.eval x = cx at hq
            cases hq
            refine ⟨im_value (cv := .tuple #[]) (w' := w) (L' := L) (hrun ?_) (.tup (by simp) (by simp)) hr (Ext.refl _) (fun _ _ _ => ⟨rfl, fun _ _ _ => rfl⟩), rfl⟩
            simp only [builtin]
            rw [Sem.run_bind, hca, hcx]
            unfold Builtin.clear_
            rw [hct]
            generalize cts.getD 0 0 = t0 at hu1 ⊢
            simp [run_underlying hu1]
          · rename_i id g sz off len hX
            cases hB : getB h s id with
            | none => simp [hB] at he
            | some k =>
              cases k <;> simp [hB] at he
              rename_i sz' g' els
              obtain ⟨⟨rfl, rfl, hszr, hle⟩, rfl, rfl, rfl⟩ := he
              refine ⟨?_, setB_t _ _ _ _⟩
              have hcur : cur h s id g = true := by simp [cur, hB]
              have hq := cOpd_ok ht hx hX
              obtain ⟨hid, hg0, hgen, hm⟩ := ms_ok hr hcur hq
              have hget : (full h s)[id]? = some (.rows sz g els) := by rw [getB_full]; exact hB
              obtain ⟨hg1, ⟨hg2, hg3⟩, hrw⟩ := hr.blk id _ hget
              rw [show (envOf w (full h s) L).L id = L id from rfl] at hrw
              have hnews := zero_new (E := envOf w (full h s) L) (n := len) hzs q3 (hzr _)
              have hnl : (Builtin.zeroCells z.cells len).toList.length = len * sz := by rw [hnews.1]; simp [← q3, hszr]
              cases hbk : (L id).blk with
              | none =>
                rw [hbk] at hrw
                obtain ⟨rfl, hcap0⟩ := hrw
                unfold MsOk at hm
                rw [hbk] at hm
                obtain ⟨hcx, rfl, rfl⟩ := hm
                rw [full_setB]
                have hset : (full h s).set id (Blk.rows sz g (List.take 0 [] ++ (List.replicate 0 r.2.2 ++ List.drop (0 + 0) []))) = full h s := by
                  simp
                  exact set_same hget
                rw [hset]
                refine im_value (cv := .tuple #[]) (w' := w) (L' := L) (hrun ?_) (.tup (by simp) (by simp)) hr (Ext.refl _) (fun _ _ _ => ⟨rfl, fun _ _ _ => rfl⟩)
                simp only [builtin]
                rw [Sem.run_bind, hca, hcx]
                unfold Builtin.clear_
                rw [hct]
                generalize cts.getD 0 0 = t0 at hu1 ⊢
                simp [run_underlying hu1]
              | some b =>
                rw [hbk] at hrw
                obtain ⟨T, C, hb2, hC1, hC2, hC3⟩ := hrw
                unfold MsOk at hm
                rw [hbk] at hm
                obtain ⟨A, c, hcx, hoc, hlc, hA⟩ := hm
                have hC1' : C.size = (L id).cap * sz := hC1
                have hC2' : els.length ≤ (L id).cap := hC2
                by_cases hl0 : len = 0
                · subst hl0
                  rw [full_setB]
                  have hset : (full h s).set id (Blk.rows sz g (List.take off els ++ (List.replicate 0 r.2.2 ++ List.drop (off + 0) els))) = full h s := by
                    simp
                    exact set_same hget
                  rw [hset]
                  refine im_value (cv := .tuple #[]) (w' := w) (L' := L) (hrun ?_) (.tup (by simp) (by simp)) hr (Ext.refl _) (fun _ _ _ => ⟨rfl, fun _ _ _ => rfl⟩)
                  simp only [builtin]
                  rw [Sem.run_bind, hca, hcx]
                  unfold Builtin.clear_
                  rw [hct]
                  generalize cts.getD 0 0 = t0 at hu1 ⊢
                  simp [run_underlying hu1]
                · have hA' : A = ⟨b, off * sz, none⟩ := hA.resolve_right (by omega)
                  subst hA'
                  have hbound : off * sz + (Builtin.zeroCells z.cells len).toList.length ≤ C.size := by
                    rw [hnl, hC1', ← Nat.add_mul]; exact Nat.mul_le_mul_right _ (by omega)
                  have hst := run_storeAll (P := P) (w := w) hb2 hbound hnews.one
                  obtain ⟨e1, e2, e3⟩ := hr.storeInto (k' := .rows sz g (els.take off ++ (List.replicate len r.2.2 ++ els.drop (off + len)))) hget rfl hbk hb2 (o := off * sz) (vs := (Builtin.zeroCells z.cells len).toList) hbound (fun C' z1 z2 hext z3 => by
                    have hLid : (envOf (w.setCells b (off * sz) (Builtin.zeroCells z.cells len).toList) ((full h s).set id (.rows sz g (els.take off ++ (List.replicate len r.2.2 ++ els.drop (off + len))))) (updL L id (L id))).L id = L id := by show updL L id (L id) id = _; rw [updL_self]
                    refine ⟨by rw [hLid]; exact hg1, ⟨by rw [hLid]; exact hg2, hg3⟩, ?_⟩
                    rw [hLid, hbk]
                    have hl1 : (els.take off).length = off := by simp; omega
                    have hrl : (List.replicate len r.2.2).length = len := by simp
                    refine ⟨T, C', z3, by rw [z1]; exact hC1, ?_, fun i el hi => ?_⟩
                    · simp; omega
                    · by_cases hin : off ≤ i ∧ i < off + len
                      · rw [List.getElem?_append_right (by omega), hl1, List.getElem?_append_left (by omega)] at hi
                        obtain ⟨p1, p2⟩ := hnews.2 _ el hi
                        have p1' : el.length = sz := by rw [p1, ← q3, hszr]
                        refine ⟨p1', fun j gv hj => ?_⟩
                        obtain ⟨uu, u1, u2⟩ := p2 j gv hj
                        have hjs : j < sz := by rw [← p1']; exact (List.getElem?_eq_some_iff.1 hj).1
                        refine ⟨uu, ?_, u2.mono hext⟩
                        have hlow : off * sz ≤ i * sz := Nat.mul_le_mul_right _ hin.1
                        have hhigh : i * sz + j < (off + len) * sz := mul_lt_row hin.2 hjs
                        rw [Nat.add_mul] at hhigh
                        rw [z2, if_pos (by rw [hnl]; omega), ← u1]
                        congr 1
                        rw [← q3, ← hszr, Nat.sub_mul]; omega
                      · have hcs : els[i]? = some el := by
                          by_cases hlo : i < off
                          · rw [List.getElem?_append_left (by omega), List.getElem?_take_of_lt hlo] at hi; exact hi
                          · rw [List.getElem?_append_right (by omega), hl1, List.getElem?_append_right (by omega), List.getElem?_drop] at hi
                            rw [← hi]; congr 1; omega
                        obtain ⟨p1, p2⟩ := hC3 i el hcs
                        refine ⟨p1, fun j gv hj => ?_⟩
                        obtain ⟨uu, u1, u2⟩ := p2 j gv hj
                        have hjs : j < sz := by rw [← p1]; exact (List.getElem?_eq_some_iff.1 hj).1
                        refine ⟨uu, ?_, u2.mono hext⟩
                        rw [z2, if_neg]
                        · exact u1
                        · rw [hnl]
                          rintro ⟨y1, y2⟩
                          have hio : i < off ∨ off + len ≤ i := by omega
                          rcases hio with hio | hio
                          · have := mul_lt_row hio hjs
                            omega
                          · have := Nat.mul_le_mul_right sz hio
                            rw [Nat.add_mul] at this; omega)
                  rw [full_setB]
                  refine im_value (cv := .tuple #[]) (hrun ?_) (.tup (by simp) (by simp)) e1 e2 e3
                  simp only [builtin]
                  rw [Sem.run_bind, hca, hcx]
                  unfold Builtin.clear_
                  rw [hct]
                  generalize cts.getD 0 0 = t0 at hu1 ⊢
                  obtain ⟨l', rfl⟩ : ∃ l', len = l' + 1 := ⟨len - 1, by omega⟩
                  simp [run_underlying hu1, zeroValue, typeInfo, hi, hz0]
                  rw [hst]; rfl
          · cases he
      · cases hc
    · cases hc

end
end Go.AM
