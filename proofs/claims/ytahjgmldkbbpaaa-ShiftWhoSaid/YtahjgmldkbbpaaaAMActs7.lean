/- The operations that act on memory: the theorem. -/
import Derived.Test.YtahjgmldkbbpaaaAMActs6
import Derived.Laws.BytesString
set_option linter.unusedSimpArgs false
set_option linter.unusedVariables false
namespace Go.AM
open Go

section
variable {P : Program} {h : List Blk} {s s' : St} {a : Act} {w : World} {L : Nat → Lc} {v : AV} {ws : List Nat} {drw : Option Nat} {nb : Nat}

theorem mod_get {z : Array Value} {sz n k : Nat} (hz : z.size = sz) (hk : k < n * sz) : ((Array.range (n * sz)).map (fun i => z[i % z.size]!))[k]? = some (z.getD (k % sz) Go.undef) := by
  obtain ⟨d1, _, d3, _⟩ := div_row hk
  rw [Array.getElem?_map]
  have : (Array.range (n * sz))[k]? = some k := by simp [Array.getElem?_range, hk]
  rw [this]
  simp only [Option.map_some, hz]
  congr 1
  have hlt : k % sz < z.size := by rw [hz]; exact d3
  rw [getElem!_pos z _ hlt, Array.getD_eq_getD_getElem?, Array.getElem?_eq_getElem hlt]; rfl

theorem map_range_zero (f : Nat → Value) : (Array.range 0).map f = #[] := by simp

/-- Zero elements as a row of cells. -/
theorem zero_crel {E : Env} {z : Value} {g : List GV} {sz : Nat} (hz : z.cells.size = sz) (hg : g.length = sz) (hr : ∀ (j : Nat) (x : GV) (u : Value), g[j]? = some x → z.cells[j]? = some u → GR E x u) (n : Nat) :
    CRel E (List.replicate n (g.map AV.g)).flatten ((Array.range (n * sz)).map (fun i => z.cells[i % z.cells.size]!)) ∧
      ∀ (j : Nat) (u : Value), ((Array.range (n * sz)).map (fun i => z.cells[i % z.cells.size]!))[j]? = some u → u.oneCell' = true := by
  have hlen : (List.replicate n (g.map AV.g)).flatten.length = n * sz := by simp [hg]
  have hget : ∀ (k : Nat) (x : AV), (List.replicate n (g.map AV.g)).flatten[k]? = some x → ∃ y, x = .g y ∧ g[k % sz]? = some y := by
    induction n with
    | zero => intro k x hx; simp at hx
    | succ n ih =>
      intro k x hx
      simp only [List.replicate_succ, List.flatten_cons] at hx
      by_cases hk : k < sz
      · rw [List.getElem?_append_left (by simpa [hg] using hk), List.getElem?_map] at hx
        rw [Nat.mod_eq_of_lt hk]
        cases hq : g[k]? with
        | none => simp [hq] at hx
        | some y => simp [hq] at hx; exact ⟨y, hx.symm, rfl⟩
      · rw [List.getElem?_append_right (by simpa [hg] using hk)] at hx
        obtain ⟨y, h1, h2⟩ := ih (by simp [hg]) _ x hx
        simp only [List.length_map, hg] at h2
        refine ⟨y, h1, ?_⟩
        rw [← h2, ← Nat.mod_eq_sub_mod (by omega)]
  have key : ∀ (k : Nat) (u : Value), ((Array.range (n * sz)).map (fun i => z.cells[i % z.cells.size]!))[k]? = some u → k < n * sz ∧ u = z.cells.getD (k % sz) Go.undef := by
    intro k u hu
    have hk : k < n * sz := by have := (Array.getElem?_eq_some_iff.1 hu).1; simpa using this
    rw [mod_get hz hk] at hu
    cases hu
    exact ⟨hk, rfl⟩
  have rel : ∀ (k : Nat), k < n * sz → ∀ y, g[k % sz]? = some y → GR E y (z.cells.getD (k % sz) Go.undef) := by
    intro k hk y hy
    obtain ⟨_, _, d3, _⟩ := div_row hk
    have hlt : k % sz < z.cells.size := by rw [hz]; exact d3
    exact hr _ y _ hy (by rw [Array.getD_eq_getD_getElem?, Array.getElem?_eq_getElem hlt]; rfl)
  refine ⟨⟨by rw [hlen]; simp, fun k x u hx hu => ?_⟩, fun k u hu => ?_⟩
  · obtain ⟨hk, rfl⟩ := key k u hu
    obtain ⟨y, rfl, hy⟩ := hget k x hx
    exact .g (rel k hk y hy)
  · obtain ⟨hk, rfl⟩ := key k u hu
    obtain ⟨_, _, d3, _⟩ := div_row hk
    have hlt : k % sz < g.length := by rw [hg]; exact d3
    exact (rel k hk _ (List.getElem?_eq_getElem hlt)).one

theorem i_bslice (hr : HR w (full h s) L) (ht : TR (envOf w (full h s) L) a s.t) {o : Oper} {t e : TypeId} {n : Nat} {ps : Array (Nat × Operand)} {r : Nat × Nat × List GV} {l : List (Nat × Nat × Opd)} (ho : o.op = .buildSlice t n ps) (hu : P.underlying t = some (.slice e)) (hrow : rowT P e = some r)
    (hl : cParts (fun i => some (i * r.1, r.1)) ps.toList = some l) (hn : n * r.1 ≤ 16777216) (he : evI h nb s (.bslice r.1 n r.2.2 l) = some (v, s', ws)) : Im w (full h s) L ((execOp a.eval o).run P w) v (full h s') ws ∧ s'.t = s.t := by
  obtain ⟨q1, q2, q3, i, z, hi, hz0, hz, hzs, hzr⟩ := rowT_ok hrow
  simp only [evI] at he
  cases hf : fills s (List.replicate n (r.2.2.map AV.g)).flatten l with
  | none => simp [hf] at he
  | some cs =>
    simp only [hf] at he
    cases hg : grounds cs with
    | none => simp [hg] at he
    | some gs =>
      simp [hg] at he
      obtain ⟨rfl, rfl, rfl⟩ := he
      refine ⟨?_, rfl⟩
      obtain ⟨z1, z2⟩ := zero_crel (E := envOf w (full h s) L) hzs q3 (hzr _) n
      obtain ⟨C', hfill, hcr', h1'⟩ := fills_ok ht (fun i => some (i * r.1, r.1)) ps.toList l _ cs _ hl hf z1 z2
      have hcs := grounds_ok (E := envOf w (full h s) L) hg
      have hsz : C'.size = n * r.1 := by
        rw [← hcr'.1]
        have : ∀ (ps : List (Nat × Nat × Opd)) (cs cs' : List AV), fills s cs ps = some cs' → cs'.length = cs.length := by
          intro ps
          induction ps with
          | nil => intro cs cs' h; simp [fills] at h; rw [h]
          | cons p ps ih =>
            obtain ⟨o1, n1, x1⟩ := p
            intro cs cs' h
            simp only [fills] at h
            cases hv : val s x1 with
            | none => simp [hv] at h
            | some u =>
              simp only [hv] at h
              cases hco : u.cellsO with
              | none => simp [hco] at h
              | some us =>
                simp only [hco] at h
                cases hfa : fillA cs o1 n1 us with
                | none => simp [hfa] at h
                | some cs1 =>
                  simp only [hfa] at h
                  rw [ih _ _ h]
                  unfold fillA at hfa
                  split at hfa
                  · simp at hfa; rw [← hfa]; simp; omega
                  · cases hfa
        rw [this l _ cs hf]
        simp [q3]
      have hgw := Grows.push w (.cells C' e)
      obtain ⟨g1, g2⟩ := hr.grow hgw
      have hgl : gs.length = n * r.1 := by have := hcr'.1; rw [hcs] at this; simp at this; omega
      refine im_value (cv := .slice (some ⟨w.heap.size, 0, none⟩) n n) (w' := { w with heap := w.heap.push (.cells C' e) }) (L' := L) ?_ (.g (GR.ofRow (T := e) (fr := (0, 0)) (C := C') (heap_push _ _) ?_ (Nat.le_refl _) hgl (fun j g hj => ?_))) g1 g2 (same_grow hr hgw [])
      · simp only [execOp, ho]
        rw [Sem.run_bind]
        unfold Instr.buildSlice
        have hfill' : Instr.fill (fun i => some (i * r.1, r.1)) ((Array.range (n * r.1)).map fun x => z.cells[x % z.cells.size]!) (ps.map fun (i, x) => (i, a.eval x)).toList = some C' := by
          rw [← hfill]; simp
        have hn' : ¬ (n * r.1 > 2 ^ 24) := by omega
        by_cases hz' : n * r.1 = 0
        · have e0 : ((Array.range (n * r.1)).map fun x => z.cells[x % z.cells.size]!) = (Array.range (n * r.1)).map fun x => (#[] : Array Value)[x % (#[] : Array Value).size]! := by rw [hz', map_range_zero, map_range_zero]
          rw [e0] at hfill'
          simp only [Sem.run_bind, run_underlying hu, Result.andThen_ok, run_sizeOf q1, hn', if_false, hz', if_true, Sem.run_pure, Sem.run_ite, pure_bind]
          rw [hz'] at hfill'
          simp only [hfill']
          simp [newRow]
        · simp only [Sem.run_bind, run_underlying hu, Result.andThen_ok, run_sizeOf q1, hn', if_false, hz', Sem.run_pure, Sem.run_ite, zeroValue, typeInfo, run_program, hi, hz0, pure_bind, hfill']
          simp [newRow]
      · rintro ⟨id, k, k1, k2, k3⟩
        have := (hr.blk id k k1).lt k2 k3
        simp [envOf] at this
      · have hlt : j < C'.size := by rw [hsz, ← hgl]; exact (List.getElem?_eq_some_iff.1 hj).1
        refine ⟨C'[j], Array.getElem?_eq_getElem hlt, ?_⟩
        have := hcr'.2 j (.g g) _ (by rw [hcs]; simp [hj]) (Array.getElem?_eq_getElem hlt)
        exact this.inv_g.mono g2

theorem i_mk (hr : HR w (full h s) L) (ht : TR (envOf w (full h s) L) a s.t) {o : Oper} {t e : TypeId} {l c : Operand} {X Y : Opd} {r : Nat × Nat × List GV} (ho : o.op = .makeSlice t l c) (hu : P.underlying t = some (.slice e)) (hrow : rowT P e = some r)
    (hx : cOpd l = some X) (hy : cOpd c = some Y) (he : evI h nb s (.mk r.1 r.2.1 r.2.2 X Y) = some (v, s', ws)) : Im w (full h s) L ((execOp a.eval o).run P w) v (full h s') ws ∧ s'.t = s.t := by
  obtain ⟨q1, q2, q3, i, z, hi, hz0, hz, hzs, hzr⟩ := rowT_ok hrow
  simp only [evI] at he
  split at he
  · rename_i n m hX hY
    split at he
    · rename_i hcond
      obtain ⟨rfl, n0, n1, n2⟩ := hcond
      simp at he
      obtain ⟨rfl, rfl, rfl⟩ := he
      refine ⟨?_, rfl⟩
      have e1 := (cOpd_ok ht hx hX).inv_g.inv_int
      have e2 := (cOpd_ok ht hy hY).inv_g.inv_int
      obtain ⟨k, rfl⟩ : ∃ k : Nat, n = k := ⟨n.toNat, (Int.toNat_of_nonneg n0).symm⟩
      have hns := zero_new (E := envOf w (full h s) L) hzs q3 (hzr _) k
      have hrows : RowsIn (envOf w (full h s) L) ((Array.range (k * r.1)).map fun x => z.cells[x % z.cells.size]!) r.1 k (List.replicate k r.2.2) := by
        refine ⟨by simp, by simp, fun i el hi' => ?_⟩
        obtain ⟨p1, p2⟩ := hns.2 i el hi'
        refine ⟨p1, fun j g hj => ?_⟩
        obtain ⟨u, u1, u2⟩ := p2 j g hj
        refine ⟨u, ?_, u2⟩
        rw [← hzs]
        have : (Builtin.zeroCells z.cells k).toList[i * r.1 + j]? = (Builtin.zeroCells z.cells k)[i * r.1 + j]? := by simp
        rw [this] at u1
        rw [hzs]
        rw [← u1]
        unfold Builtin.zeroCells
        rw [hzs]
      obtain ⟨L', k1, k2, k3, k4⟩ := hr.newRows (Grows.push w (.cells ((Array.range (k * r.1)).map fun x => z.cells[x % z.cells.size]!) e)) r.1 (List.replicate k r.2.2) k _ e w.heap.size (Nat.le_refl _) (heap_push _ _) hrows []
      rw [full_length] at k4
      rw [full_push]
      have hkk : (List.replicate k r.2.2).length = k := by simp
      rw [hkk] at k4
      refine im_value (cv := .slice (some ⟨w.heap.size, 0, none⟩) k k) ?_ (by simpa using k4) (by simpa using k1) (by simpa using k2) k3
      simp only [execOp, ho, e1, e2]
      rw [Sem.run_bind]
      unfold Instr.makeSlice
      have hw : IntKind.i64.wrap (k : Int) = k := IntWalk.i64_in _ (by omega)
      obtain ⟨i', hi', hs', hb'⟩ := info_of q1 q2
      rw [hi] at hi'; cases hi'
      have hl1 : ¬ ((k : Int) < 0) := by omega
      have hl2 : ¬ ((i.bytes : Int) * (k : Int) > 2 ^ 48) := by rw [hb', Int.mul_comm]; omega
      have ht1 : IntKind.i64.wrap (k : Int) = k := hw
      have hb1 : (i.bytes : Int) * (k : Int) ≤ 281474976710656 := by rw [hb', Int.mul_comm]; exact n2
      have hb2 : ¬ (281474976710656 < (i.bytes : Int) * (k : Int)) := by omega
      by_cases hz' : k * r.1 = 0
      · have e0 : ((Array.range (k * r.1)).map fun x => z.cells[x % z.cells.size]!) = #[] := by rw [hz', map_range_zero]
        rw [e0]
        simp [run_underlying hu, asInt, asIntOf, typeInfo, hi, hw, hl1, hb2, run_sizeOf q1, hz', newRow]
        rw [map_range_zero]
      · simp [run_underlying hu, asInt, asIntOf, typeInfo, zeroValue, hi, hz0, hw, hl1, hb2, run_sizeOf q1, hz', newRow]
    · cases he
  · cases he

theorem bytesOfG_ok : ∀ {els : List (List GV)} {b : List UInt8}, evI.bytesOfG els = some b → ∃ ns : List Int, els = ns.map (fun n => [.int .u8 n]) ∧ b = ns.map fun n => UInt8.ofNat n.toNat := by
  intro els
  induction els with
  | nil => intro b h; simp [evI.bytesOfG] at h; subst h; exact ⟨[], rfl, rfl⟩
  | cons el els ih =>
    intro b h
    unfold evI.bytesOfG at h
    split at h
    · rename_i heq; cases heq
    · rename_i n r heq
      cases heq
      cases hr : evI.bytesOfG els with
      | none => simp [hr] at h
      | some b' =>
        simp [hr] at h
        obtain ⟨ns, h1, h2⟩ := ih hr
        exact ⟨n :: ns, by simp [h1], by rw [← h, h2]; rfl⟩
    · cases h

theorem foldl_push (ns : List Int) : ∀ (l : List UInt8), ns.foldl (fun r n => r.push (UInt8.ofNat n.toNat)) (ByteArray.mk l.toArray) = ByteArray.mk (l ++ ns.map fun n => UInt8.ofNat n.toNat).toArray := by
  induction ns with
  | nil => intro l; simp
  | cons n ns ih =>
    intro l
    have : (ByteArray.mk l.toArray).push (UInt8.ofNat n.toNat) = ByteArray.mk (l ++ [UInt8.ofNat n.toNat]).toArray := by
      show ByteArray.mk (l.toArray.push _) = _
      simp
    simp only [List.foldl_cons, this, ih, List.map_cons, List.append_assoc, List.singleton_append]

theorem i_convBS (hr : HR w (full h s) L) (ht : TR (envOf w (full h s) L) a s.t) {o : Oper} {t1 t2 e : TypeId} {x : Operand} {X : Opd} (ho : o.op = .convert t1 t2 x) (hu1 : P.underlying t1 = some (.slice e)) (hu2 : P.underlying t2 = some .string) (hi : intT P e = some .u8)
    (hx : cOpd x = some X) (he : evI h nb s (.convBS X) = some (v, s', ws)) : Im w (full h s) L ((execOp a.eval o).run P w) v (full h s') ws ∧ s'.t = s.t := by
  simp only [evI] at he
  cases hX : val s X with
  | none => simp [hX] at he
  | some vx =>
    simp only [hX] at he
    cases hv : viewN h s 1 vx with
    | none => simp [hv] at he
    | some els =>
      simp only [hv] at he
      cases hb : evI.bytesOfG els with
      | none => simp [hb] at he
      | some b =>
        simp [hb] at he
        obtain ⟨rfl, rfl, rfl⟩ := he
        refine ⟨?_, rfl⟩
        have hu3 : P.underlying e = some (.int .u8) := by
          unfold intT at hi
          cases hq : P.underlying e with
          | none => simp [hq] at hi
          | some d => cases d <;> simp [hq] at hi; subst hi; rfl
        obtain ⟨A, cap, news, e1, _, hns, hf⟩ := viewN_ok (P := P) hr hv (cOpd_ok ht hx hX)
        obtain ⟨ns, rfl, rfl⟩ := bytesOfG_ok hb
        have hnews : news = ns.map (Value.int .u8) := by
          apply List.ext_getElem?
          intro i
          by_cases hi' : i < ns.length
          · obtain ⟨p1, p2⟩ := hns.2 i [.int .u8 ns[i]] (by simp [hi'])
            obtain ⟨u, u1, u2⟩ := p2 0 (.int .u8 ns[i]) rfl
            rw [Nat.mul_one, Nat.add_zero] at u1
            rw [u1, u2.inv_int]; simp [hi']
          · rw [List.getElem?_eq_none (by rw [hns.1]; simp; omega), List.getElem?_eq_none (by simp; omega)]
        refine im_value (cv := .string ⟨(ns.map fun n => UInt8.ofNat n.toNat).toArray⟩) (w' := w) (L' := L) ?_ (.g (.str _)) hr (Ext.refl _) (fun _ _ _ => ⟨rfl, fun _ _ _ => rfl⟩)
        simp only [execOp, ho]
        have hf' := hf w rfl
        rw [e1] at hf' ⊢
        rw [Sem.run_bind, run_convert_bytes_string w t1 t2 e A _ cap hu1 hu3 hu2]
        have hlen : (List.map (fun n => [GV.int IntKind.u8 n]) ns).length = ns.length := by simp
        rw [hlen] at hf' ⊢
        cases A with
        | none =>
          have h0 : ns = [] := by
            simp [Builtin.firstCells] at hf'
            rw [hnews] at hf'
            simpa using hf'
          subst h0
          simp [Conv.bytesToString]
          rfl
        | some A =>
          have hl : (loadCells A ns.length).run P w = .ok (ns.map (Value.int .u8)).toArray w := by
            simp only [Builtin.firstCells, Nat.mul_one] at hf'
            rw [hf', hnews]
          rw [run_bytesToString w A ns.length cap ns hl]
          have := foldl_push ns []
          simp only [List.nil_append] at this
          have e0 : ByteArray.empty = ByteArray.mk ([] : List UInt8).toArray := rfl
          rw [e0, this]
          rfl

theorem i_allocAt (hr : HR w (full h s) L) {o : Oper} {t : TypeId} {z : List Z} {k : Nat} (ho : o.op = .alloc t) (hz : cZ P t = some z) (he : evI h nb s (.allocAt k z) = some (v, s', ws)) :
    Im w (full h s) L ((execOp a.eval o).run P w) v (full h s') ws ∧ s'.t = s.t := by
  simp only [evI] at he
  cases hB : getB h s (nb + k) with
  | none => simp [hB] at he
  | some kk =>
    cases kk <;> simp [hB] at he
    obtain ⟨_, rfl, rfl, rfl⟩ := he
    refine ⟨?_, setB_t _ _ _ _⟩
    have hget : (full h s)[nb + k]? = some .pend := by rw [getB_full]; exact hB
    obtain ⟨p1, p2, p3⟩ := hr.blk _ _ hget
    obtain ⟨i, zv, hi, hzz, hzr, hone⟩ := cZ_ok hz
    have hgw := Grows.push w (.cells zv.cells t)
    have hlt : nb + k < (full h s).length := (List.getElem?_eq_some_iff.1 hget).1
    have hzl : (zplain z).length = zv.cells.size := by
      have : ∀ z : List Z, (zplain z).length = z.length := by
        intro z
        induction z with
        | nil => rfl
        | cons x z ih => cases x <;> simp [zplain, ih]
      rw [this, hzr.1]; simp
    have hzp : ∀ (E : Env) (z : List Z) (cs : List Value), ZRel z cs → ∀ (j : Nat) (x : AV) (c : Value), (zplain z)[j]? = some x → cs[j]? = some c → AR E x c := by
      intro E z
      induction z with
      | nil => intro cs hz j x c hx; simp [zplain] at hx
      | cons y z ih =>
        intro cs hz j x c hx hc
        cases cs with
        | nil => simp at hc
        | cons d cs =>
          cases j with
          | zero =>
            rcases hz.2 0 y d rfl rfl with ⟨v, rfl, hv⟩ | ⟨n, rfl, rfl⟩
            · simp [zplain] at hx hc; subst hx hc; exact cVal_ok hv
            · simp [zplain] at hx hc; subst hx hc; exact .g .nsl
          | succ j => cases y <;> exact ih cs hz.tail j x c (by simpa [zplain] using hx) (by simpa using hc)
    obtain ⟨e1, e2⟩ := hr.turn (w' := { w with heap := w.heap.push (.cells zv.cells t) }) (k' := .cells (zplain z)) hget rfl ⟨some w.heap.size, 1, 0, true⟩ rfl rfl rfl hgw.size (fun b hb _ => hgw.old b hb)
      (.inr ⟨trivial, p1, by show (L (nb + k)).gen < 1; have : (L (nb + k)).gen = 0 := p2; omega⟩) (by intro b hb; simp at hb; right; omega) (fun hext => by
        have hLid : (envOf { w with heap := w.heap.push (.cells zv.cells t) } ((full h s).set (nb + k) (.cells (zplain z))) (updL L (nb + k) ⟨some w.heap.size, 1, 0, true⟩)).L (nb + k) = ⟨some w.heap.size, 1, 0, true⟩ := updL_self _ _ _
        refine ⟨by rw [hLid], w.heap.size, t, zv.cells, by rw [hLid], heap_push _ _, hzl.symm, fun j x hj => ?_⟩
        have hjl : j < zv.cells.size := by rw [← hzl]; exact (List.getElem?_eq_some_iff.1 hj).1
        exact ⟨zv.cells[j], Array.getElem?_eq_getElem hjl, hzp _ z _ hzr j x _ hj (by simp [hjl]), hone j _ (Array.getElem?_eq_getElem hjl)⟩)
    rw [full_setB]
    refine im_value (cv := .pointer (some ⟨w.heap.size, 0, none⟩)) ?_ (.ptr (by simpa [envOf] using hlt) ?_ ?_) e1 e2 (fun j hj hne => ⟨updL_ne _ _ _ (by simpa using hne), (same_grow hr hgw [] j hj (by simp)).2⟩)
    · simp only [execOp, ho, Instr.alloc]
      simp [zeroValue, typeInfo, hi, hzz, run_newVar]
    · show (updL L (nb + k) _ (nb + k)).st = true; rw [updL_self]
    · show (updL L (nb + k) _ (nb + k)).blk = _; rw [updL_self]

theorem freeze_heap (w : World) (b : Nat) (C : Array Value) (T : TypeId) (o n : Nat) (hn : n ≠ 0) (hb : w.heap[b]? = some (.cells C T (0, 0))) :
    (w.freeze ⟨b, o, none⟩ n).heap[b]? = some (.cells C T (o, o + n)) ∧ (∀ b', b' ≠ b → (w.freeze ⟨b, o, none⟩ n).heap[b']? = w.heap[b']?) ∧ (w.freeze ⟨b, o, none⟩ n).heap.size = w.heap.size := by
  unfold World.freeze
  rw [if_neg hn]
  refine ⟨?_, fun b' hb' => ?_, by simp⟩
  · simp only [Array.getElem?_modify, if_true, hb, Option.map_some]
    rfl
  · simp only [Array.getElem?_modify]
    rw [if_neg (by omega)]

theorem i_convSB (hr : HR w (full h s) L) (ht : TR (envOf w (full h s) L) a s.t) {o : Oper} {t1 t2 e : TypeId} {x : Operand} {X : Opd} (ho : o.op = .convert t1 t2 x) (hu1 : P.underlying t1 = some .string) (hu2 : P.underlying t2 = some (.slice e)) (hi : intT P e = some .u8)
    (hx : cOpd x = some X) (he : evI h nb s (.convSB X) = some (v, s', ws)) : Im w (full h s) L ((execOp a.eval o).run P w) v (full h s') ws ∧ s'.t = s.t := by
  simp only [evI] at he
  split at he
  · rename_i b hX
    simp at he
    obtain ⟨rfl, rfl, rfl⟩ := he
    refine ⟨?_, rfl⟩
    have hxe := (cOpd_ok ht hx hX).inv_g.inv_str
    have hu3 : P.underlying e = some (.int .u8) := by
      unfold intT at hi
      cases hq : P.underlying e with
      | none => simp [hq] at hi
      | some d => cases d <;> simp [hq] at hi; subst hi; rfl
    let cap := grownCap w b.length 0 e
    have hge : b.length ≤ cap := grownCap_ge w b.length 0 e
    let C : Array Value := (b.toArray.map fun c => Value.int .u8 c.toNat) ++ Array.replicate (cap - b.length) (.int .u8 0)
    have hCs : C.size = cap := by simp [C]; omega
    let w1 : World := w.drew.alloc (.cells C e)
    have hb1 : w1.heap[w.heap.size]? = some (.cells C e (0, 0)) := heap_alloc_new w.drew _
    obtain ⟨f1, f2, f3⟩ := freeze_heap w1 w.heap.size C e cap 1 (by decide) hb1
    have hgw : Grows w (w1.freeze ⟨w.heap.size, cap, none⟩ 1) := by
      have g1 : Grows w w1 := (Grows.drew w (w.drawn + 1)).trans (Grows.push _ _)
      refine ⟨?_, ?_, ?_, by rw [f3]; exact g1.size, fun b' hb' => by rw [f2 b' (by omega)]; exact g1.old b' hb'⟩ <;> (unfold World.freeze; rw [if_neg (by decide)]; rfl)
    obtain ⟨g1, g2⟩ := hr.grow hgw
    have hgs : chunk 1 b.length (b.map fun c => GV.int .u8 c.toNat) = bytesG b := by
      apply List.ext_getElem?
      intro i
      by_cases hi' : i < b.length
      · have h1 : i < (chunk 1 b.length (b.map fun c => GV.int .u8 c.toNat)).length := by rw [chunk_length]; exact hi'
        obtain ⟨_, e1⟩ := chunk_get 1 b.length _ i _ (List.getElem?_eq_getElem h1)
        rw [List.getElem?_eq_getElem h1, e1]
        rw [Nat.mul_one, List.drop_eq_getElem_cons (by simpa using hi')]
        simp [bytesG, List.getElem?_eq_getElem hi']
      · rw [List.getElem?_eq_none (by rw [chunk_length]; omega), List.getElem?_eq_none (by simp [bytesG]; omega)]
    refine im_value (cv := .slice (some ⟨w.heap.size, 0, none⟩) b.length cap) (w' := w1.freeze ⟨w.heap.size, cap, none⟩ 1) (L' := L) ?_ ?_ g1 g2 (same_grow hr hgw [])
    · simp only [execOp, ho, hxe]
      rw [Sem.run_bind]
      unfold convert
      simp only [Sem.run_bind, run_underlying hu1, run_underlying hu2, run_underlying hu3, Result.andThen_ok]
      unfold Conv.stringToBytes
      have hsz : (ByteArray.mk b.toArray).size = b.length := List.size_toArray
      simp only [Sem.run_bind, run_choose, Question.forced, Bool.false_eq_true, if_false, Result.andThen_ok, hsz, newRow, run_newObj, Sem.run_pure]
      have hms : (markStringish ⟨w.heap.size, 0, none⟩).run P w1 = .ok () (w1.freeze ⟨w.heap.size, cap, none⟩ 1) := by
        unfold markStringish
        have hsh : w1.shape? w.heap.size = some (e, C.size) := by simp [World.shape?, hb1]
        simp only [Sem.run_bind, run_shape, Result.andThen_ok, hsh, run_freeze, hCs]
      show (((Sem.run P (markStringish ⟨w.heap.size, 0, none⟩) w1).andThen _).andThen _) = _
      rw [hms]
      rfl
    · refine .g ?_
      rw [← hgs]
      refine GR.ofRow f1 ?_ hge (by simp) (fun j g hj => ?_)
      · rintro ⟨id, k, k1, k2, k3⟩
        have := (hr.blk id k k1).lt k2 k3
        simp [envOf] at this
      · simp at hj
        obtain ⟨c, hc, rfl⟩ := hj
        have hjl : j < b.length := (List.getElem?_eq_some_iff.1 hc).1
        refine ⟨.int .u8 c.toNat, ?_, .int _ _⟩
        show C[j]? = _
        simp only [C]
        rw [Array.getElem?_append_left (by simpa using hjl)]
        simp [hc]
  · cases he

theorem evI_ok (hr : HR w (full h s) L) (ht : TR (envOf w (full h s) L) a s.t) {o : Oper} {ao : AOp} (hc : cOp P drw o = some ao) (he : evI h nb s ao = some (v, s', ws)) :
    Im w (full h s) L ((execOp a.eval o).run P w) v (full h s') ws ∧ s'.t = s.t := by
  cases ho : o.op with
  | assign x =>
    simp only [cOp, ho] at hc
    split at hc
    · cases hE : elemT P o.type with
      | none => simp [hE] at hc
      | some e => cases hs : szT P e with
        | none => simp [hE, hs] at hc
        | some n => simp [hE, hs] at hc; subst hc; exact i_nres hr ho he
    · obtain ⟨X, hx, rfl⟩ := map_some_inv hc; simp [evI] at he
  | alloc t =>
    simp only [cOp, ho] at hc
    obtain ⟨z, hz, hc⟩ := bind_some_inv hc
    split at hc
    · cases hc; exact i_alloc hr ho hz he
    · cases hc; exact i_allocAt hr ho hz he
  | box t x =>
    simp only [cOp, ho] at hc
    split at hc
    · obtain ⟨X, hx, hc⟩ := bind_some_inv hc; cases hc; exact i_box hr ht ho hx he
    · cases hc
  | store t p x =>
    simp only [cOp, ho] at hc
    obtain ⟨n, hn, hc⟩ := bind_some_inv hc
    obtain ⟨Pp, hp, hc⟩ := bind_some_inv hc
    obtain ⟨X, hx, hc⟩ := bind_some_inv hc
    cases hc
    exact i_store hr ht ho hn hp hx he
  | buildSlice t n ps =>
    simp only [cOp, ho] at hc
    split at hc
    · rename_i e hu
      split at hc
      · rename_i r hrow
        split at hc
        · rename_i l hl
          split at hc
          · rename_i hn; cases hc; exact i_bslice hr ht ho hu hrow hl hn he
          · cases hc
        · cases hc
      · cases hc
    · cases hc
  | makeSlice t l c =>
    simp only [cOp, ho] at hc
    split at hc
    · rename_i e hu
      split at hc
      · rename_i r x y hrow hx hy; cases hc; exact i_mk hr ht ho hu hrow hx hy he
      · cases hc
    · cases hc
  | convert t1 t2 x =>
    simp only [cOp, ho] at hc
    obtain ⟨X, hx, hc⟩ := bind_some_inv hc
    split at hc
    · cases hc; simp [evI] at he
    · cases hc; simp [evI] at he
    · rename_i e hu1 hu2
      split at hc
      · rename_i hcond; cases hc; exact i_convSB hr ht ho hu1 hu2 hcond.1 hx he
      · cases hc
    · rename_i e hu1 hu2
      split at hc
      · rename_i hcond; cases hc; exact i_convBS hr ht ho hu1 hu2 hcond.1 hx he
      · cases hc
    · cases hc
  | call c =>
    obtain ⟨dst, o', ty, pos, after, gd⟩ := o
    simp only at ho
    subst ho
    obtain ⟨callee, cargs, cts⟩ := c
    simp only [cOp, cCall] at hc
    cases callee with
    | value f =>
      dsimp only at hc
      split at hc
      · cases hc; simp [evI] at he
      · cases hc
    | invoke r m => cases hc
    | builtin b =>
      dsimp only at hc
      split at hc
      · rename_i xs hxs; exact i_builtin hr ht hxs hc he
      · cases hc
  | move x => simp only [cOp, ho] at hc; obtain ⟨X, hx, rfl⟩ := map_some_inv hc; simp [evI] at he
  | pick c x y =>
    simp only [cOp, ho] at hc
    obtain ⟨_, _, hc⟩ := bind_some_inv hc
    obtain ⟨_, _, hc⟩ := bind_some_inv hc
    obtain ⟨_, _, hc⟩ := bind_some_inv hc
    cases hc; simp [evI] at he
  | binOp op t x y yt =>
    simp only [cOp, ho] at hc
    obtain ⟨X, hx, hc⟩ := bind_some_inv hc
    obtain ⟨Y, hy, hc⟩ := bind_some_inv hc
    have key : ∀ op, (if scalarT P t then some (AOp.bin op X Y) else match nilK P t y with
          | some k => some (.isnil (op == .neq) k X)
          | none => match nilK P t x with
            | some k => some (.isnil (op == .neq) k Y)
            | none => match flatK P 20 t with
              | some ks => if P.eqGuardType P.depth t = false then (aggT P t).map fun ag => .eqs (op == .neq) ag ks X Y else none
              | none => none) = some ao → False := by
      intro op hc
      split at hc
      · cases hc; simp [evI] at he
      · split at hc
        · cases hc; simp [evI] at he
        · split at hc
          · cases hc; simp [evI] at he
          · split at hc
            · split at hc
              · obtain ⟨ag, _, rfl⟩ := map_some_inv hc; simp [evI] at he
              · cases hc
            · cases hc
    cases op <;> dsimp only at hc <;> first
      | exact (key _ hc).elim
      | (cases hc; simp [evI] at he)
  | unOp op t x => simp only [cOp, ho] at hc; obtain ⟨_, _, hc⟩ := bind_some_inv hc; cases hc; simp [evI] at he
  | field t x f =>
    simp only [cOp, ho] at hc
    obtain ⟨_, _, hc⟩ := bind_some_inv hc
    obtain ⟨_, _, hc⟩ := bind_some_inv hc
    obtain ⟨_, _, hc⟩ := bind_some_inv hc
    obtain ⟨_, _, hc⟩ := bind_some_inv hc
    cases hc; simp [evI] at he
  | fieldAddr t x f =>
    simp only [cOp, ho] at hc
    obtain ⟨_, _, hc⟩ := bind_some_inv hc
    obtain ⟨_, _, hc⟩ := bind_some_inv hc
    split at hc
    · obtain ⟨_, _, hc⟩ := bind_some_inv hc; cases hc; simp [evI] at he
    · cases hc
  | indexAddr t x i =>
    simp only [cOp, ho] at hc
    split at hc
    · obtain ⟨_, _, hc⟩ := bind_some_inv hc
      obtain ⟨_, _, hc⟩ := bind_some_inv hc
      obtain ⟨_, _, hc⟩ := bind_some_inv hc
      cases hc; simp [evI] at he
    · obtain ⟨_, _, hc⟩ := bind_some_inv hc
      obtain ⟨_, _, hc⟩ := bind_some_inv hc
      obtain ⟨_, _, hc⟩ := bind_some_inv hc
      cases hc; simp [evI] at he
    · cases hc
  | index t x i =>
    simp only [cOp, ho] at hc
    split at hc
    · obtain ⟨_, _, hc⟩ := bind_some_inv hc
      obtain ⟨_, _, hc⟩ := bind_some_inv hc
      cases hc; simp [evI] at he
    · obtain ⟨_, _, hc⟩ := bind_some_inv hc
      obtain ⟨_, _, hc⟩ := bind_some_inv hc
      obtain ⟨_, _, hc⟩ := bind_some_inv hc
      obtain ⟨_, _, hc⟩ := bind_some_inv hc
      cases hc; simp [evI] at he
    · cases hc
  | load t p =>
    simp only [cOp, ho] at hc
    obtain ⟨_, _, hc⟩ := bind_some_inv hc
    obtain ⟨_, _, hc⟩ := bind_some_inv hc
    split at hc
    · obtain ⟨_, _, hc⟩ := bind_some_inv hc; cases hc; simp [evI] at he
    · cases hc
  | extract x j => simp only [cOp, ho] at hc; obtain ⟨X, hx, rfl⟩ := map_some_inv hc; simp [evI] at he
  | build t ps =>
    simp only [cOp, ho] at hc
    obtain ⟨_, _, hc⟩ := bind_some_inv hc
    obtain ⟨_, _, hc⟩ := bind_some_inv hc
    obtain ⟨_, _, hc⟩ := bind_some_inv hc
    cases hc; simp [evI] at he
  | slice t x lo hi mx =>
    simp only [cOp, ho] at hc
    split at hc
    · split at hc
      · obtain ⟨_, _, hc⟩ := bind_some_inv hc
        obtain ⟨_, _, hc⟩ := bind_some_inv hc
        obtain ⟨_, _, hc⟩ := bind_some_inv hc
        cases hc; simp [evI] at he
      · cases hc
    · split at hc
      · obtain ⟨_, _, hc⟩ := bind_some_inv hc
        obtain ⟨_, _, hc⟩ := bind_some_inv hc
        obtain ⟨_, _, hc⟩ := bind_some_inv hc
        obtain ⟨_, _, hc⟩ := bind_some_inv hc
        cases hc; simp [evI] at he
      · obtain ⟨_, _, hc⟩ := bind_some_inv hc
        obtain ⟨_, _, hc⟩ := bind_some_inv hc
        obtain ⟨_, _, hc⟩ := bind_some_inv hc
        obtain ⟨_, _, hc⟩ := bind_some_inv hc
        obtain ⟨_, _, hc⟩ := bind_some_inv hc
        cases hc; simp [evI] at he
    · cases hc
  | makeInterface t x =>
    simp only [cOp, ho] at hc
    split at hc
    · cases hc
    · obtain ⟨X, hx, rfl⟩ := map_some_inv hc; simp [evI] at he
    · cases hc
  | makeFunc fn first caps =>
    cases fn <;> simp only [cOp, ho] at hc <;> try (cases hc; done)
    · split at hc
      · obtain ⟨_, _, hc⟩ := bind_some_inv hc; cases hc; simp [evI] at he
      · cases hc
    · split at hc
      · cases hc; simp [evI] at he
      · cases hc
  | nilCheck x => simp only [cOp, ho] at hc; obtain ⟨X, hx, rfl⟩ := map_some_inv hc; simp [evI] at he
  | _ => simp only [cOp, ho] at hc; cases hc

end
end Go.AM
