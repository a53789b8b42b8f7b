/- An answer that came in. -/
import Derived.Test.YtdekbbffoaphhaaGreatDoorAnOpen
import Derived.Test.YtdekbbffoaphhaaGreatDoorAnJoinsP
set_option linter.unusedVariables false
namespace Go.Proofs.YtdekbbffoaphhaaGreatDoor
open Go.RowKit Go.ChangeShapes Go.WideShapes Go.Deep Go.Proofs.HL Go.Proofs.An
section
variable {H : Type} {encH : TypeId × Value → H} {w : World} {base : Nat} {spare : Nat → Bool} {held : Bool}
/-- A datum none of whose lists is greater than a machine's memory. -/
def Light (t : TypeId) (d : DataW H) : Prop := ∀ n ∈ d.weights Tryz.prog t, n ≤ reachBytes
theorem light_arg {ts : List TypeId} {ds : List (DataW H)} (h : (DataW.weightsEach Tryz.prog ts ds).all (· ≤ reachBytes) = true) {j : Nat} {t : TypeId} {d : DataW H} (ht : ts[j]? = some t) (hd : ds[j]? = some d) : Light t d := fun n hn => by
  simpa using List.all_eq_true.1 h n (DataW.weights_mem_each ht hd n hn)
theorem light_part {t : TypeId} {parts : List (DataW H)} {fs : Array Field} (h : Light t (.agg parts)) (hu : Tryz.prog.underlying t = some (.struct fs)) {j : Nat} {f : Field} {d : DataW H} (hf : fs[j]? = some f) (hp : parts[j]? = some d) : Light f.type d := fun n hn =>
  h n (by simp only [DataW.weights, hu]; exact DataW.weights_mem_each (t := f.type) (j := j) (by simp [hf]) hp n hn)
theorem weightsAll_mem {e : TypeId} : ∀ {l : List (DataW H)} {d : DataW H}, d ∈ l → ∀ n ∈ d.weights Tryz.prog e, n ∈ DataW.weightsAll Tryz.prog e l
  | x :: r, d, hd, n, hn => by
    simp only [DataW.weightsAll, List.mem_append]
    rcases List.mem_cons.1 hd with rfl | hd
    · exact .inl hn
    · exact .inr (weightsAll_mem hd n hn)
theorem light_elem {t e : TypeId} {elems rest : List (DataW H)} (h : Light t (.slice elems rest)) (hu : Tryz.prog.underlying t = some (.slice e)) {d : DataW H} (hd : d ∈ elems) : Light e d := fun n hn =>
  h n (by simp only [DataW.weights, hu, List.mem_cons, List.mem_append]; exact .inr (.inl (weightsAll_mem hd n hn)))
theorem light_len {t e : TypeId} {elems rest : List (DataW H)} (h : Light t (.slice elems rest)) (hu : Tryz.prog.underlying t = some (.slice e)) : elems.length * Tryz.prog.bytesOf e ≤ reachBytes := by
  have := h ((elems.length + rest.length) * Tryz.prog.bytesOf e) (by simp [DataW.weights, hu])
  rw [Nat.add_mul] at this
  omega
theorem open_rowsL {α : Type} {t e : TypeId} {v : Value} {d : DataW H} {ps : List MemPlace} (k : Nat) (enc : α → List Value) (R : α → Prop) (henc : ∀ x, (enc x).length = k) (h0 : 0 < k)
    (ht : Tryz.prog.underlying t = some (.slice e)) (hC : Tryz.prog.cellsOf e = k) (hlight : Light t d)
    (hel : ∀ n cs (y : DataW H × List MemPlace), cs.length = k → Light e y.1 → DataW.trod encH Tryz.prog w base spare held n e cs = some y → ∃ x, cs = enc x ∧ R x)
    (hv : ∃ a len cap, v = .slice a len cap) (h : DataW.Trod encH Tryz.prog w base spare held t v d ps) :
    ∃ l : List α, Rd k v l.length (l.flatMap enc) w ∧ (∀ x ∈ l, R x) ∧ l.length * Tryz.prog.bytesOf e ≤ reachBytes := by
  obtain ⟨fuel, hf⟩ := h
  obtain ⟨a0, len0, cap0, rfl⟩ := hv
  rcases open_slice ht hf with ⟨hcs, hx⟩ | ⟨a, len, cap, m, n, D, Pl, hcs, hb, hl, hm, hmm, hx, hi⟩
  · simp [Value.cells] at hcs
    obtain ⟨rfl, rfl, rfl⟩ := hcs
    exact ⟨[], by simpa using rd_nil, (fun x hx => nomatch hx), by simp⟩
  · simp [Value.cells] at hcs
    obtain ⟨rfl, rfl, rfl⟩ := hcs
    simp only [Prod.mk.injEq] at hx
    obtain ⟨rfl, -⟩ := hx
    have hlen := light_len hlight ht
    rw [List.length_map, List.length_range] at hlen
    obtain ⟨l, hll, hp⟩ := exists_rows len0 (fun i x => R x ∧ ∀ f u, (enc x)[f]? = some u → w.cell? (a.add (i * k + f)) = some u) (fun i hlt => by
      obtain ⟨cs', hc, ht'⟩ := hi i (by rw [hmm]; split <;> omega)
      rw [hC] at hc
      obtain ⟨_, hcl, hat⟩ := World.cells?_some hc
      obtain ⟨x, rfl, hR⟩ := hel n cs' _ hcl (light_elem hlight ht (List.mem_map.2 ⟨i, List.mem_range.2 hlt, rfl⟩)) ht'
      refine ⟨x, hR, fun f u hu => ?_⟩
      have hf : f < k := by
        have := (List.getElem?_eq_some_iff.1 hu).1
        rwa [henc] at this
      rw [← add_add, hat f hf, hu])
    refine ⟨l, ⟨by rw [flat_length enc k henc], by omega, some a, cap0, by rw [hll], by omega, hm, (fun e => nomatch e), fun ad hd j u hu => ?_⟩, fun x hx => ?_, by rw [hll]; exact hlen⟩
    · cases hd
      obtain ⟨x, h1, h2⟩ := flat_rows enc k henc h0 hu
      have := (hp _ _ h1).2 _ _ h2
      rwa [Nat.div_add_mod'] at this
    · obtain ⟨i, hi', rfl⟩ := List.getElem_of_mem hx
      exact (hp i _ (List.getElem?_eq_getElem hi')).1
theorem open_intsL {v : Value} {d : DataW H} {ps : List MemPlace} (hlight : Light 24 d) (hv : ∃ a len cap, v = .slice a len cap) (h : DataW.Trod encH Tryz.prog w base spare held 24 v d ps) :
    ∃ l : List Int, Rd 1 v l.length (intC l) w ∧ Fits l ∧ l.length ≤ 17592186044416 := by
  obtain ⟨l, h1, h2, h3⟩ := open_rowsL 1 (fun n : Int => [Value.int .i64 n]) (fun n => An.Int64 n) (fun _ => rfl) (by decide) Tryz.underlying24 (by kernel_rfl) hlight (fun n cs y hl _ ht => by
    match cs, hl with
    | [c], _ =>
      obtain ⟨i, rfl, hw⟩ := field_int Tryz.underlying3 ht
      exact ⟨i, rfl, int_bd hw⟩) hv h
  rw [show Tryz.prog.bytesOf 3 = 8 by kernel_rfl] at h3
  unfold reachBytes at h3
  exact ⟨l, by rw [intC, map_one]; exact h1, h2, by omega⟩
set_option maxRecDepth 100000 in
theorem open_evL {n : Nat} {cs : List Value} {y : DataW H × List MemPlace} (hl : cs.length = 6) (hlight : Light 46 y.1) (ht : DataW.trod encH Tryz.prog w base spare held n 46 cs = some y) : ∃ p : Ev × Value, cs = evC2 p ∧ EvIn w p ∧ EvPre p.1 := by
  obtain ⟨xs, m, _, hx, hlen, hxl, hfs⟩ := DataW.trod_struct Tryz.underlying46 ht
  subst hx
  match cs, hl with
  | [c0, c1, c2, c3, c4, c5], _ =>
    have t0 := hfs 0 _ rfl
    have t1 := hfs 1 _ rfl
    have t2 := hfs 2 _ rfl
    have t3 := hfs 3 _ rfl
    have t4 := hfs 4 _ rfl
    have t5 := hfs 5 _ rfl
    match xs, hxl with
    | [x0, x1, x2, x3, x4, x5], _ =>
      obtain ⟨i0, rfl, -⟩ := field_int Tryz.underlying3 (v := c0) t0
      obtain ⟨i1, rfl, w1⟩ := field_int Tryz.underlying3 (v := c1) t1
      obtain ⟨i2, rfl, w2⟩ := field_int Tryz.underlying3 (v := c2) t2
      obtain ⟨i3, rfl, w3⟩ := field_int Tryz.underlying3 (v := c3) t3
      obtain ⟨i4, rfl, w4⟩ := field_int Tryz.underlying3 (v := c4) t4
      obtain ⟨s5, h5⟩ := field_slice (v := c5) Tryz.underlying24 t5
      have l5 : Light 24 x5.1 := light_part hlight Tryz.underlying46 (j := 5) rfl rfl
      obtain ⟨l, r5, f5, n5⟩ := open_intsL l5 s5 h5
      exact ⟨(⟨i0, i1, i2, i3, i4, l⟩, c5), rfl, ⟨r5, int_bd w1, int_bd w2, int_bd w3, int_bd w4, f5⟩, ⟨int_bd w1, int_bd w2, int_bd w3, int_bd w4, f5, n5⟩⟩
set_option maxRecDepth 100000 in
theorem open_rk {n : Nat} {cs : List Value} {y : DataW H × List MemPlace} (hl : cs.length = 2) (ht : DataW.trod encH Tryz.prog w base spare held n 62 cs = some y) : ∃ r : Rk, cs = rkC r ∧ An.Int64 r.job ∧ An.Int64 r.prio := by
  obtain ⟨xs, m, _, hx, hlen, hxl, hfs⟩ := DataW.trod_struct Tryz.underlying62 ht
  match cs, hl with
  | [c0, c1], _ =>
    have t0 := hfs 0 _ rfl
    have t1 := hfs 1 _ rfl
    match xs, hxl with
    | [x0, x1], _ =>
      obtain ⟨i0, rfl, w0⟩ := field_int Tryz.underlying3 (v := c0) t0
      obtain ⟨i1, rfl, w1⟩ := field_int Tryz.underlying3 (v := c1) t1
      exact ⟨⟨i0, i1⟩, rfl, int_bd w0, int_bd w1⟩
theorem u64_bd {i : Int} (h : (Lit.int .u64 i).wf = true) : 0 ≤ i ∧ i < 18446744073709551616 := by
  simp [Lit.wf, IntKind.min, IntKind.max, IntKind.signed, IntKind.bits] at h
  omega
/-- An answer as it lies where the call begins. -/
structure AnsD where
  a : Ans
  Ae : Option Addr
  As : Option Addr
  Ar : Option Addr
  ce : Nat
  cs : Nat
  cr : Nat
  ps : List (Ev × Value)
def AnsD.v (x : AnsD) : Value := ansV x.a (.slice x.Ae x.a.events.length x.ce) (.slice x.As x.a.job.set.length x.cs) (.slice x.Ar x.a.ranks.length x.cr)
structure AnsIn (w : World) (x : AnsD) : Prop where
  evs : x.a.events = x.ps.map (·.1)
  rdE : Rd 6 (.slice x.Ae x.a.events.length x.ce) x.ps.length (x.ps.flatMap evC2) w
  own : ∀ p ∈ x.ps, Rd 1 p.2 p.1.list.length (intC p.1.list) w
  rdS : Rd 1 (.slice x.As x.a.job.set.length x.cs) x.a.job.set.length (intC x.a.job.set) w
  rdR : Rd 2 (.slice x.Ar x.a.ranks.length x.cr) x.a.ranks.length (x.a.ranks.flatMap rkC) w
  pre : AnsPre x.a
theorem AnsIn.evs' {w0 : World} {x : AnsD} (h : AnsIn w0 x) (L : List At) : Evs w0 L (.slice x.Ae x.a.events.length x.ce) x.ps := ⟨fun W HW => rd_old HW h.rdE, fun p hp W HW => rd_old HW (h.own p hp)⟩
set_option maxRecDepth 100000 in
set_option maxHeartbeats 4000000 in
theorem open_answer {ts : List TypeId} {ds : List (DataW H)} (hsz : (DataW.weightsEach Tryz.prog ts ds).all (· ≤ reachBytes) = true) {j : Nat} {v : Value} {d : DataW H} {ps : List MemPlace} (ht : ts[j]? = some 32) (hd : ds[j]? = some d)
    (hv : ∃ cs, v = .agg cs ∧ cs.size = 27) (h : DataW.Trod encH Tryz.prog w base spare held 32 v d ps) : ∃ x : AnsD, AnsIn w x ∧ v = x.v := by
  obtain ⟨fuel, hf⟩ := h
  obtain ⟨cs, rfl, hsize⟩ := hv
  have hlight := light_arg hsz ht hd
  obtain ⟨xs, m, _, hx, hlen, hxl, hfs⟩ := DataW.trod_struct Tryz.underlying32 hf
  simp only [Prod.mk.injEq] at hx
  obtain ⟨rfl, -⟩ := hx
  match cs, hsize with
  | ⟨[c0, c1, c2, c3, c4, c5, c6, c7, c8, c9, c10, c11, c12, c13, c14, c15, c16, c17, c18, c19, c20, c21, c22, c23, c24, c25, c26]⟩, _ =>
    have t0 := hfs 0 _ rfl
    have t1 := hfs 1 _ rfl
    have t2 := hfs 2 _ rfl
    have t3 := hfs 3 _ rfl
    have t4 := hfs 4 _ rfl
    have t5 := hfs 5 _ rfl
    have t6 := hfs 6 _ rfl
    have t7 := hfs 7 _ rfl
    have t8 := hfs 8 _ rfl
    have t9 := hfs 9 _ rfl
    have t10 := hfs 10 _ rfl
    have t11 := hfs 11 _ rfl
    have t12 := hfs 12 _ rfl
    clear hfs
    match xs, hxl with
    | [x0, x1, x2, x3, x4, x5, x6, x7, x8, x9, x10, x11, x12], _ =>
      obtain ⟨i0, rfl, w0⟩ := field_int Tryz.underlying22 (v := c0) t0
      obtain ⟨i1, rfl, w1⟩ := field_int Tryz.underlying3 (v := c1) t1
      obtain ⟨⟨ae, ne, ce, rfl⟩, h2⟩ := field_slice (v := c2) Tryz.underlying23 t2
      obtain ⟨⟨ar, nr, cr, rfl⟩, h4⟩ := field_slice (v := c11) Tryz.underlying27 t4
      obtain ⟨i5, rfl, w5⟩ := field_int Tryz.underlying3 (v := c12) t5
      obtain ⟨i6, rfl, w6⟩ := field_int Tryz.underlying28 (v := c13) t6
      obtain ⟨i7, rfl, w7⟩ := field_int Tryz.underlying28 (v := c14) t7
      obtain ⟨i8, rfl, w8⟩ := field_int Tryz.underlying3 (v := c15) t8
      obtain ⟨i9, rfl, w9⟩ := field_int Tryz.underlying3 (v := c16) t9
      obtain ⟨i10, rfl, w10⟩ := field_int Tryz.underlying3 (v := c17) t10
      obtain ⟨i12, rfl, w12⟩ := field_int Tryz.underlying3 (v := c26) t12
      have l2 : Light 23 x2.1 := light_part hlight Tryz.underlying32 (j := 2) rfl rfl
      have l3 : Light 26 x3.1 := light_part hlight Tryz.underlying32 (j := 3) rfl rfl
      have l4 : Light 27 x4.1 := light_part hlight Tryz.underlying32 (j := 4) rfl rfl
      obtain ⟨pe, re, pp, be⟩ := open_rowsL 6 evC2 (fun p => EvIn w p ∧ EvPre p.1) (fun _ => rfl) (by decide) Tryz.underlying23 (by kernel_rfl) l2 (fun n cs y hl hlt ht => by
        obtain ⟨p, h1, h2, h3⟩ := open_evL hl hlt ht
        exact ⟨p, h1, h2, h3⟩) ⟨ae, ne, ce, rfl⟩ h2
      obtain ⟨lr, rr, pr, br⟩ := open_rowsL 2 rkC (fun r => An.Int64 r.job ∧ An.Int64 r.prio) (fun _ => rfl) (by decide) Tryz.underlying27 (by kernel_rfl) l4 (fun n cs y hl _ ht => by
        obtain ⟨r, h1, h2, h3⟩ := open_rk hl ht
        exact ⟨r, h1, h2, h3⟩) ⟨ar, nr, cr, rfl⟩ h4
      have t3' : DataW.trod encH Tryz.prog w base spare held m 26 [c3, c4, c5, c6, c7, c8, c9, c10] = some x3 := t3
      have t11' : DataW.trod encH Tryz.prog w base spare held m 30 [c18, c19, c20, c21, c22, c23, c24, c25] = some x11 := t11
      obtain ⟨ys, m2, _, hy, _, hyl, hgs⟩ := DataW.trod_struct Tryz.underlying26 t3'
      subst hy
      have j0 := hgs 0 _ rfl
      have j1 := hgs 1 _ rfl
      have j2 := hgs 2 _ rfl
      have j3 := hgs 3 _ rfl
      have j4 := hgs 4 _ rfl
      have j5 := hgs 5 _ rfl
      have j6 := hgs 6 _ rfl
      have j7 := hgs 7 _ rfl
      clear hgs
      obtain ⟨zs, m3, _, _, _, hzl, hks⟩ := DataW.trod_struct Tryz.underlying30 t11'
      have k0 := hks 0 _ rfl
      have k1 := hks 1 _ rfl
      have k2 := hks 2 _ rfl
      have k3 := hks 3 _ rfl
      have k4 := hks 4 _ rfl
      have k5 := hks 5 _ rfl
      have k6 := hks 6 _ rfl
      have k7 := hks 7 _ rfl
      clear hks
      match ys, hyl, zs, hzl with
      | [y0, y1, y2, y3, y4, y5, y6, y7], _, [z0, z1, z2, z3, z4, z5, z6, z7], _ =>
        obtain ⟨a0, rfl, b0⟩ := field_int Tryz.underlying3 (v := c3) j0
        obtain ⟨a1, rfl, b1⟩ := field_int Tryz.underlying3 (v := c4) j1
        obtain ⟨a2, rfl, b2⟩ := field_int Tryz.underlying3 (v := c5) j2
        obtain ⟨a3, rfl, b3⟩ := field_int Tryz.underlying3 (v := c6) j3
        obtain ⟨a4, rfl, b4⟩ := field_int Tryz.underlying3 (v := c7) j4
        obtain ⟨a5, rfl, b5⟩ := field_int Tryz.underlying3 (v := c8) j5
        obtain ⟨a6, rfl, b6⟩ := field_int Tryz.underlying3 (v := c9) j6
        obtain ⟨⟨adS, ns, cs, rfl⟩, h7⟩ := field_slice (v := c10) Tryz.underlying24 j7
        have l7 : Light 24 y7.1 := light_part l3 Tryz.underlying26 (j := 7) rfl rfl
        obtain ⟨ls, rs, fs, bs⟩ := open_intsL l7 ⟨adS, ns, cs, rfl⟩ h7
        obtain ⟨e0, rfl, f0⟩ := field_int Tryz.underlying3 (v := c18) k0
        obtain ⟨e1, rfl, f1⟩ := field_int Tryz.underlying3 (v := c19) k1
        obtain ⟨e2, rfl, f2⟩ := field_int Tryz.underlying3 (v := c20) k2
        obtain ⟨e3, rfl, f3⟩ := field_int Tryz.underlying3 (v := c21) k3
        obtain ⟨e4, rfl, f4⟩ := field_int Tryz.underlying3 (v := c22) k4
        obtain ⟨e5, rfl, f5⟩ := field_int Tryz.underlying3 (v := c23) k5
        obtain ⟨e6, rfl, f6⟩ := field_int Tryz.underlying3 (v := c24) k6
        obtain ⟨e7, rfl, f7⟩ := field_int Tryz.underlying3 (v := c25) k7
        have qe : ne = pe.length := by obtain ⟨-, -, A, c, h, -⟩ := re; simp only [Value.slice.injEq] at h; exact h.2.1
        have qr : nr = lr.length := by obtain ⟨-, -, A, c, h, -⟩ := rr; simp only [Value.slice.injEq] at h; exact h.2.1
        have qs : ns = ls.length := by obtain ⟨-, -, A, c, h, -⟩ := rs; simp only [Value.slice.injEq] at h; exact h.2.1
        subst qe qr qs
        rw [show Tryz.prog.bytesOf 46 = 64 by kernel_rfl] at be
        rw [show Tryz.prog.bytesOf 62 = 16 by kernel_rfl] at br
        unfold reachBytes at be br
        refine ⟨⟨⟨i0, i1, pe.map (·.1), ⟨a0, a1, a2, a3, a4, a5, a6, ls⟩, lr, i5, i6, i7, i8, i9, i10, ⟨e0, e1, e2, e3, e4, e5, e6, e7⟩, i12⟩, ae, adS, ar, ce, cs, cr, pe⟩, ?_, ?_⟩
        · refine ⟨rfl, by simpa using re, fun p hp => (pp p hp).1.rd, rs, rr, ?_⟩
          exact ⟨int_bd w0, int_bd w1, fun e he => by obtain ⟨p, hp, rfl⟩ := List.mem_map.1 he; exact (pp p hp).2, by simp only [List.length_map]; omega, int_bd b0, int_bd b1, int_bd b2, int_bd b3, int_bd b4, int_bd b5, int_bd b6, fs, bs, pr, by simp only; omega, int_bd w5, u64_bd w6, u64_bd w7, int_bd w8, int_bd w9, int_bd w10, int_bd f0, int_bd f1, int_bd f2, int_bd f3, int_bd f4, int_bd f5, int_bd f6, int_bd f7, int_bd w12⟩
        · simp only [AnsD.v, ansV, List.length_map]
end
end Go.Proofs.YtdekbbffoaphhaaGreatDoor
