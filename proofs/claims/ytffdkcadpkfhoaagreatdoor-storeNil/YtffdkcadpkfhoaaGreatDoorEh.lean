/- A verified evaluator for the model of Go, part 8: what it reckons of a call, the call does in every world that its abstract heap speaks of. Conditions: none. -/
import Derived.Test.YtffdkcadpkfhoaaGreatDoorEg
namespace Go.Evo

section
variable {E : Env} (ok : E.Ok)

theorem run_viewAt {P : Program} {w : World} {b : Nat} {c : Array Value} {el : Nat} {fr : Nat × Nat} (h : w.heap[b]? = some (.cells c el fr)) : (viewAt b).run P w = .ok none w := by
  simp [viewAt, shape, Sem.run, World.shape?, h]
theorem run_shape {P : Program} {w : World} {b : Nat} {c : Array Value} {el : Nat} {fr : Nat × Nat} (h : w.heap[b]? = some (.cells c el fr)) : (shape b).run P w = .ok (some (el, c.size)) w := by
  simp [shape, Sem.run, World.shape?, h]
theorem run_seenAt {P : Program} {w : World} {a : Addr} {c : Array Value} {el : Nat} {fr : Nat × Nat} (h : w.heap[a.block]? = some (.cells c el fr)) : (Conv.seenAt a).run P w = .ok a w := by
  simp [Conv.seenAt, run_viewAt h]
theorem run_cellsIn {P : Program} {w : World} {b : Nat} {c : Array Value} {el : Nat} {fr : Nat × Nat} (h : w.heap[b]? = some (.cells c el fr)) : (cellsIn b).run P w = .ok (some c.size) w := by
  simp [cellsIn, run_shape h]
theorem run_variablesAt {P : Program} {w : World} {a : Addr} {u n : Nat} {c : Array Value} {el : Nat} {fr : Nat × Nat} (h : w.heap[a.block]? = some (.cells c el fr)) :
    (variablesAt a u n).run P w = .ok (liesAt P P.depth el (c.size / P.cellsOf el) a.off u n) w := by
  have h2 : w.shape? a.block = some (el, c.size) := by simp [World.shape?, h]
  simp [variablesAt, program, shape, Sem.run_bind, Sem.run, h2]

noncomputable def isUp : TypeDesc → Bool
  | .unsafePointer => true
  | _ => false
theorem isUp_inv {d : TypeDesc} (h : isUp d = true) : d = .unsafePointer := by cases d <;> first | rfl | cases h
noncomputable def isPt : TypeDesc → Option Nat
  | .pointer t => some t
  | _ => none
theorem isPt_inv {d : TypeDesc} {t : Nat} (h : isPt d = some t) : d = .pointer t := by
  cases d <;> simp only [isPt] at h <;> first | (cases h; done) | (cases h; rfl)

/-- A pointer made an unsafe one, and back. -/
noncomputable def aUns (E : Env) (hp : Hp) (src dst : Nat) (x : AV) : Option AV :=
  match E.und src with
  | none => none
  | some s => match E.und dst with
    | none => none
    | some d => match isPt s with
      | some t => cond (isUp d) (match x with
        | .pnil => some .pnil
        | .ptr id o => (match hp.get id with
          | some (.cells _ _ _ n) => (match E.size t with
            | some (_ + 1) => cond (Nat.blt o n) (some (.ptr id o)) none
            | _ => none)
          | _ => none)
        | _ => none) none
      | none => cond (isUp s) (match isPt d with
        | none => none
        | some u => match x with
          | .pnil => some .pnil
          | .ptr id o => (match hp.get id with
            | some (.cells true el _ n) => (match E.size u with
              | none => none
              | some _ => cond (liesAt E.P E.P.depth el (n / E.P.cellsOf el) o u 1) (some (.ptr id o)) none)
            | _ => none)
          | _ => none) none

include ok in
theorem aUns_ok {ρ : Rho} {hp : Hp} {nx : Nat} {w : World} {src dst : Nat} {x z : AV} {v : Value} (r : E.R ρ hp nx w) (hx : VR ρ x v) (h : aUns E hp src dst x = some z) : ∃ v', (convert src dst v).run E.P w = .ok v' w ∧ VR ρ z v' := by
  unfold aUns at h
  cases h1 : E.und src with
  | none => rw [h1] at h; cases h
  | some s =>
    rw [h1] at h
    simp only at h
    cases h2 : E.und dst with
    | none => rw [h2] at h; cases h
    | some d =>
      rw [h2] at h
      simp only at h
      have r1 := run_und ok (w := w) h1
      have r2 := run_und ok (w := w) h2
      cases h3 : isPt s with
      | some t =>
        rw [h3] at h
        simp only at h
        have := isPt_inv h3; subst this
        cases h4 : isUp d with
        | false => rw [h4] at h; cases h
        | true =>
          rw [h4] at h
          simp only [cond_true] at h
          have := isUp_inv h4; subst this
          split at h
          · cases h
            unfold VR at hx; subst hx
            exact ⟨.pointer none, by simp [convert, Conv.unsafePointer, r1, r2], by unfold VR; rfl⟩
          · rename_i id o
            split at h
            · rename_i fx el cs n hg
              split at h
              · rename_i zz hz
                cases hlt : Nat.blt o n with
                | false => rw [hlt] at h; cases h
                | true =>
                  rw [hlt] at h; cases h
                  rw [blt_iff] at hlt
                  unfold VR at hx
                  obtain ⟨b, sh, e, hρ, rfl⟩ := hx
                  obtain ⟨b', sh', e', q1, c, fr, q2, q3, q4, _, _, _⟩ := r.hr id _ hg
                  rw [hρ] at q1; cases q1
                  refine ⟨.pointer (some ⟨b, sh + o, none⟩), ?_, by unfold VR; exact ⟨b, sh, e, hρ, rfl⟩⟩
                  have hsz := run_size ok (w := w) hz
                  have hno : ¬ (c.size ≤ sh + o) := by omega
                  simp [convert, Conv.unsafePointer, r1, r2, run_seenAt (a := ⟨b, sh + o, none⟩) q2, run_cellsIn q2, hsz, hno]
              · cases h
            · cases h
          · cases h
      | none =>
        rw [h3] at h
        simp only at h
        cases h4 : isUp s with
        | false => rw [h4] at h; cases h
        | true =>
          rw [h4] at h
          simp only [cond_true] at h
          have := isUp_inv h4; subst this
          cases h5 : isPt d with
          | none => rw [h5] at h; cases h
          | some u =>
            rw [h5] at h
            simp only at h
            have := isPt_inv h5; subst this
            split at h
            · cases h
              unfold VR at hx; subst hx
              exact ⟨.pointer none, by simp [convert, Conv.unsafePointer, r1, r2], by unfold VR; rfl⟩
            · rename_i id o
              split at h
              · rename_i el cs n hg
                cases hz : E.size u with
                | none => rw [hz] at h; cases h
                | some zz =>
                rw [hz] at h
                simp only at h
                have hsz := run_size ok (w := w) hz
                cases hl : liesAt E.P E.P.depth el (n / E.P.cellsOf el) o u 1 with
                | false => rw [hl] at h; cases h
                | true =>
                  rw [hl] at h; cases h
                  unfold VR at hx
                  obtain ⟨b, sh, e, hρ, rfl⟩ := hx
                  obtain ⟨b', sh', e', q1, c, fr, q2, q3, q4, q5, _, _⟩ := r.hr id _ hg
                  rw [hρ] at q1; cases q1
                  obtain ⟨hs0, hen⟩ := q5 rfl
                  subst hs0
                  refine ⟨.pointer (some ⟨b, 0 + o, none⟩), ?_, by unfold VR; exact ⟨b, 0, e, hρ, rfl⟩⟩
                  have hv := run_variablesAt (P := E.P) (w := w) (a := ⟨b, 0 + o, none⟩) (u := u) (n := 1) q2
                  simp only [Nat.zero_add] at hv
                  rw [q3, hen, hl] at hv
                  simp only [Nat.zero_add]
                  simp [convert, Conv.unsafePointer, r1, r2, run_seenAt (a := ⟨b, o, none⟩) q2, hv, hsz]
              · cases h
            · cases h

theorem usd_none {P : Program} {w : World} {ts : Array TypeId} {t l c : Nat} : (Builtin.unsafeSliceData_ ts t #[.slice none l c]).run P w = .ok (.pointer none) w := rfl
theorem usd_some {P : Program} {w : World} {ts : Array TypeId} {t l c : Nat} {a : Addr} (hc : c ≠ 0) : (Builtin.unsafeSliceData_ ts t #[.slice (some a) l c]).run P w = .ok (.pointer (some a)) w := by
  have : Builtin.unsafeSliceData_ ts t #[.slice (some a) l c] = ite (c ≠ 0) (pure (.pointer (some a))) _ := rfl
  rw [this, if_pos hc]; rfl

/-- Where a slice's first element lies. -/
noncomputable def aData (x : AV) : Option AV :=
  match x with
  | .snil => some .pnil
  | .sl id o _ c => cond (Nat.beq c 0) none (some (.ptr id o))
  | .slo id o n _ => cond (Nat.beq n 0) none (some (.ptr id o))
  | _ => none
theorem aData_ok {ρ : Rho} {x z : AV} {v : Value} {P : Program} {w : World} {ts : Array TypeId} {t : Nat} (hx : VR ρ x v) (h : aData x = some z) : ∃ v', (Builtin.unsafeSliceData_ ts t #[v]).run P w = .ok v' w ∧ VR ρ z v' := by
  unfold aData at h
  split at h
  · cases h
    unfold VR at hx; subst hx
    exact ⟨.pointer none, usd_none, by unfold VR; rfl⟩
  · rename_i id o n c
    cases hc : Nat.beq c 0 with
    | true => rw [hc] at h; cases h
    | false =>
      rw [hc] at h; cases h
      have hc' : c ≠ 0 := by intro h; subst h; simp at hc
      unfold VR at hx
      obtain ⟨b, sh, e, hρ, rfl⟩ := hx
      exact ⟨.pointer (some ⟨b, sh + o, none⟩), usd_some hc', by unfold VR; exact ⟨b, sh, e, hρ, rfl⟩⟩
  · rename_i id o n zz
    cases hc : Nat.beq n 0 with
    | true => rw [hc] at h; cases h
    | false =>
      rw [hc] at h; cases h
      have hc' : n ≠ 0 := by intro h; subst h; simp at hc
      unfold VR at hx
      obtain ⟨b, sh, e, hρ, hx⟩ := hx
      rcases hx with ⟨c, rfl, hce, hnc⟩ | ⟨h0, _⟩
      · have : c ≠ 0 := by omega
        exact ⟨.pointer (some ⟨b, sh + o, none⟩), usd_some this, by unfold VR; exact ⟨b, sh, e, hρ, rfl⟩⟩
      · exact absurd h0 hc'
  · cases h

noncomputable def u8s : List AV → Option (List Nat)
  | [] => some []
  | .int .u8 (.ofNat m) :: l => cond (Nat.blt m 256) (match u8s l with
    | none => none
    | some r => some (m :: r)) none
  | _ :: _ => none

theorem u8s_ok {ρ : Rho} : ∀ {l : List AV} {r : List Nat} {vs : List Value}, u8s l = some r → VRs ρ l vs → r.length = l.length ∧ (∀ m ∈ r, m < 256) ∧ vs = r.map fun m => Value.int .u8 (Int.ofNat m)
  | [], r, vs, h, hv => by
    unfold u8s at h; cases h
    unfold VRs at hv; subst hv
    exact ⟨rfl, (fun m hm => by cases hm), rfl⟩
  | x :: l, r, vs, h, hv => by
    unfold u8s at h
    split at h
    · rename_i heq
      cases heq
    · rename_i m l' heq
      cases heq
      cases hm : Nat.blt m 256 with
      | false => rw [hm] at h; cases h
      | true =>
        rw [hm] at h
        simp only [cond_true] at h
        cases hr : u8s l with
        | none => rw [hr] at h; cases h
        | some r' =>
          rw [hr] at h; cases h
          unfold VRs at hv
          obtain ⟨y, ys, rfl, h1, h2⟩ := hv
          unfold VR at h1; subst h1
          obtain ⟨q1, q2, q3⟩ := u8s_ok hr h2
          rw [blt_iff] at hm
          exact ⟨by simp [q1], (fun k hk => by
            rcases List.mem_cons.1 hk with rfl | hk
            · exact hm
            · exact q2 k hk), by simp [q3]⟩
    · cases h

theorem run_loadBytes {P : Program} {w : World} : ∀ (r : List Nat) (b o : Nat) (acc : ByteArray), (∀ m ∈ r, m < 256) → (∀ j m, r[j]? = some m → w.cell? ⟨b, o + j, none⟩ = some (.int .u8 (Int.ofNat m))) →
    ∃ s, (loadBytes ⟨b, o, none⟩ acc r.length).run P w = .ok s w ∧ s.data.toList.map UInt8.toNat = acc.data.toList.map UInt8.toNat ++ r
  | [], b, o, acc, _, _ => ⟨acc, by simp [loadBytes], by simp⟩
  | m :: r, b, o, acc, hm, hc => by
    have h0 := hc 0 m rfl
    rw [Nat.add_zero] at h0
    obtain ⟨s, q1, q2⟩ := run_loadBytes (P := P) (w := w) r b (o + 1) (acc.push (Int.ofNat m).toNat.toUInt8) (fun k hk => hm k (List.mem_cons_of_mem _ hk)) (fun j k hj => by
      have := hc (j + 1) k hj
      rw [show o + 1 + j = o + (j + 1) by omega]; exact this)
    refine ⟨s, ?_, ?_⟩
    · simp only [List.length_cons, loadBytes]
      rw [Sem.run_bind]
      have : (load ⟨b, o, none⟩).run P w = .ok (.int .u8 (Int.ofNat m)) w := by simp [load, Sem.run, h0]
      rw [this]
      simp only [Result.andThen_ok]
      rw [addr_add]
      exact q1
    · rw [q2]
      have hm0 := hm m List.mem_cons_self
      have : (Int.ofNat m).toNat.toUInt8.toNat = m := by
        show (Nat.toUInt8 m).toNat = m
        simp [Nat.toUInt8, Nat.mod_eq_of_lt hm0]
      simp [ByteArray.push]
      exact hm0

theorem lies_row {P : Program} {el u cells off n : Nat} (h1 : P.cellsOf el = 1) (hd : 0 < P.depth) (h2 : sameLayout P P.depth el u = true) (hle : off + n ≤ cells) : liesAt P P.depth el (cells / P.cellsOf el) off u n = true := by
  obtain ⟨d, hd'⟩ : ∃ d, P.depth = d + 1 := ⟨P.depth - 1, by omega⟩
  have hrow : rowAt P (sameLayout P P.depth · u) P.depth el (cells / P.cellsOf el) off n = true := by
    conv => lhs; arg 3; rw [hd']
    unfold rowAt
    simp only [h1, Nat.div_one, Nat.mod_one]
    simp [h2, hle]
  conv => lhs; arg 2; rw [hd']
  unfold liesAt
  rw [hrow]
  rfl

/-- A string out of bytes that are frozen by it. -/
noncomputable def aStrOf (E : Env) (hp : Hp) (pt : Nat) (x y : AV) : Option (AV × Hp) :=
  match y with
  | .int .i64 (.ofNat 0) => (match x with
    | .pnil => some (.str [], hp)
    | .ptr _ _ => some (.str [], hp)
    | _ => none)
  | .int .i64 (.ofNat n) => (match x with
    | .ptr id o => (match hp.get id with
      | some (.cells _ el cs k) => cond (Nat.ble (Nat.add o n) k) (match E.und pt with
        | some (.pointer u) => cond (Nat.blt 0 E.P.depth) (cond (Nat.beq (E.P.cellsOf el) 1) (cond (sameLayout E.P E.P.depth el u) (match getN cs n o with
          | none => none
          | some l => match u8s l with
            | none => none
            | some r => cond (Nat.blt n 9223372036854775808) (some (.str r, hp.del id)) none) none) none) none
        | _ => none) none
      | _ => none)
    | _ => none)
  | _ => none

theorem freeze_none {P : Program} {w : World} {a : Addr} {n : Nat} : (freeze a n).run P w = .ok () (w.freeze a n) := rfl

include ok in
theorem aStrOf_ok {ρ : Rho} {hp hp' : Hp} {nx : Nat} {w : World} {pt t : Nat} {ts : List Nat} {x y z : AV} {u v : Value} (r : E.R ρ hp nx w) (hx : VR ρ x u) (hy : VR ρ y v) (h : aStrOf E hp pt x y = some (z, hp')) :
    Did E ρ hp nx w z hp' nx ((do pure (Next.value (← Builtin.unsafeString_ (pt :: ts).toArray t #[u, v])) : Sem Next).run E.P w) := by
  unfold aStrOf at h
  split at h
  · unfold VR at hy; subst hy
    have empty : (Builtin.unsafeString_ (pt :: ts).toArray t #[u, .int .i64 (.ofNat 0)]).run E.P w = .ok (.string .empty) w ∧ z = .str [] ∧ hp' = hp := by
      split at h
      · cases h
        unfold VR at hx; subst hx
        exact ⟨rfl, rfl, rfl⟩
      · cases h
        unfold VR at hx
        obtain ⟨b, sh, e, hρ, rfl⟩ := hx
        exact ⟨rfl, rfl, rfl⟩
      · cases h
    obtain ⟨h1, rfl, rfl⟩ := empty
    refine ⟨.string .empty, w, ρ, .inl ?_, by unfold VR; exact ⟨_, rfl, rfl⟩, r, G.refl _ _ _ _⟩
    rw [Sem.run_bind, h1]; rfl
  · rename_i n hn0
    unfold VR at hy; subst hy
    split at h
    · rename_i id o
      split at h
      · rename_i fx el cs k hg
        cases hle : Nat.ble (Nat.add o n) k with
        | false => rw [hle] at h; cases h
        | true =>
          rw [hle] at h
          simp only [cond_true] at h
          split at h
          · rename_i uu hpt
            cases c1 : Nat.blt 0 E.P.depth with
            | false => rw [c1] at h; cases h
            | true =>
            cases c2 : Nat.beq (E.P.cellsOf el) 1 with
            | false => rw [c1, c2] at h; cases h
            | true =>
            cases c3 : sameLayout E.P E.P.depth el uu with
            | false => rw [c1, c2, c3] at h; cases h
            | true =>
            rw [c1, c2, c3] at h
            simp only [cond_true] at h
            cases hl : getN cs n o with
            | none => rw [hl] at h; cases h
            | some l =>
            rw [hl] at h
            simp only at h
            cases hu : u8s l with
            | none => rw [hu] at h; cases h
            | some rr =>
            rw [hu] at h
            simp only at h
            cases c4 : Nat.blt n 9223372036854775808 with
            | false => rw [c4] at h; cases h
            | true =>
            rw [c4] at h
            cases h
            rw [blt_iff] at c1 c4
            rw [Nat.beq_eq] at c2
            have hle' : o + n ≤ k := ble_iff.1 hle
            unfold VR at hx
            obtain ⟨b, sh, e, hρ, rfl⟩ := hx
            obtain ⟨b', sh', e', q1, c, fr, q2, q3, q4, q5, q6, _⟩ := r.hr id _ hg
            rw [hρ] at q1; cases q1
            obtain ⟨g1, g2⟩ := getN_get hl
            have hvs : ∃ vs : List Value, VRs ρ l vs ∧ ∀ j u, vs[j]? = some u → c[sh + (o + j)]? = some u := by
              refine ⟨(c.toList.drop (sh + o)).take n, ?_, ?_⟩
              · refine VRs.of_get (by simp [g1]; omega) ?_
                intro j x hj
                have hjn : j < n := by
                  rcases Nat.lt_or_ge j n with h1 | h1
                  · exact h1
                  · rw [List.getElem?_eq_none (by omega)] at hj; cases hj
                obtain ⟨a, v, p1, p2, p3⟩ := q6 (o + j) (by omega)
                have := g2 j x hj
                rw [this] at p1; cases p1
                refine ⟨v, ?_, p3⟩
                rw [List.getElem?_take_of_lt hjn, List.getElem?_drop, Array.getElem?_toList, Nat.add_assoc]
                exact p2
              · intro j u hj
                have hjn : j < n := by
                  rcases Nat.lt_or_ge j n with h1 | h1
                  · exact h1
                  · rw [List.getElem?_eq_none (by simp; omega)] at hj; cases hj
                rw [List.getElem?_take_of_lt hjn, List.getElem?_drop, Array.getElem?_toList, Nat.add_assoc] at hj
                exact hj
            obtain ⟨vs, v1, v2⟩ := hvs
            obtain ⟨u1, u2, u3⟩ := u8s_ok hu v1
            have hlen : rr.length = n := by rw [u1, g1]
            obtain ⟨st, s1, s2⟩ := run_loadBytes (P := E.P) (w := w) rr b (sh + o) .empty u2 (fun j m hj => by
              have hj' : vs[j]? = some (.int .u8 (Int.ofNat m)) := by rw [u3, List.getElem?_map, hj]; rfl
              have := v2 j _ hj'
              rw [← Nat.add_assoc] at this
              simp [World.cell?, q2, this])
            rw [hlen] at s1
            have hn : n ≠ 0 := by
              intro h0; subst h0
              exact hn0 rfl
            have hva := run_variablesAt (P := E.P) (w := w) (a := ⟨b, sh + o, none⟩) (u := uu) (n := n) q2
            have hlie := lies_row (P := E.P) (off := sh + o) (n := n) (cells := c.size) c2 c1 c3 (by omega)
            simp only at hva
            rw [hlie] at hva
            have hfz : ∀ b', b' ≠ b → (w.freeze ⟨b, sh + o, none⟩ n).heap[b']? = w.heap[b']? := by
              intro b' hb'
              unfold World.freeze
              rw [if_neg hn]
              simp only [Array.getElem?_modify]
              rw [if_neg (fun h => hb' h.symm)]
            have hsz : (w.freeze ⟨b, sh + o, none⟩ n).heap.size = w.heap.size := by
              unfold World.freeze
              rw [if_neg hn]
              simp
            obtain ⟨d1, d2⟩ := r.drop (w' := w.freeze ⟨b, sh + o, none⟩ n) hg hρ hfz hsz (by
              unfold World.freeze
              rw [if_neg hn]
              exact ⟨rfl, rfl, rfl⟩)
            refine ⟨.string st, _, ρ, .inl ?_, by unfold VR; exact ⟨st, rfl, by rw [s2]; rfl⟩, d1, d2⟩
            have hel := run_und ok (w := w) hpt
            have hmax : ¬ (IntKind.i64.max < (n : Int)) := by
              show ¬ ((9223372036854775807 : Int) < n)
              omega
            rw [Sem.run_bind]
            have : (Builtin.unsafeString_ (pt :: ts).toArray t #[.pointer (some ⟨b, sh + o, none⟩), .int .i64 (.ofNat n)]).run E.P w = .ok (.string st) (w.freeze ⟨b, sh + o, none⟩ n) := by
              have hdef : Builtin.unsafeString_ (pt :: ts).toArray t #[.pointer (some ⟨b, sh + o, none⟩), .int .i64 (.ofNat n)] = (do
                if (n : Int) < 0 then runtimePanic (.error "\x75nsafe.String: len out of range")
                if (n : Int) > IntKind.i64.max then unsupported (.unsafePointer "String: a length above the largest int")
                if (n : Int) = 0 then pure (.string .empty)
                else if ← variablesAt ⟨b, sh + o, none⟩ (← elemOf pt) n then do
                  let s ← loadBytes ⟨b, sh + o, none⟩ .empty n
                  freeze ⟨b, sh + o, none⟩ n
                  pure (.string s)
                else unsupported (.unsafePointer "String: not so many bytes at ptr")) := rfl
              rw [hdef]
              simp [elemOf, hel, hva, s1, hn, show ¬ ((n : Int) < 0) by omega]
              omega
            rw [this]
            rfl
          · cases h
      · cases h
    · cases h
  · cases h

noncomputable def stdF (E : Env) (ext : Nat → Bool) (o : Oper) (xs : List AV) (hp : Hp) (nx : Nat) : Option (AV × Hp × Nat) :=
  match o.op with
  | .convert s d _ => (match xs with
    | [x] => (match aUns E hp s d x with
      | none => none
      | some y => some (y, hp, nx))
    | _ => none)
  | .call c => (match c.callee with
    | .builtin .unsafeSliceData => (match xs with
      | [x] => (match aData x with
        | none => none
        | some y => some (y, hp, nx))
      | _ => none)
    | .builtin .unsafeString => (match c.argTypes.toList with
      | pt :: _ => (match xs with
        | [x, y] => (match aStrOf E hp pt x y with
          | none => none
          | some (z, hp') => some (z, hp', nx))
        | _ => none)
      | _ => none)
    | .value _ => (match xs with
      | [.fn g [], x] => cond (ext g) (some (x, hp, nx)) none
      | _ => none)
    | _ => none)
  | _ => none

theorem one_list {ρ : Rho} {x : AV} {vs : Array Value} (h : VRs ρ [x] vs.toList) : ∃ u, vs = #[u] ∧ VR ρ x u := by
  cases vs with
  | mk l =>
    unfold VRs at h
    obtain ⟨u, l1, h0, h1, h2⟩ := h
    unfold VRs at h2
    subst h2
    have h0' : l = [u] := h0
    subst h0'
    exact ⟨u, rfl, h1⟩

include ok in
theorem stdF_ok {ext : Nat → Bool} (hext : ∀ g, ext g = true → ∀ x w, (callFunc g #[x]).run E.P w = .ok (.value x) w) :
    ∀ o xs hp nx y hp' nx', stdF E ext o xs hp nx = some (y, hp', nx') → ∀ (ρ : Rho) (w : World) (evl : Operand → Value), E.R ρ hp nx w → VRs ρ xs (o.op.operands.toList.map evl) → Did E ρ hp nx w y hp' nx' ((execOp evl o).run E.P w) := by
  intro o xs hp nx y hp' nx' h ρ w evl r hv
  obtain ⟨dst, op, type, pos, after, guard⟩ := o
  unfold stdF at h
  cases op <;> simp only at h <;> try (cases h; done)
  case convert sd dd x =>
    split at h
    · rename_i xa
      cases hu : aUns E hp sd dd xa with
      | none => rw [hu] at h; cases h
      | some ya =>
        rw [hu] at h; cases h
        have hv' : VRs ρ [xa] [evl x] := hv
        unfold VRs at hv'
        obtain ⟨u, us, q1, q2, _⟩ := hv'
        cases q1
        obtain ⟨v', p1, p2⟩ := aUns_ok ok r q2 hu
        exact ⟨v', w, ρ, .inl (run_value p1), p2, r, G.refl _ _ _ _⟩
    · cases h
  case call c =>
    obtain ⟨callee, args, argTypes⟩ := c
    cases callee <;> simp only at h <;> try (cases h; done)
    case value f =>
      split at h
      · rename_i g xa
        cases he : ext g with
        | false => rw [he] at h; cases h
        | true =>
          rw [he] at h; cases h
          have hops : (Op.call ⟨.value f, args, argTypes⟩).operands.toList.map evl = evl f :: args.toList.map evl := by simp [Op.operands, Call.operands]
          have hv' : VRs ρ [.fn g [], y] (evl f :: args.toList.map evl) := by rw [← hops]; exact hv
          unfold VRs at hv'
          obtain ⟨u, us, q1, q2, q3⟩ := hv'
          cases q1
          unfold VR at q2
          obtain ⟨cv, hf, hcv⟩ := q2
          unfold VRs at hcv
          have hcv' : cv = #[] := by cases cv; simp at hcv; rw [hcv]
          subst hcv'
          rw [← Array.toList_map] at q3
          obtain ⟨v, e1, e2⟩ := one_list q3
          refine ⟨v, w, ρ, .inl ?_, e2, r, G.refl _ _ _ _⟩
          have := hext g he v w
          simp only [execOp, resolve, hf, Deferred.ofValue, Sem.run_bind, Sem.run_pure, Result.andThen_ok, invoke, Array.empty_append, Array.append_empty]
          rw [e1, this]
      · cases h
    case builtin b =>
      cases b <;> simp only at h <;> try (cases h; done)
      case unsafeSliceData =>
        split at h
        · rename_i xa
          cases hd : aData xa with
          | none => rw [hd] at h; cases h
          | some ya =>
            rw [hd] at h; cases h
            have hops : (Op.call ⟨.builtin .unsafeSliceData, args, argTypes⟩).operands.toList.map evl = args.toList.map evl := by simp [Op.operands, Call.operands]
            have hv' : VRs ρ [xa] (args.map evl).toList := by rw [Array.toList_map, ← hops]; exact hv
            obtain ⟨u, e1, e2⟩ := one_list hv'
            obtain ⟨v', p1, p2⟩ := aData_ok (P := E.P) (w := w) (ts := argTypes) (t := type) e2 hd
            refine ⟨v', w, ρ, .inl ?_, p2, r, G.refl _ _ _ _⟩
            simp only [execOp, resolve, Sem.run_bind, Sem.run_pure, Result.andThen_ok, invoke, builtin]
            rw [e1]
            simp [p1]
        · cases h
      case unsafeString =>
        split at h
        · rename_i pt ts hts
          split at h
          · rename_i xa ya
            cases hd : aStrOf E hp pt xa ya with
            | none => rw [hd] at h; cases h
            | some q =>
              obtain ⟨z, hp1⟩ := q
              rw [hd] at h; cases h
              have hops : (Op.call ⟨.builtin .unsafeString, args, argTypes⟩).operands.toList.map evl = args.toList.map evl := by simp [Op.operands, Call.operands]
              have hv' : VRs ρ [xa, ya] (args.map evl).toList := by rw [Array.toList_map, ← hops]; exact hv
              obtain ⟨u, v, e1, e2, e3⟩ := two_list hv'
              have hte : argTypes = (pt :: ts).toArray := by cases argTypes; simp at hts; rw [hts]
              have := aStrOf_ok ok (t := type) (ts := ts) r e2 e3 hd
              simp only [execOp, resolve, Sem.run_bind, Sem.run_pure, Result.andThen_ok, invoke, builtin]
              rw [e1, hte]
              simpa using this
          · cases h
        · cases h
noncomputable def stdX (E : Env) (ok : E.Ok) (ext : Nat → Bool) (hext : ∀ g, ext g = true → ∀ x w, (callFunc g #[x]).run E.P w = .ok (.value x) w) : XKit E := ⟨stdF E ext, stdF_ok ok hext⟩
end
end Go.Evo
namespace Go.Evo

mutual
noncomputable def pf : AV → Bool
  | .ptr _ _ => false
  | .sl _ _ _ _ => false
  | .slo _ _ _ _ => false
  | .map _ => false
  | .fn _ l => pfs l
  | .iface _ x => pf x
  | .agg l => pfs l
  | .tup l => pfs l
  | _ => true
noncomputable def pfs : List AV → Bool
  | [] => true
  | x :: l => cond (pf x) (pfs l) false
end

mutual
theorem pf_vr {ρ ρ' : Rho} : ∀ {x : AV} {v : Value}, pf x = true → VR ρ x v → VR ρ' x v
  | .bool b, v, _, h => by unfold VR at h ⊢; exact h
  | .int k n, v, _, h => by unfold VR at h ⊢; exact h
  | .str l, v, _, h => by unfold VR at h ⊢; exact h
  | .pnil, v, _, h => by unfold VR at h ⊢; exact h
  | .ptr _ _, v, hp, _ => by simp [pf] at hp
  | .gptr g o, v, _, h => by unfold VR at h ⊢; exact h
  | .snil, v, _, h => by unfold VR at h ⊢; exact h
  | .sl _ _ _ _, v, hp, _ => by simp [pf] at hp
  | .slo _ _ _ _, v, hp, _ => by simp [pf] at hp
  | .mnil, v, _, h => by unfold VR at h ⊢; exact h
  | .map _, v, hp, _ => by simp [pf] at hp
  | .fn f l, v, hp, h => by
    unfold VR at h ⊢
    obtain ⟨vs, h1, h2⟩ := h
    exact ⟨vs, h1, pfs_vr (by simpa [pf] using hp) h2⟩
  | .fnil, v, _, h => by unfold VR at h ⊢; exact h
  | .inil, v, _, h => by unfold VR at h ⊢; exact h
  | .iface t x, v, hp, h => by
    unfold VR at h ⊢
    obtain ⟨y, h1, h2⟩ := h
    exact ⟨y, h1, pf_vr (by simpa [pf] using hp) h2⟩
  | .agg l, v, hp, h => by
    unfold VR at h ⊢
    obtain ⟨vs, h1, h2⟩ := h
    exact ⟨vs, h1, pfs_vr (by simpa [pf] using hp) h2⟩
  | .tup l, v, hp, h => by
    unfold VR at h ⊢
    obtain ⟨vs, h1, h2⟩ := h
    exact ⟨vs, h1, pfs_vr (by simpa [pf] using hp) h2⟩
theorem pfs_vr {ρ ρ' : Rho} : ∀ {l : List AV} {vs : List Value}, pfs l = true → VRs ρ l vs → VRs ρ' l vs
  | [], vs, _, h => by unfold VRs at h ⊢; exact h
  | x :: l, vs, hp, h => by
    unfold VRs at h ⊢
    obtain ⟨y, ys, h1, h2, h3⟩ := h
    unfold pfs at hp
    rw [cond_true_iff] at hp
    exact ⟨y, ys, h1, pf_vr hp.1 h2, pfs_vr hp.2 h3⟩
end

/-- What a pure call comes to. -/
structure Pure1 (E : Env) (g : Nat) (xs : List AV) (y : AV) : Prop where
  pfx : pfs xs = true
  enters : ∀ (args : Array Value) (w : World), (callFunc g args).run E.P w = .ok (.enter g args) w
  calls : ∀ (w : World) (vs : Array Value), GR E.gs E.ng w → VRs (fun _ => none) xs vs.toList → Calls E.P g vs w fun e w' => ∃ v, e = .returned v ∧ VR (fun _ => none) y v ∧
    w.heap.size ≤ w'.heap.size ∧ (∀ b, b < w.heap.size → w'.heap[b]? = w.heap[b]?) ∧ Beside w w'

abbrev KList := List (Nat × List AV × AV)
noncomputable def kfOf (l : KList) : CallFn := fun g xs hp nx => match l.find? (fun e => cond (Nat.beq e.1 g) (aeqs e.2.1 xs) false) with
  | none => none
  | some e => some (e.2.2, hp, nx)

def KOk (E : Env) (l : KList) : Prop := ∀ e ∈ l, Pure1 E e.1 e.2.1 e.2.2

theorem kfOf_spec {l : KList} {g : Nat} {xs : List AV} {hp : Hp} {nx : Nat} {r : AV × Hp × Nat} (h : kfOf l g xs hp nx = some r) : ∃ y, (g, xs, y) ∈ l ∧ r = (y, hp, nx) := by
  unfold kfOf at h
  split at h
  · cases h
  · rename_i e he
    cases h
    have h1 := List.mem_of_find?_eq_some he
    have h2 := List.find?_some he
    simp only [cond_true_iff] at h2
    obtain ⟨g', xs', y'⟩ := e
    have h3 : g' = g := by have := h2.1; rwa [Nat.beq_eq] at this
    have h4 : xs' = xs := aeqs_ok h2.2
    subst h3; subst h4
    exact ⟨y', h1, rfl⟩

theorem kfOf_ok {E : Env} {l : KList} (h : KOk E l) : CallOk E (kfOf l) ∧ Enters E (kfOf l) := by
  refine ⟨?_, ?_⟩
  · intro g xs hp nx y hp' nx' hk ρ w vs r hv
    obtain ⟨y', hm, heq⟩ := kfOf_spec hk
    cases heq
    have hP := h _ hm
    refine (hP.calls w vs r.gl (pfs_vr hP.pfx hv)).mono ?_
    rintro e w' ⟨v, rfl, hy, hsz, hfr, hb⟩
    have same : ∀ (b : Nat), (∃ o, w.heap[b]? = some o) → w'.heap[b]? = w.heap[b]? := by
      rintro b ⟨o, ho⟩
      refine hfr b ?_
      rcases Nat.lt_or_ge b w.heap.size with h1 | h1
      · exact h1
      · rw [Array.getElem?_eq_none h1] at ho; cases ho
    have hpfy : VR ρ y v := by
      exact VR.mono (fun id x hx => by cases hx) _ _ hy
    refine ⟨v, ρ, rfl, hpfy, ⟨?_, r.sep, r.fresh, r.low, r.gl.of_frame hsz (fun b hb' => hfr b ?_)⟩, ⟨Rho.le_refl _, Nat.le_refl _, fun _ _ h => h, hsz, fun b hb' _ => hfr b hb', ?_, fun _ o h _ => ⟨o, h⟩, hb.tape, hb.os, hb.output⟩⟩
    · intro id o ho
      obtain ⟨b, sh, e, h1, h2⟩ := r.hr id o ho
      refine ⟨b, sh, e, h1, h2.mono (Rho.le_refl _) (same b ?_)⟩
      cases o with
      | cells fx elem cs n => obtain ⟨c, fr, q, _⟩ := h2; exact ⟨_, q⟩
      | map es clock => obtain ⟨es', q, _⟩ := h2; exact ⟨_, q⟩
      | siter s pos => obtain ⟨s', q, _⟩ := h2; exact ⟨_, q⟩
      | miter m a b c => obtain ⟨m', s', q, _⟩ := h2; exact ⟨_, q⟩
    · have := r.gl.1; omega
    · intro id o b sh e h1 h2
      exact .inr ⟨id, o, sh, e, h1, h2⟩
  · intro g xs hp nx r hk args w
    obtain ⟨y', hm, _⟩ := kfOf_spec hk
    exact (h _ hm).enters args w

/-- A run from an empty heap gives a pure call. -/
theorem pure_of_run {E : Env} {cf : CallFn} (hc : CallOk E cf) (he : Enters E cf) {g : Nat} {xs : List AV} {y : AV} (hpx : pfs xs = true) (hpy : pf y = true) (h : (match cf g xs .nil 0 with | none => false | some (z, _, _) => aeq z y) = true) : Pure1 E g xs y := by
  cases hr : cf g xs .nil 0 with
  | none => rw [hr] at h; cases h
  | some q =>
    obtain ⟨z, hp', nx'⟩ := q
    rw [hr] at h
    have := aeq_ok h
    subst this
    refine ⟨hpx, fun args w => he g xs .nil 0 _ hr args w, ?_⟩
    intro w vs hgl hv
    have r0 : E.R (fun _ => none) .nil 0 w := by
      refine ⟨?_, ?_, ?_, ?_, hgl⟩
      · intro id o ho; rw [Tr.get_nil] at ho; cases ho
      · intro i j oi oj b sh e b' sh' e' hi; rw [Tr.get_nil] at hi; cases hi
      · intro _ _; rfl
      · intro id b sh e h; cases h
    refine (hc g xs .nil 0 z hp' nx' hr (fun _ => none) w vs r0 hv).mono ?_
    rintro e w' ⟨v, ρ', rfl, hy, hR, hG⟩
    refine ⟨v, rfl, pf_vr hpy hy, hG.size, fun b hb => hG.frame b hb (by intro id o sh e ho; rw [Tr.get_nil] at ho; cases ho), ⟨hG.tape, hG.os, hG.output⟩⟩

theorem KOk.cons {E : Env} {l : KList} {g : Nat} {xs : List AV} {y : AV} (h : KOk E l) (hp : Pure1 E g xs y) : KOk E ((g, xs, y) :: l) := by
  intro e he
  rcases List.mem_cons.1 he with rfl | he
  · exact hp
  · exact h e he
theorem KOk.nil {E : Env} : KOk E [] := fun e he => by cases he
theorem KOk.append {E : Env} {l m : KList} (h : KOk E l) (h' : KOk E m) : KOk E (l ++ m) := by
  intro e he
  rcases List.mem_append.1 he with he | he
  · exact h e he
  · exact h' e he

end Go.Evo
namespace Go.Evo

mutual
noncomputable def shA (k : Nat) : AV → AV
  | .ptr i o => .ptr (Nat.add k i) o
  | .sl i o n c => .sl (Nat.add k i) o n c
  | .slo i o n z => .slo (Nat.add k i) o n z
  | .map i => .map (Nat.add k i)
  | .fn f l => .fn f (shL k l)
  | .iface t x => .iface t (shA k x)
  | .agg l => .agg (shL k l)
  | .tup l => .tup (shL k l)
  | x => x
noncomputable def shL (k : Nat) : List AV → List AV
  | [] => []
  | x :: l => shA k x :: shL k l
end

mutual
theorem shA_vr {ρ ρ' : Rho} {k : Nat} (hs : ∀ id x, ρ id = some x → ρ' (k + id) = some x) : ∀ {x : AV} {v : Value}, VR ρ x v → VR ρ' (shA k x) v
  | .bool b, v, h => by unfold shA VR; unfold VR at h; exact h
  | .int _ n, v, h => by unfold shA VR; unfold VR at h; exact h
  | .str l, v, h => by unfold shA VR; unfold VR at h; exact h
  | .pnil, v, h => by unfold shA VR; unfold VR at h; exact h
  | .ptr i o, v, h => by
    unfold shA VR; unfold VR at h
    obtain ⟨b, sh, e, h1, h2⟩ := h
    exact ⟨b, sh, e, hs _ _ h1, h2⟩
  | .gptr g o, v, h => by unfold shA VR; unfold VR at h; exact h
  | .snil, v, h => by unfold shA VR; unfold VR at h; exact h
  | .sl i o n c, v, h => by
    unfold shA VR; unfold VR at h
    obtain ⟨b, sh, e, h1, h2⟩ := h
    exact ⟨b, sh, e, hs _ _ h1, h2⟩
  | .slo i o n z, v, h => by
    unfold shA VR; unfold VR at h
    obtain ⟨b, sh, e, h1, h2⟩ := h
    exact ⟨b, sh, e, hs _ _ h1, h2⟩
  | .mnil, v, h => by unfold shA VR; unfold VR at h; exact h
  | .map i, v, h => by
    unfold shA VR; unfold VR at h
    obtain ⟨b, sh, e, h1, h2⟩ := h
    exact ⟨b, sh, e, hs _ _ h1, h2⟩
  | .fn f l, v, h => by
    unfold shA VR; unfold VR at h
    obtain ⟨vs, h1, h2⟩ := h
    exact ⟨vs, h1, shL_vr hs h2⟩
  | .fnil, v, h => by unfold shA VR; unfold VR at h; exact h
  | .inil, v, h => by unfold shA VR; unfold VR at h; exact h
  | .iface t x, v, h => by
    unfold shA VR; unfold VR at h
    obtain ⟨y, h1, h2⟩ := h
    exact ⟨y, h1, shA_vr hs h2⟩
  | .agg l, v, h => by
    unfold shA VR; unfold VR at h
    obtain ⟨vs, h1, h2⟩ := h
    exact ⟨vs, h1, shL_vr hs h2⟩
  | .tup l, v, h => by
    unfold shA VR; unfold VR at h
    obtain ⟨vs, h1, h2⟩ := h
    exact ⟨vs, h1, shL_vr hs h2⟩
theorem shL_vr {ρ ρ' : Rho} {k : Nat} (hs : ∀ id x, ρ id = some x → ρ' (k + id) = some x) : ∀ {l : List AV} {vs : List Value}, VRs ρ l vs → VRs ρ' (shL k l) vs
  | [], vs, h => by unfold shL VRs; unfold VRs at h; exact h
  | x :: l, vs, h => by
    unfold shL VRs; unfold VRs at h
    obtain ⟨y, ys, h1, h2, h3⟩ := h
    exact ⟨y, ys, h1, shA_vr hs h2, shL_vr hs h3⟩
end

theorem shL_length (k : Nat) : ∀ (l : List AV), (shL k l).length = l.length
  | [] => by unfold shL; rfl
  | x :: l => by unfold shL; simp [shL_length k l]
theorem shL_get (k : Nat) : ∀ (l : List AV) (j : Nat), (shL k l)[j]? = (l[j]?).map (shA k)
  | [], j => by unfold shL; simp
  | x :: l, 0 => by unfold shL; simp
  | x :: l, j + 1 => by unfold shL; simpa using shL_get k l j

/-- A row of cells as a list. -/
structure LObj where
  id : Nat
  fx : Bool
  el : Nat
  l : List AV

/-- The heap with rows added, moved. -/
noncomputable def addL (k : Nat) : List LObj → Hp → Hp
  | [], h => h
  | o :: l, h => addL k l (h.set (Nat.add k o.id) (.cells o.fx o.el (ofCells (shL k o.l)) o.l.length))

theorem addL_get {k : Nat} : ∀ {l : List LObj} {h : Hp} {id : Nat} {ob : AObj}, (addL k l h).get id = some ob → (∃ o ∈ l, id = k + o.id ∧ ob = .cells o.fx o.el (ofCells (shL k o.l)) o.l.length) ∨ h.get id = some ob
  | [], h, id, ob, hg => .inr hg
  | o :: l, h, id, ob, hg => by
    unfold addL at hg
    rcases addL_get hg with ⟨o', h1, h2⟩ | h1
    · exact .inl ⟨o', List.mem_cons_of_mem _ h1, h2⟩
    · rw [Tr.get_set] at h1
      by_cases hi : Nat.add k o.id = id
      · rw [if_pos hi] at h1; cases h1
        exact .inl ⟨o, List.mem_cons_self, hi.symm, rfl⟩
      · rw [if_neg hi] at h1; exact .inr h1

def Has (h : Hp) (objs : List LObj) : Prop := ∀ o ∈ objs, ∃ cs, h.get o.id = some (.cells o.fx o.el cs o.l.length) ∧ ∀ j, j < o.l.length → cs.get j = o.l[j]?

structure Pure2 (E : Env) (g : Nat) (xs : List AV) (y : AV) (objs : List LObj) (n : Nat) : Prop where
  pfx : pfs xs = true
  enters : ∀ (args : Array Value) (w : World), (callFunc g args).run E.P w = .ok (.enter g args) w
  calls : ∀ (w : World) (vs : Array Value), GR E.gs E.ng w → VRs (fun _ => none) xs vs.toList → Calls E.P g vs w fun e w' => ∃ v ρ' hp', e = .returned v ∧ VR ρ' y v ∧ E.R ρ' hp' n w' ∧ G (fun _ => none) .nil 0 w ρ' hp' n w' ∧ Has hp' objs

structure Memo where
  g : Nat
  xs : List AV
  y : AV
  objs : List LObj
  n : Nat
noncomputable def memoF (l : List Memo) : CallFn := fun g xs hp nx => match l.find? (fun e => cond (Nat.beq e.g g) (aeqs e.xs xs) false) with
  | none => none
  | some e => some (shA nx e.y, addL nx e.objs hp, Nat.add nx e.n)

def MOk (E : Env) (l : List Memo) : Prop := ∀ e ∈ l, Pure2 E e.g e.xs e.y e.objs e.n

theorem memoF_spec {l : List Memo} {g : Nat} {xs : List AV} {hp : Hp} {nx : Nat} {r : AV × Hp × Nat} (h : memoF l g xs hp nx = some r) : ∃ e ∈ l, e.g = g ∧ e.xs = xs ∧ r = (shA nx e.y, addL nx e.objs hp, nx + e.n) := by
  unfold memoF at h
  split at h
  · cases h
  · rename_i e he
    cases h
    have h1 := List.mem_of_find?_eq_some he
    have h2 := List.find?_some he
    simp only [cond_true_iff] at h2
    have h3 : e.g = g := by have := h2.1; rwa [Nat.beq_eq] at this
    exact ⟨e, h1, h3, aeqs_ok h2.2, rfl⟩

theorem memoF_ok {E : Env} {l : List Memo} (h : MOk E l) : CallOk E (memoF l) ∧ Enters E (memoF l) := by
  refine ⟨?_, ?_⟩
  · intro g xs hp nx y hp1 nx1 hk ρ w vs r hv
    obtain ⟨e, hm, hg, hxs, heq⟩ := memoF_spec hk
    subst hg; subst hxs
    cases heq
    have hP := h _ hm
    refine (hP.calls w vs r.gl (pfs_vr hP.pfx hv)).mono ?_
    rintro en w' ⟨v, ρ', hp', rfl, hy, hR, hG, hH⟩
    -- the placing of both
    let ρ2 : Rho := fun id => if id < nx then ρ id else ρ' (id - nx)
    have lo : ∀ id, id < nx → ρ2 id = ρ id := fun id hid => if_pos hid
    have hi : ∀ id, ρ2 (nx + id) = ρ' id := fun id => by
      show (if nx + id < nx then _ else ρ' (nx + id - nx)) = _
      rw [if_neg (by omega), Nat.add_sub_cancel_left]
    have below : ∀ id x, ρ id = some x → id < nx := fun id x hx => by
      rcases Nat.lt_or_ge id nx with h1 | h1
      · exact h1
      · rw [r.fresh id h1] at hx; cases hx
    have le1 : ρ.le ρ2 := fun id x hx => by rw [lo id (below id x hx)]; exact hx
    have hs : ∀ id x, ρ' id = some x → ρ2 (nx + id) = some x := fun id x hx => by rw [hi]; exact hx
    have bsome : ∀ {ρ0 : Rho} {w0 : World} {o : AObj} {b sh e : Nat}, OR ρ0 w0 o b sh e → b < w0.heap.size := by
      intro ρ0 w0 o b sh e ho
      have : ∃ x, w0.heap[b]? = some x := by
        cases o with
        | cells fx elem cs n => obtain ⟨c, fr, q, _⟩ := ho; exact ⟨_, q⟩
        | map es clock => obtain ⟨es', q, _⟩ := ho; exact ⟨_, q⟩
        | siter s pos => obtain ⟨s', q, _⟩ := ho; exact ⟨_, q⟩
        | miter m a b c => obtain ⟨m', s', q, _⟩ := ho; exact ⟨_, q⟩
      obtain ⟨x, hx⟩ := this
      rcases Nat.lt_or_ge b w0.heap.size with h1 | h1
      · exact h1
      · rw [Array.getElem?_eq_none h1] at hx; cases hx
    have frame : ∀ b, b < w.heap.size → w'.heap[b]? = w.heap[b]? := fun b hb => hG.frame b hb (by intro id o sh e ho; rw [Tr.get_nil] at ho; cases ho)
    have newb : ∀ id o b sh e, hp'.get id = some o → ρ' id = some (b, sh, e) → w.heap.size ≤ b := by
      intro id o b sh e ho hr
      rcases hG.img id o b sh e ho hr with h1 | ⟨id0, o0, sh0, e0, h1, _⟩
      · exact h1
      · rw [Tr.get_nil] at h1; cases h1
    have oldor : ∀ id o, hp.get id = some o → ∃ b sh e, ρ id = some (b, sh, e) ∧ OR ρ w o b sh e := r.hr
    -- what is there
    have cases2 : ∀ id o, (addL nx e.objs hp).get id = some o → (∃ i o' b sh en, id = nx + i ∧ hp'.get i = some o' ∧ ρ' i = some (b, sh, en) ∧ OR ρ2 w' o b sh en) ∨ (id < nx ∧ hp.get id = some o) := by
      intro id o ho
      rcases addL_get ho with ⟨q, hq, h1, h2⟩ | h1
      · left
        obtain ⟨cs, h3, h4⟩ := hH q hq
        obtain ⟨b, sh, en, h5, c, fr, h6, h7, h8, h9, h10, h11⟩ := hR.hr q.id _ h3
        refine ⟨q.id, _, b, sh, en, h1, h3, h5, ?_⟩
        subst h2
        refine ⟨c, fr, h6, h7, h8, h9, ?_, h11⟩
        intro j hj
        obtain ⟨a, v, p1, p2, p3⟩ := h10 j hj
        rw [h4 j hj] at p1
        exact ⟨shA nx a, v, by rw [ofCells_get, shL_get, p1]; rfl, p2, shA_vr hs p3⟩
      · right
        obtain ⟨b, sh, en, h2, _⟩ := r.hr id o h1
        exact ⟨below id _ h2, h1⟩
    have hn2 : ∀ id, id < nx → ∀ o, hp.get id = some o → ρ2 id = ρ id := fun id hid _ _ => lo id hid
    refine ⟨v, ρ2, rfl, shA_vr hs hy, ⟨?_, ?_, ?_, ?_, hR.gl⟩, ⟨le1, Nat.le_add_right _ _, ?_, hG.size, ?_, ?_, ?_, hG.tape, hG.os, hG.output⟩⟩
    · intro id o ho
      rcases cases2 id o ho with ⟨i, o', b, sh, en, rfl, h1, h2, h3⟩ | ⟨h1, h2⟩
      · exact ⟨b, sh, en, hs _ _ h2, h3⟩
      · obtain ⟨b, sh, en, h3, h4⟩ := r.hr id o h2
        exact ⟨b, sh, en, le1 _ _ h3, h4.mono le1 (frame b (bsome h4))⟩
    · intro i j oi oj b sh en b' sh' en' h1 h2 h3 h4 hne
      rcases cases2 i oi h1 with ⟨i0, oi', b1, sh1, en1, rfl, p1, p2, p3⟩ | ⟨p1, p2⟩ <;> rcases cases2 j oj h2 with ⟨j0, oj', b2, sh2, en2, rfl, q1, q2, q3⟩ | ⟨q1, q2⟩
      · rw [hi] at h3 h4
        exact hR.sep i0 j0 oi' oj' b sh en b' sh' en' p1 q1 h3 h4 (by omega)
      · rw [hi] at h3
        rw [lo j q1] at h4
        have k1 := newb i0 oi' b sh en p1 h3
        obtain ⟨b3, sh3, e3, k2, k3⟩ := r.hr j oj q2
        rw [k2] at h4; cases h4
        have := bsome k3
        omega
      · rw [lo i p1] at h3
        rw [hi] at h4
        have k1 := newb j0 oj' b' sh' en' q1 h4
        obtain ⟨b3, sh3, e3, k2, k3⟩ := r.hr i oi p2
        rw [k2] at h3; cases h3
        have := bsome k3
        omega
      · rw [lo i p1] at h3
        rw [lo j q1] at h4
        exact r.sep i j oi oj b sh en b' sh' en' p2 q2 h3 h4 hne
    · intro id hid
      have : id = nx + (id - nx) := by omega
      rw [this, hi]
      exact hR.fresh _ (by omega)
    · intro id b sh en hh
      rcases Nat.lt_or_ge id nx with h1 | h1
      · rw [lo id h1] at hh; exact r.low id b sh en hh
      · have : id = nx + (id - nx) := by omega
        rw [this, hi] at hh
        exact hR.low _ b sh en hh
    · intro id hid hn
      rw [lo id hid]; exact hn
    · intro b hb _
      exact frame b hb
    · intro id o b sh en h1 h2
      rcases cases2 id o h1 with ⟨i0, oi', b1, sh1, en1, rfl, p1, p2, p3⟩ | ⟨p1, p2⟩
      · rw [hi] at h2
        exact .inl (newb i0 oi' b sh en p1 h2)
      · rw [lo id p1] at h2
        exact .inr ⟨id, o, sh, en, p2, h2⟩
    · intro id o h1 hid
      rcases cases2 id o h1 with ⟨i0, oi', b1, sh1, en1, rfl, p1, p2, p3⟩ | ⟨p1, p2⟩
      · omega
      · exact ⟨o, p2⟩
  · intro g xs hp nx r hk args w
    obtain ⟨e, hm, hg, _, _⟩ := memoF_spec hk
    subst hg
    exact (h _ hm).enters args w

noncomputable def hasB (h : Hp) (o : LObj) : Bool := match h.get o.id with
  | some (.cells fx el cs n) => cond (eqB fx o.fx) (cond (Nat.beq el o.el) (cond (Nat.beq n o.l.length) (match getN cs n 0 with
    | none => false
    | some l => aeqs l o.l) false) false) false
  | _ => false
theorem hasB_ok {h : Hp} {o : LObj} (hb : hasB h o = true) : ∃ cs, h.get o.id = some (.cells o.fx o.el cs o.l.length) ∧ ∀ j, j < o.l.length → cs.get j = o.l[j]? := by
  unfold hasB at hb
  split at hb
  · rename_i fx el cs n hg
    simp only [cond_true_iff] at hb
    obtain ⟨h1, h2, h3, h4⟩ := hb
    rw [Nat.beq_eq] at h2 h3
    have hfx : fx = o.fx := by
      unfold eqB at h1
      cases fx <;> cases ho : o.fx <;> rw [ho] at h1 <;> first | rfl | cases h1
    cases hl : getN cs n 0 with
    | none => rw [hl] at h4; cases h4
    | some l =>
      rw [hl] at h4
      have := aeqs_ok h4
      subst this
      obtain ⟨q1, q2⟩ := getN_get hl
      subst hfx; subst h2; subst h3
      refine ⟨cs, hg, fun j hj => ?_⟩
      have := q2 j _ (List.getElem?_eq_getElem (by omega))
      rw [Nat.zero_add] at this
      rw [this, ← List.getElem?_eq_getElem]
  · cases hb

/-- A run from an empty heap gives a call that serves everywhere. -/
theorem pure2_of_run {E : Env} {cf : CallFn} (hc : CallOk E cf) (he : Enters E cf) {g : Nat} {xs : List AV} {y : AV} {objs : List LObj} {n : Nat} (hpx : pfs xs = true)
    (h : (match cf g xs .nil 0 with | none => false | some (z, hp', nx') => cond (aeq z y) (cond (Nat.beq nx' n) (objs.all (hasB hp')) false) false) = true) : Pure2 E g xs y objs n := by
  cases hr : cf g xs .nil 0 with
  | none => rw [hr] at h; cases h
  | some q =>
    obtain ⟨z, hp', nx'⟩ := q
    rw [hr] at h
    simp only [cond_true_iff] at h
    obtain ⟨h1, h2, h3⟩ := h
    have := aeq_ok h1
    subst this
    rw [Nat.beq_eq] at h2
    subst h2
    refine ⟨hpx, fun args w => he g xs .nil 0 _ hr args w, ?_⟩
    intro w vs hgl hv
    have r0 : E.R (fun _ => none) .nil 0 w := by
      refine ⟨?_, ?_, ?_, ?_, hgl⟩
      · intro id o ho; rw [Tr.get_nil] at ho; cases ho
      · intro i j oi oj b sh e b' sh' e' hi; rw [Tr.get_nil] at hi; cases hi
      · intro _ _; rfl
      · intro id b sh e h; cases h
    refine (hc g xs .nil 0 z hp' nx' hr (fun _ => none) w vs r0 hv).mono ?_
    rintro e w' ⟨v, ρ', rfl, hy, hR, hG⟩
    exact ⟨v, ρ', hp', rfl, hy, hR, hG, fun o ho => hasB_ok (List.all_eq_true.1 h3 o ho)⟩

theorem MOk.nil {E : Env} : MOk E [] := fun e he => by cases he
theorem MOk.cons {E : Env} {l : List Memo} {g : Nat} {xs : List AV} {y : AV} {objs : List LObj} {n : Nat} (h : MOk E l) (hp : Pure2 E g xs y objs n) : MOk E (⟨g, xs, y, objs, n⟩ :: l) := by
  intro e he
  rcases List.mem_cons.1 he with rfl | he
  · exact hp
  · exact h e he

end Go.Evo
namespace Go.Evo

theorem ofList_get {α : Type} : ∀ (l : List α) (i : Nat) (t : Tr α) (j : Nat) (x : α), (Tr.ofList l i t).get j = some x → (i ≤ j ∧ l[j - i]? = some x) ∨ t.get j = some x
  | [], i, t, j, x, h => .inr h
  | y :: l, i, t, j, x, h => by
    have h' : (Tr.ofList l (Nat.succ i) (t.set i y)).get j = some x := h
    rcases ofList_get l (Nat.succ i) (t.set i y) j x h' with ⟨h1, h2⟩ | h1
    · left
      have : j - i = (j - Nat.succ i) + 1 := by omega
      rw [this]; exact ⟨by omega, by simpa using h2⟩
    · rw [Tr.get_set] at h1
      by_cases hij : i = j
      · subst hij; rw [if_pos rfl] at h1; left; simpa using h1
      · rw [if_neg hij] at h1; exact .inr h1

noncomputable def skOf (nt m : Nat) : Nat → Bool := fun t => cond (Nat.blt t nt) (Nat.testBit m t) false

theorem Env.Ok.of {E : Env} {nt m : Nat} (hT : E.T = Tr.ofList E.P.types.toList 0 .nil) (hF : E.F = Tr.ofList E.P.funcs.toList 0 .nil) (hs : E.sk = skOf nt m)
    (hsk : (List.range nt).all (fun t => cond (Nat.testBit m t) (!(E.P.stoodInHeld t) && !(E.P.eqGuardType E.P.depth t)) true) = true) (hm : E.P.follows .mixedOrders = true) : E.Ok := by
  refine ⟨?_, ?_, ?_, hm⟩
  · intro t i h
    rw [hT] at h
    rcases ofList_get _ _ _ _ _ h with ⟨_, h1⟩ | h1
    · simp only [Nat.sub_zero] at h1
      have h2 : E.P.types[t]? = some i := by rw [← Array.getElem?_toList]; exact h1
      have h3 : t < E.P.types.size := by
        rcases Nat.lt_or_ge t E.P.types.size with h4 | h4
        · exact h4
        · rw [Array.getElem?_eq_none h4] at h2; cases h2
      unfold Tables.info?
      rw [if_pos h3]; exact h2
    · rw [Tr.get_nil] at h1; cases h1
  · intro t i h
    rw [hF] at h
    rcases ofList_get _ _ _ _ _ h with ⟨_, h1⟩ | h1
    · simp only [Nat.sub_zero] at h1
      rw [← Array.getElem?_toList]; exact h1
    · rw [Tr.get_nil] at h1; cases h1
  · intro t ht
    rw [hs] at ht
    unfold skOf at ht
    rw [cond_true_iff, blt_iff] at ht
    have := List.all_eq_true.1 hsk t (List.mem_range.2 ht.1)
    rw [ht.2] at this
    simpa using this

theorem Fns.of {E : Env} (hF : E.F = Tr.ofList E.P.funcs.toList 0 .nil) (h : E.P.funcs.toList.all (fun fn => !(fn.name == "runtime.NumGoroutine")) = true) : Fns E := by
  refine ⟨fun f fn hf => ?_⟩
  rw [hF] at hf
  rcases ofList_get _ _ _ _ _ hf with ⟨_, h1⟩ | h1
  · have := List.all_eq_true.1 h fn (List.mem_of_getElem? h1)
    simpa using this
  · rw [Tr.get_nil] at h1; cases h1
end Go.Evo
