/- The framework, sixteenth text: conversions, lengths, the lesser and the greater. -/
import Derived.Test.YtafpgfdjfnoagaaFx15
import Derived.Laws.BytesString
import Derived.Deep.MidRow
namespace Go.Fx
set_option linter.unusedVariables false
set_option linter.unusedSimpArgs false
set_option linter.unusedSectionVars false

theorem bytes_cells {S : Mem} {m : Bool} : ∀ {cs : List Value} {l : List Int} {H : Heap}, RepL (Rep S m (.int .u8)) cs l H → cs = l.map (Value.int .u8)
  | cs, [], H, h => h.1
  | cs, x :: l, H, ⟨c1, c2, H1, H2, e1, e2, r, rl⟩ => by
    rw [e1, bytes_cells rl, show c1 = [.int .u8 x] from r.1]; rfl

theorem fold_push (l : List Int) : l.foldl (fun r n => r.push (UInt8.ofNat n.toNat)) ByteArray.empty = ⟨(l.map fun n => UInt8.ofNat n.toNat).toArray⟩ := by
  have key : ∀ (l : List Int) (s : ByteArray), (l.foldl (fun r n => r.push (UInt8.ofNat n.toNat)) s) = ⟨(s.data.toList ++ l.map fun n => UInt8.ofNat n.toNat).toArray⟩ := fun l => by
    induction l with
    | nil => intro s; simp
    | cons n l ih => intro s; rw [List.foldl_cons, ih]; simp [ByteArray.push]
  rw [key]; simp

theorem run_bytes {P : Program} {w : World} {S : Mem} {b : Nat} {arr : Array Value} {elem : TypeId} {fz : Nat × Nat} {pre cells rest : List Value} {l : List Int} {m : Bool} {H : Heap} (cap : Nat)
    (hb : w.heap[b]? = some (.cells arr elem fz)) (he : arr.toList = pre ++ (cells ++ rest)) (hr : RepL (Rep S m (.int .u8)) cells l H) :
    (Conv.bytesToString (.slice (some ⟨b, pre.length, none⟩) l.length cap)).run P w = .ok (strV (l.map fun n => UInt8.ofNat n.toNat)) w := by
  have hc := bytes_cells hr
  subst hc
  have hl := run_loadCells_list (P := P) w ⟨b, pre.length, none⟩ (l.map (Value.int .u8)) (fun j v hv => by
    rw [Addr.add_mid]
    simp only [World.cell?, hb]
    have hj : j < l.length := by
      have := (List.getElem?_eq_some_iff.1 hv).1
      simpa using this
    have : arr[pre.length + j]? = some v := by
      rw [← Array.getElem?_toList, he, List.getElem?_append_right (by omega), Nat.add_sub_cancel_left, List.getElem?_append_left (by simpa using hj)]
      exact hv
    simp [this])
  rw [List.length_map] at hl
  rw [run_bytesToString w _ _ cap l (by simpa using hl), fold_push]; rfl

theorem bytes_sh {P : Program} {w : World} {S : Mem} (hsh : ∀ b o, S b = some o → w.heap[b]? = some o) {v : Value} {l : List Int} (h : ShBody S (RepL (Rep S false (.int .u8))) [v] l []) :
    ∃ a n c, v = .slice a n c ∧ (Conv.bytesToString v).run P w = .ok (strV (l.map fun n => UInt8.ofNat n.toNat)) w := by
  rcases h with ⟨_, ⟨rfl, base, cap, hb⟩ | ⟨b, cap, arr, elem, fz, pre, cells, rest, e1, e2, e3, e4, e5⟩⟩
  · simp only [List.cons.injEq, and_true] at hb
    subst hb
    refine ⟨_, _, _, rfl, ?_⟩
    cases base with
    | none => simp [Conv.bytesToString, strV]; rfl
    | some a =>
      have hl := run_loadCells_list (P := P) w a [] (by simp)
      rw [run_bytesToString w a 0 cap [] (by simpa using hl)]
      rfl
  · simp only [List.cons.injEq, and_true] at e1
    subst e1
    exact ⟨_, _, _, rfl, run_bytes cap (hsh _ _ e2) e3 e4⟩

theorem bytes_own {P : Program} {w : World} {S : Mem} {m : Bool} {v : Value} {l : List Int} {H : Heap} (hH : ∀ p ∈ H, w.heap[p.1]? = some p.2) (h : OwnBody (RepL (Rep S m (.int .u8))) 1 [v] l H) :
    ∃ a n c, v = .slice a n c ∧ (Conv.bytesToString v).run P w = .ok (strV (l.map fun n => UInt8.ofNat n.toNat)) w := by
  rcases h with ⟨rfl, rfl, hb⟩ | ⟨b, cap, arr, elem, cells, rest, H', e1, e2, e3, e4, e5, e6⟩
  · simp only [List.cons.injEq, and_true] at hb
    subst hb
    exact ⟨_, _, _, rfl, by simp [Conv.bytesToString, strV]; rfl⟩
  · simp only [List.cons.injEq, and_true] at e1
    subst e1
    subst e2
    exact ⟨_, _, _, rfl, run_bytes (pre := []) cap (hH _ (List.mem_cons_self ..)) (by simpa using e3) e6⟩

section ops
variable {P : Program} {E : Env} (hE : TabOk P E.tab) {X : Ctx} {st : St} {G : Gh} {w : World} {R : Type} {r : R}
include hE

theorem opConvert_ok {S D : TypeId} {x : AVal} {vx : Value} {K : AVal → St → Option R} (h : opConvert E S D x st K = some r) (hm : RelM X st G w) (hx : RelV G x vx) :
    ∃ av v, (convert S D vx).run P w = .ok v w ∧ RelV G av v ∧ K av st = some r := by
  unfold opConvert at h
  cases hS : E.tab S with
  | none => simp [hS] at h
  | some si =>
    cases hD : E.tab D with
    | none => simp [hS, hD] at h
    | some di =>
      simp only [hS, hD] at h
      obtain ⟨d1, u1, t1⟩ := (hE S _ hS).und
      obtain ⟨d2, u2, t2⟩ := (hE D _ hD).und
      split at h
      · rename_i k k' n hd
        rw [hd] at t2
        cases d2 <;> simp [TDok] at t2
        subst t2
        cases intof (v := .one (.dat (.int k') n)) rfl hx
        refine ⟨_, _, ?_, relInt k _, h⟩
        cases d1 <;> simp [convert, run_underlying u1, run_underlying u2, Conv.intToInt]
      · rename_i s hs hd
        rw [hd] at t2; rw [hs] at t1
        cases d2 <;> simp [TDok] at t2
        cases d1 <;> simp [TDok] at t1
        cases strof (v := .one (.dat .str s)) rfl hx
        exact ⟨_, _, by simp [convert, run_underlying u1, run_underlying u2, strV], relStr _, h⟩
      · rename_i _ e lf hs hd
        rw [hd] at t2; rw [hs] at t1
        cases d2 <;> simp [TDok] at t2
        cases d1 <;> simp [TDok] at t1
        subst t1
        have fin : ∀ {l' : List Int} {s b : Nat} {y : Option Ty} {z : List Value}, E.tab e = some ⟨s, b, y, .int .u8, z⟩ → (∃ a n c, vx = .slice a n c ∧ (Conv.bytesToString vx).run P w = .ok (strV (l'.map fun n => UInt8.ofNat n.toNat)) w) →
            K (.one (.dat .str (l'.map fun n => UInt8.ofNat n.toNat))) st = some r → ∃ av v, (convert S D vx).run P w = .ok v w ∧ RelV G av v ∧ K av st = some r := fun {l' _ _ _ _} hT hb hK => by
          obtain ⟨d3, u3, t3⟩ := (hE _ _ hT).und
          cases d3 <;> simp [TDok] at t3
          subst t3
          obtain ⟨a, n, c, rfl, hrun⟩ := hb
          exact ⟨_, _, by rw [run_convert_bytes_string w S D e a n c u1 u3 u2]; exact hrun, relStr _, hK⟩
        split at h
        · rename_i l' hT
          obtain ⟨cs, e1, e2⟩ := hx
          simp only [Ty.agg, Bool.false_eq_true, if_false] at e1
          subst e1
          simp only [Rep, Bool.false_eq_true, if_false] at e2
          exact fin hT (bytes_sh hm.sh e2) h
        · rename_i a hT
          cases hA : st.arr a with
          | none => simp [hA] at h
          | some A =>
            simp only [hA] at h
            split at h
            · rename_i l' hc
              obtain ⟨ec, el⟩ := cast?_some hc
              obtain ⟨t, dp, sh, ll⟩ := A
              simp only [Ty.slice.injEq] at ec
              subst ec
              simp only at el
              subst el
              have har := hm.ar a _ hA
              have hv : vx = G.ψ a := hx
              rw [hv] at fin ⊢
              simp only [ArrRel] at har
              cases sh with
              | true => simp only [if_true] at har; exact fin hT (bytes_sh hm.sh har) h
              | false => simp only [Bool.false_eq_true, if_false] at har; exact fin hT (bytes_own (hm.ah a _ hA rfl) har) h
            · cases h
        · cases h
      · cases h

theorem run_len {t : TypeId} {ts : List TypeId} {ty : TypeId} {v : Value} {vs : List Value} {s b : Nat} {y : Option Ty} {z : List Value} {e : TypeId} (hT : E.tab t = some ⟨s, b, y, .slice e, z⟩) {a : Option Addr} {n c : Nat} (hv : v = .slice a n c) :
    (Builtin.len_ (t :: ts).toArray ty (v :: vs).toArray).run P w = .ok (.int .i64 (n : Int)) w := by
  have := (hE _ _ hT).slice
  subst hv
  simp [Builtin.len_, run_underlying this]; rfl

theorem opLen_ok {x : AVal} {n : Int} {v : Value} (h : lenOf st x.leaf = some n) (hs : x.str? = none) (hm : RelM X st G w) (hx : RelV G x v) : ∃ a m c, v = .slice a m c ∧ n = (m : Int) := by
  cases x with
  | one l =>
    cases l with
    | dat t d =>
      cases t <;> simp [AVal.leaf, lenOf, AVal.str?] at h hs
      subst h
      obtain ⟨cs, e1, e2⟩ := hx
      simp only [Ty.agg, Bool.false_eq_true, if_false] at e1
      subst e1
      simp only [Rep, Bool.false_eq_true, if_false] at e2
      rcases e2 with ⟨_, ⟨rfl, base, cap, hb⟩ | ⟨b, cap, arr, elem, fz, pre, cells, rest, e1, _⟩⟩
      · simp only [List.cons.injEq, and_true] at hb; exact ⟨_, _, _, hb, by simp⟩
      · simp only [List.cons.injEq, and_true] at e1; exact ⟨_, _, _, e1, rfl⟩
    | nil => simp [AVal.leaf, lenOf] at h; subst h; exact ⟨_, _, _, hx, rfl⟩
    | hdl a =>
      simp only [AVal.leaf, lenOf] at h
      cases hA : st.arr a with
      | none => simp [hA] at h
      | some A =>
        simp only [hA, Option.some.injEq] at h
        subst h
        have har := hm.ar a A hA
        have hv : v = G.ψ a := hx
        simp only [ArrRel] at har
        split at har
        · rcases har with ⟨_, ⟨e0, base, cap, hb⟩ | ⟨b, cap, arr, elem, fz, pre, cells, rest, e1, _⟩⟩
          · simp only [List.cons.injEq, and_true] at hb; exact ⟨_, _, _, hv.trans hb, by rw [e0]; simp⟩
          · simp only [List.cons.injEq, and_true] at e1; exact ⟨_, _, _, hv.trans e1, rfl⟩
        · rcases har with ⟨e0, _, hb⟩ | ⟨b, cap, arr, elem, cells, rest, H', e1, _⟩
          · simp only [List.cons.injEq, and_true] at hb; exact ⟨_, _, _, hv.trans hb, by rw [e0]; simp⟩
          · simp only [List.cons.injEq, and_true] at e1; exact ⟨_, _, _, hv.trans e1, rfl⟩
    | _ => simp [AVal.leaf, lenOf] at h
  | _ => simp [AVal.leaf, lenOf] at h

omit hE in
theorem fold_min {k : IntKind} : ∀ {vs : List AVal} {us : List Value} {a n : Int}, foldInt k (fun x y => bif decide (y < x) then y else x) a vs = some n → All2 (RelV G) vs us →
    (us.foldlM Builtin.min2 (.int k a)).run P w = .ok (.int k n) w
  | [], [], a, n, h, _ => by simp [foldInt] at h; subst h; simp
  | v :: vs, u :: us, a, n, h, hr => by
    simp only [foldInt] at h
    cases hv : v.int? with
    | none => simp [hv] at h
    | some p =>
      obtain ⟨k', b⟩ := p
      simp only [hv] at h
      cases intof hv hr.1
      have := fold_min h hr.2
      rw [List.foldlM_cons, Sem.run_bind]
      simp only [Builtin.min2, Sem.run_pure, Result.andThen_ok]
      rw [← this]
      by_cases hb : b < a <;> simp [hb]
omit hE in
theorem fold_max {k : IntKind} : ∀ {vs : List AVal} {us : List Value} {a n : Int}, foldInt k (fun x y => bif decide (y > x) then y else x) a vs = some n → All2 (RelV G) vs us →
    (us.foldlM Builtin.max2 (.int k a)).run P w = .ok (.int k n) w
  | [], [], a, n, h, _ => by simp [foldInt] at h; subst h; simp
  | v :: vs, u :: us, a, n, h, hr => by
    simp only [foldInt] at h
    cases hv : v.int? with
    | none => simp [hv] at h
    | some p =>
      obtain ⟨k', b⟩ := p
      simp only [hv] at h
      cases intof hv hr.1
      have := fold_max h hr.2
      rw [List.foldlM_cons, Sem.run_bind]
      simp only [Builtin.max2, Sem.run_pure, Result.andThen_ok]
      rw [← this]
      by_cases hb : b > a <;> simp [hb]

theorem opBuiltin_ok {b : Builtin} {dst : Nat} {ts : List TypeId} {ty : TypeId} {vs : List AVal} {us : List Value} {cs : Array Bool} {K : AVal → St → Option R} (h : opBuiltin E b dst ts vs st K = some r) (hm : RelM X st G w) (hv : All2 (RelV G) vs us) :
    ∃ av v st' G' w', (builtin b ts.toArray ty cs us.toArray).run P w = .ok (.value v) w' ∧ RelM X st' G' w' ∧ (∀ act, RelR G st act → RelR G' st' act) ∧ RelV G' av v ∧ K av st' = some r := by
  unfold opBuiltin at h
  split at h
  · rename_i v
    obtain ⟨u, rfl⟩ : ∃ u, us = [u] := by
      cases us with
      | nil => exact hv.elim
      | cons u us => cases us with
        | nil => exact ⟨u, rfl⟩
        | cons _ _ => exact hv.2.elim
    cases ts with
    | nil => simp at h
    | cons t ts =>
      simp only [List.getElem?_cons_zero, Option.bind_some] at h
      split at h
      · rename_i hT
        split at h
        · rename_i s hs
          cases strof hs hv.1
          have hu := (hE _ _ hT).str
          exact ⟨_, _, st, G, w, by simp [builtin, Builtin.len_, run_underlying hu, strV, goInt]; rfl, hm, fun _ h => h, relInt .i64 _, h⟩
        · cases h
      · rename_i hT
        split at h
        · rename_i n hn hs
          obtain ⟨a, m, c, hv', rfl⟩ := opLen_ok hE hn hs hm hv.1
          exact ⟨_, _, st, G, w, by simp only [builtin, Sem.run_bind, run_len hE hT hv', Result.andThen_ok, Sem.run_pure], hm, fun _ h => h, relInt .i64 _, h⟩
        · cases h
      · cases h
  · rename_i s x
    split at h
    · rename_i t u
      cases htu : Nat.beq t u with
      | false => simp [htu] at h
      | true =>
        simp only [htu, cond_true] at h
        obtain rfl := Nat.eq_of_beq_eq_true htu
        cases us with
        | nil => exact hv.elim
        | cons u1 us =>
          cases us with
          | nil => exact hv.2.elim
          | cons u2 us =>
            cases us with
            | cons _ _ => exact hv.2.2.elim
            | nil =>
              obtain ⟨av, v, st', G', w', h1, h2, h3, h4, h5⟩ := opAppend_ok hE (ty := ty) h hm hv.1 hv.2.1
              exact ⟨av, v, st', G', w', by simp only [builtin, Sem.run_bind, h1, Result.andThen_ok, Sem.run_pure], h2, h3, h4, h5⟩
    · cases h
  · rename_i v vs
    cases us with
    | nil => exact hv.elim
    | cons u us =>
      split at h
      · rename_i k a hi
        split at h
        · rename_i n hn
          cases intof hi hv.1
          exact ⟨_, _, st, G, w, by simp only [builtin, Builtin.min_, Sem.run_bind, fold_min hn hv.2, Result.andThen_ok, Sem.run_pure], hm, fun _ h => h, relInt _ _, h⟩
        · cases h
      · cases h
  · rename_i v vs
    cases us with
    | nil => exact hv.elim
    | cons u us =>
      split at h
      · rename_i k a hi
        split at h
        · rename_i n hn
          cases intof hi hv.1
          exact ⟨_, _, st, G, w, by simp only [builtin, Builtin.max_, Sem.run_bind, fold_max hn hv.2, Result.andThen_ok, Sem.run_pure], hm, fun _ h => h, relInt _ _, h⟩
        · cases h
      · cases h
  · cases h
end ops
end Go.Fx
