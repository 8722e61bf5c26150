/- The framework, thirteenth text: slices that are made, appends, parts of slices, conversions, lengths. -/
import Derived.Test.YtafpgfdjfnoagaaFx12
import Derived.ArgAppend
namespace Go.Fx
set_option linter.unusedVariables false
set_option linter.unusedSimpArgs false

theorem Rep.one {S : Mem} {m : Bool} : ∀ {t : Ty} {cs : List Value} {d : t.den} {H : Heap}, Rep S m t cs d H → ∀ v ∈ cs, v.oneCell' = true
  | .int k, cs, d, H, h, v, hv => by rw [h.1] at hv; simp at hv; subst hv; rfl
  | .bool, cs, d, H, h, v, hv => by rw [h.1] at hv; simp at hv; subst hv; rfl
  | .str, cs, d, H, h, v, hv => by rw [h.1] at hv; simp at hv; subst hv; rfl
  | .slice t, cs, l, H, h, v, hv => by
    simp only [Rep] at h
    split at h
    · rcases h with ⟨_, _, rfl⟩ | ⟨b, cap, arr, elem, cells, rest, H', rfl, _⟩ <;> (simp at hv; subst hv; rfl)
    · rcases h with ⟨_, ⟨_, base, cap, rfl⟩ | ⟨b, cap, arr, elem, fz, pre, cells, rest, rfl, _⟩⟩ <;> (simp at hv; subst hv; rfl)
  | .pair a b, cs, d, H, h, v, hv => by
    obtain ⟨c1, c2, H1, H2, rfl, rfl, h1, h2⟩ := h
    rcases List.mem_append.1 hv with hv | hv
    · exact Rep.one h1 v hv
    · exact Rep.one h2 v hv
  | .one a, cs, d, H, h, v, hv => by exact Rep.one (t := a) h v hv
theorem RepL.one {α : Type} {R : List Value → α → Heap → Prop} (hR : ∀ c x H, R c x H → ∀ v ∈ c, v.oneCell' = true) : ∀ {cs : List Value} {l : List α} {H : Heap}, RepL R cs l H → ∀ v ∈ cs, v.oneCell' = true
  | _, [], _, h, v, hv => by rw [h.1] at hv; cases hv
  | _, _ :: _, _, ⟨c1, c2, H1, H2, e1, e2, r, rl⟩, v, hv => by
    rw [e1] at hv
    rcases List.mem_append.1 hv with hv | hv
    · exact hR _ _ _ r v hv
    · exact RepL.one hR rl v hv

theorem zchk_ok {S : Mem} : ∀ {t : Ty} {l r : List Value}, zchk t l = some r → ∃ c, l = c ++ r ∧ Rep S false t c (zeroOf t) []
  | .int k, l, r, h => by
    cases l with
    | nil => simp [zchk] at h
    | cons v l =>
      cases v <;> simp only [zchk] at h <;> try (cases h; done)
      rename_i k' n
      by_cases hk : k = k'
      · by_cases hn : n = 0
        · subst hk hn
          simp at h; subst h
          exact ⟨[.int k 0], rfl, rfl, rfl⟩
        · simp [hn] at h
      · simp [hk] at h
  | .bool, l, r, h => by
    cases l with
    | nil => simp [zchk] at h
    | cons v l =>
      cases v <;> try (simp [zchk] at h; done)
      rename_i b
      cases b <;> simp [zchk] at h
      subst h
      exact ⟨[.bool false], rfl, rfl, rfl⟩
  | .str, l, r, h => by
    cases l with
    | nil => simp [zchk] at h
    | cons v l =>
      cases v <;> try (simp [zchk] at h; done)
      rename_i s
      simp only [zchk] at h
      cases hs : s.data.toList with
      | cons => simp [hs] at h
      | nil =>
        simp only [hs, Option.some.injEq] at h
        subst h
        refine ⟨[.string s], rfl, ?_, rfl⟩
        have : s = ⟨([] : Str).toArray⟩ := by
          apply ByteArray.ext
          apply Array.ext'
          simpa using hs
        rw [this]; rfl
  | .slice t, l, r, h => by
    cases l with
    | nil => simp [zchk] at h
    | cons v l =>
      cases v <;> try (simp [zchk] at h; done)
      rename_i a n c
      cases a <;> cases n <;> cases c <;> simp [zchk] at h
      subst h
      exact ⟨[.slice none 0 0], rfl, rfl, .inl ⟨rfl, none, 0, rfl⟩⟩
  | .pair a b, l, r, h => by
    simp only [zchk] at h
    cases h1 : zchk a l with
    | none => simp [h1] at h
    | some r1 =>
      simp only [h1] at h
      obtain ⟨c1, e1, g1⟩ := zchk_ok (S := S) h1
      obtain ⟨c2, e2, g2⟩ := zchk_ok (S := S) h
      exact ⟨c1 ++ c2, by rw [e1, e2]; simp, c1, c2, [], [], rfl, rfl, g1, g2⟩
  | .one a, l, r, h => by
    simp only [zchk] at h
    obtain ⟨c, e, g⟩ := zchk_ok (S := S) h
    exact ⟨c, e, g⟩

theorem made_list (z : Array Value) : ∀ c : Nat, (madeCells z (c * z.size)).toList = (List.replicate c z.toList).flatten
  | 0 => by simp [madeCells, Array.range]
  | c + 1 => by
    have ih := made_list z c
    simp only [madeCells, Array.toList_map, Array.toList_range] at ih ⊢
    rw [Nat.add_mul, Nat.one_mul, List.range_add, List.map_append, ih, List.replicate_succ', List.flatten_append]
    congr 1
    simp only [List.map_map, List.flatten_cons, List.flatten_nil, List.append_nil]
    apply List.ext_getElem
    · simp
    · intro j h1 h2
      simp only [List.length_map, List.length_range] at h1
      simp only [List.getElem_map, List.getElem_range, Function.comp_apply, Array.getElem_toList]
      rw [Nat.mul_comm, Nat.mul_add_mod, Nat.mod_eq_of_lt h1, getElem!_pos z j h1]

theorem repl_ok {S : Mem} {t : Ty} {c : List Value} {x : t.den} (h : Rep S false t c x []) : ∀ n : Nat, RepL (Rep S false t) (List.replicate n c).flatten (List.replicate n x) []
  | 0 => ⟨rfl, rfl⟩
  | n + 1 => ⟨c, _, [], [], by rw [List.replicate_succ, List.flatten_cons], rfl, h, repl_ok h n⟩

/-- An empty array that has no memory. -/
theorem RelM.newNil {X : Ctx} {st : St} {G : Gh} {w : World} (hm : RelM X st G w) {a : Nat} {t : Ty} (ha : st.arr a = none) (hment : st.ment true a = false) :
    ∃ G', RelM X (st.setArr a ⟨t, false, false, []⟩) G' w ∧ G.Le G' true a ∧ RelV G' (.one (.hdl a)) (.slice none 0 0) := by
  let G' : Gh := { G with ψ := fun q => if q = a then .slice none 0 0 else G.ψ q, HA := fun q => if q = a then [] else G.HA q }
  have hle : G.Le G' true a := ⟨fun _ _ h => h, fun _ _ => rfl, fun _ _ => rfl, fun q h => by simp [G', h rfl]⟩
  have hOwn : ∀ x b, Owns G' (st.setArr a ⟨t, false, false, []⟩) x b → Owns G st x b := fun x b hx => by
    obtain ⟨k, n⟩ := x
    cases k with
    | false => exact hx
    | true =>
      obtain ⟨⟨A, hA, hs⟩, p, hp, rfl⟩ := hx
      rw [arr_setArr] at hA
      by_cases e : a = n
      · subst e; simp [G'] at hp
      · simp only [e, if_false] at hA
        have hne : n ≠ a := fun h => e h.symm
        simp only [G', hne, if_false] at hp
        exact ⟨⟨A, hA, hs⟩, p, hp, rfl⟩
  refine ⟨G', ?_, hle, by simp [RelV, RelL, G']⟩
  refine { sl := ?_, sh := hm.sh, ob := ?_, ar := ?_, ah := ?_, nd := ?_, dis := fun x y b hx hy => hm.dis x y b (hOwn x b hx) (hOwn y b hy), dS := fun x b hx => hm.dS x b (hOwn x b hx), inn := fun x b hx => hm.inn x b (hOwn x b hx), s0 := hm.s0, sn := hm.sn, fr := hm.fr, sz := hm.sz, os := hm.os, tp := hm.tp, out := hm.out, pin := hm.pin, bv := hm.bv }
  · intro q
    by_cases e : q = a
    · exact ⟨none, 0, 0, by simp [G', e]⟩
    · obtain ⟨b, n, c, h⟩ := hm.sl q; exact ⟨b, n, c, by simp [G', e, h]⟩
  · intro q ls hq
    obtain ⟨arr', elem', mid, g1, g2, g3⟩ := hm.ob q ls hq
    refine ⟨arr', elem', mid, g1, g2, ?_⟩
    unfold LeavesRel at g3 ⊢
    rw [resl_congr (st := st) (fun j l => by simp)]
    exact all2_le hle (ment_obj hment hq 0) g3
  · intro b B hB
    rw [arr_setArr] at hB
    by_cases e : a = b
    · subst e
      simp only [if_true, Option.some.injEq] at hB
      subst hB
      simp only [ArrRel, Bool.false_eq_true, if_false]
      exact .inl ⟨rfl, by simp [G'], by simp [G']⟩
    · simp only [e, if_false] at hB
      have hne : b ≠ a := fun h => e h.symm
      have := hm.ar b B hB
      simpa only [ArrRel, G', hne, if_false] using this
  · intro b B hB hs p hp
    rw [arr_setArr] at hB
    by_cases e : a = b
    · subst e; simp [G'] at hp
    · simp only [e, if_false] at hB
      have hne : b ≠ a := fun h => e h.symm
      simp only [G', hne, if_false] at hp
      exact hm.ah b B hB hs p hp
  · intro b B hB hs
    rw [arr_setArr] at hB
    by_cases e : a = b
    · subst e; simp [G']
    · simp only [e, if_false] at hB
      have hne : b ≠ a := fun h => e h.symm
      simp only [G', hne, if_false]
      exact hm.nd b B hB hs

theorem mkl_some {α : Type} {n : Int} {x : α} {l : List α} (h : mkl n x = some l) : 0 ≤ n ∧ n ≤ 4294967296 ∧ l = List.replicate n.toNat x := by
  unfold mkl at h
  by_cases h0 : 0 ≤ n <;> by_cases h1 : n ≤ 4294967296 <;> simp [h0, h1] at h
  exact ⟨h0, h1, h.symm⟩

section ops
variable {P : Program} {E : Env} (hE : TabOk P E.tab) {X : Ctx} {w : World} {R : Type} {r : R} {st : St} {G : Gh}
include hE

theorem opMakeSlice_ok {T : TypeId} {dst : Nat} {x y : AVal} {vx vy : Value} {K : AVal → St → Option R} (h : opMakeSlice E T dst x y st K = some r) (hm : RelM X st G w) (hx : RelV G x vx) (hy : RelV G y vy) :
    ∃ av v st' G' w', (Instr.makeSlice T vx vy).run P w = .ok v w' ∧ RelM X st' G' w' ∧ (∀ act, RelR G st act → RelR G' st' act) ∧ RelV G' av v ∧ K av st' = some r := by
  unfold opMakeSlice at h
  split at h
  · rename_i s b y' e z n c hT hn hc
    cases hei : E.tab e with
    | none => simp [hei] at h
    | some ei =>
      simp only [hei] at h
      split at h
      · rename_i t hty harr
        generalize hcc : (Nat.beq ei.size t.size && Nat.ble ei.bytes 16384 && !st.ment true dst && (match zchk t ei.zero with | some [] => true | _ => false)) = cc at h
        cases cc with
        | false => cases h
        | true =>
          have hcond := hcc
          replace h : ((mkl c (zeroOf t)).bind fun z => (sub z 0 n).bind fun l => K (.one (.hdl dst)) (st.setArr dst ⟨t, false, false, l⟩)) = some r := h
          simp only [Bool.and_eq_true, Bool.not_eq_true'] at hcond
          obtain ⟨⟨⟨q1, q2⟩, q3⟩, q4⟩ := hcond
          have q1 := Nat.eq_of_beq_eq_true q1
          have q2 := Nat.le_of_ble_eq_true q2
          obtain ⟨zl, hzl, h⟩ := Option.bind_eq_some_iff.1 h
          obtain ⟨l, hl, h⟩ := Option.bind_eq_some_iff.1 h
          obtain ⟨m0, m1, rfl⟩ := mkl_some hzl
          obtain ⟨n0, n1, n2, rfl⟩ := sub_some hl
          cases intof hn hx
          cases intof hc hy
          have hu := (hE T _ hT).slice
          obtain ⟨i, d, zz, i1, i2, i3, i4, i5, i6, i7, i8, i9⟩ := hE e ei hei
          simp only [List.length_replicate] at n2
          have hzero : Rep G.S false t zz.cells.toList (zeroOf t) [] := by
            cases hz : zchk t ei.zero with
            | none => simp [hz] at q4
            | some r' =>
              cases r' with
              | cons => simp [hz] at q4
              | nil =>
                obtain ⟨c0, e0, g0⟩ := zchk_ok (S := G.S) hz
                rw [List.append_nil] at e0
                rw [i6, e0]; exact g0
          have hzs : zz.cells.size = i.size := by rw [i3, ← i9, ← i6]; simp
          have hcn : (0 : Int) ≤ c := m0
          have hnc : n ≤ c := by omega
          have hby : (i.bytes : Int) * c ≤ 281474976710656 := by
            have h1 : (i.bytes : Int) ≤ 16384 := by rw [i4]; omega
            have h2 : (i.bytes : Int) * c ≤ 16384 * 4294967296 := Int.mul_le_mul h1 m1 m0 (by omega)
            omega
          have hrun := run_make (P := P) w T e i zz hu i1 i5 .i64 .i64 n c n1 hnc hby (by omega)
          have hcells : (madeCells zz.cells (c.toNat * i.size)).toList = (List.replicate n.toNat zz.cells.toList).flatten ++ (List.replicate (c.toNat - n.toNat) zz.cells.toList).flatten := by
            rw [← hzs, made_list, ← List.flatten_append, List.replicate_append_replicate]
            congr 2; omega
          have hlist : ((List.replicate c.toNat (zeroOf t)).take n.toNat).drop (0 : Int).toNat = List.replicate n.toNat (zeroOf t) := by
            simp [List.take_replicate]; omega
          rw [hlist] at h
          obtain ⟨G2, m2, hle2, hv2⟩ := hm.newArr (l := List.replicate n.toNat (zeroOf t)) (arr := madeCells zz.cells (c.toNat * i.size)) (elem := e) (cap := c.toNat) harr q3 hcells
            (by rw [size_madeCells, i3, q1]; exact Nat.le_refl _) (by simp; omega) (repl_ok hzero n.toNat)
          simp only [List.length_replicate] at hv2
          exact ⟨_, _, _, G2, _, hrun, m2, fun act ra => ra.le hle2 rfl (fun _ => rfl) q3, hv2, h⟩
      · cases h
  · cases h
end ops
end Go.Fx
