/- The framework, sixth text: the other operations that change no memory. -/
import Derived.Test.YtafpgfdjfnoagaaFx5
namespace Go.Fx
set_option linter.unusedVariables false
set_option linter.unusedSimpArgs false

theorem TIok.struct {P : Program} {t : TypeId} {s b : Nat} {y : Option Ty} {fs : List (Nat × TypeId)} {z : List Value} (h : TIok P t ⟨s, b, y, .struct fs, z⟩) {f off : Nat} {ft : TypeId} (hf : fs[f]? = some (off, ft)) :
    ∃ (fields : Array Field) (fld : Field), P.underlying t = some (.struct fields) ∧ fields[f]? = some fld ∧ fld.offset = off ∧ fld.type = ft := by
  obtain ⟨i, d, z', h1, h2, h3, h4, h5, h6, h7, h8, h9⟩ := h
  cases d with
  | struct fields =>
    simp only [TDok] at h7
    subst h7
    rw [List.getElem?_map, Array.getElem?_toList] at hf
    cases hq : fields[f]? with
    | none => simp [hq] at hf
    | some fld => simp [hq] at hf; exact ⟨fields, fld, h2, hq, hf.1, hf.2⟩
  | _ => simp [TDok] at h7

theorem TIok.und {P : Program} {t : TypeId} {ti : TI} (h : TIok P t ti) : ∃ d, P.underlying t = some d ∧ TDok ti.desc d := by
  obtain ⟨i, d, z, h1, h2, h3, h4, h5, h6, h7, _⟩ := h; exact ⟨d, h2, h7⟩
theorem TIok.slice {P : Program} {t : TypeId} {s b : Nat} {y : Option Ty} {e : TypeId} {z : List Value} (h : TIok P t ⟨s, b, y, .slice e, z⟩) : P.underlying t = some (.slice e) := by
  obtain ⟨d, h1, h2⟩ := h.und
  cases d <;> simp_all [TDok]
theorem TIok.str {P : Program} {t : TypeId} {s b : Nat} {y : Option Ty} {z : List Value} (h : TIok P t ⟨s, b, y, .str, z⟩) : P.underlying t = some .string := by
  obtain ⟨d, h1, h2⟩ := h.und
  cases d <;> simp_all [TDok]
theorem TIok.size {P : Program} {t : TypeId} {ti : TI} (h : TIok P t ti) (w : World) : (sizeOf t).run P w = .ok ti.size w := by
  obtain ⟨i, d, z, h1, h2, h3, _⟩ := h
  simp [sizeOf, typeInfo, h1, h3]
theorem TIok.isAgg {P : Program} {t : TypeId} {ti : TI} (h : TIok P t ti) (w : World) : (isAgg t).run P w = .ok ti.desc.agg w := by
  obtain ⟨d, h1, h2⟩ := h.und
  have := h2.row
  unfold Go.isAgg
  rw [Sem.run_bind, run_underlying h1 w]
  cases d <;> simp_all [TypeDesc.isRow]

theorem intof {G : Gh} {v : AVal} {k : IntKind} {n : Int} {x : Value} (h : v.int? = some (k, n)) (r : RelV G v x) : x = .int k n := by
  unfold AVal.int? at h
  split at h
  · simp only [Option.some.injEq, Prod.mk.injEq] at h
    obtain ⟨rfl, rfl⟩ := h
    obtain ⟨cs, e, hr⟩ := r
    simp only [Ty.agg, Bool.false_eq_true, if_false] at e
    subst e
    cases hr.1; rfl
  · cases h
theorem boolof {G : Gh} {v : AVal} {n : Bool} {x : Value} (h : v.bool? = some n) (r : RelV G v x) : x = .bool n := by
  unfold AVal.bool? at h
  split at h
  · simp only [Option.some.injEq] at h; subst h
    obtain ⟨cs, e, hr⟩ := r
    simp only [Ty.agg, Bool.false_eq_true, if_false] at e
    subst e
    cases hr.1; rfl
  · cases h
theorem strof {G : Gh} {v : AVal} {n : Str} {x : Value} (h : v.str? = some n) (r : RelV G v x) : x = strV n := by
  unfold AVal.str? at h
  split at h
  · simp only [Option.some.injEq] at h; subst h
    obtain ⟨cs, e, hr⟩ := r
    simp only [Ty.agg, Bool.false_eq_true, if_false] at e
    subst e
    cases hr.1; rfl
  · cases h
theorem relInt {G : Gh} (k : IntKind) (n : Int) : RelV G (.one (.dat (.int k) n)) (.int k n) := ⟨_, by simp [Ty.agg], rfl, rfl⟩
theorem relBool {G : Gh} (b : Bool) : RelV G (.one (.dat .bool b)) (.bool b) := ⟨_, by simp [Ty.agg], rfl, rfl⟩
theorem relStr {G : Gh} (s : Str) : RelV G (.one (.dat .str s)) (strV s) := ⟨_, by simp [Ty.agg], rfl, rfl⟩

theorem sizeStr (s : Str) : (⟨s.toArray⟩ : ByteArray).size = s.length := by simp [ByteArray.size]

theorem idx_some {α : Type} {l : List α} {n : Int} {x : α} (h : idx l n = some x) : 0 ≤ n ∧ l[n.toNat]? = some x ∧ n < (l.length : Int) := by
  unfold idx at h
  by_cases h0 : 0 ≤ n
  · simp only [h0, decide_true, cond_true] at h
    have := (List.getElem?_eq_some_iff.1 h).1
    exact ⟨h0, h, by omega⟩
  · simp [h0] at h
theorem sub_some {α : Type} {l : List α} {i j : Int} {x : List α} (h : sub l i j = some x) : 0 ≤ i ∧ i ≤ j ∧ j ≤ (l.length : Int) ∧ x = (l.take j.toNat).drop i.toNat := by
  unfold sub at h
  by_cases h0 : 0 ≤ i <;> by_cases h1 : i ≤ j <;> by_cases h2 : j ≤ (l.length : Int) <;> simp [h0, h1, h2] at h
  exact ⟨h0, h1, h2, h.symm⟩
theorem app_some {α : Type} {l m r : List α} (h : app l m = some r) : l.length + m.length ≤ 4294967296 ∧ r = l ++ m := by
  unfold app at h
  by_cases h0 : l.length + m.length ≤ 4294967296 <;> simp [h0] at h
  exact ⟨h0, h.symm⟩

section ops
variable {P : Program} {E : Env} (hE : TabOk P E.tab) {X : Ctx} {st : St} {G : Gh} {w : World} {R : Type} {r : R}
include hE

theorem opFieldAddr_ok {T : TypeId} {x : AVal} {vx : Value} {f : Nat} {K : AVal → St → Option R} (h : opFieldAddr E T x f st K = some r) (hx : RelV G x vx) :
    ∃ av v, (Instr.fieldAt T vx f).run P w = .ok v w ∧ RelV G av v ∧ K av st = some r := by
  unfold opFieldAddr at h
  split at h
  · rename_i s b y fs z hT
    cases hf : fs[f]? with
    | none => simp [hf] at h
    | some p =>
      obtain ⟨off, ft⟩ := p
      simp only [hf] at h
      cases hF : E.tab ft with
      | none => simp [hF] at h
      | some fi =>
        simp only [hF] at h
        cases hz : Nat.beq fi.size 0 with
        | true => simp [hz] at h
        | false =>
          simp only [hz, cond_false] at h
          have hz' : fi.size ≠ 0 := fun e => by simp [e] at hz
          obtain ⟨fields, fld, g1, g2, rfl, rfl⟩ := (hE T _ hT).struct hf
          have hsz := (hE _ _ hF).size w
          have hrun : ∀ b o, (Instr.fieldAt T (.pointer (some ⟨b, o, none⟩)) f).run P w = .ok (.pointer (some ⟨b, o + fld.offset, none⟩)) w := fun b o => by
            simp [Instr.fieldAt, run_underlying g1, g2, Instr.sureAddr, fieldPlace, hsz, hz', Addr.add_mid]
          cases x with
          | agg ls => simp [AVal.leaf] at h
          | tup ls => simp [AVal.leaf] at h
          | ifc t ls => simp [AVal.leaf] at h
          | one l =>
            simp only [AVal.leaf] at h
            cases l with
            | ptr o off => cases hx; exact ⟨_, _, hrun _ _, by simp [RelV, RelL, Nat.add_assoc], h⟩
            | she t d off =>
              obtain ⟨b, arr, elem, fz, pre, cs, post, e1, e2, e3, rfl⟩ := hx
              exact ⟨.one (.she t d (off + fld.offset)), _, hrun _ _, ⟨b, arr, elem, fz, pre, cs, post, e1, e2, e3, by simp [Nat.add_assoc]⟩, h⟩
            | elt a sz i off =>
              obtain ⟨b, len, cap, g1, g2, rfl⟩ := hx
              exact ⟨.one (.elt a sz i (off + fld.offset)), _, hrun _ _, ⟨b, len, cap, g1, g2, by simp [Nat.add_assoc]⟩, h⟩
            | _ => simp at h
  · cases h

theorem opField_ok {T : TypeId} {x : AVal} {vx : Value} {f : Nat} {K : AVal → St → Option R} (h : opField E T x f st K = some r) (hm : RelM X st G w) (hx : RelV G x vx) (hagg : ∃ cs, vx = .agg cs) :
    ∃ av v, (Instr.field T vx f).run P w = .ok v w ∧ RelV G av v ∧ K av st = some r := by
  unfold opField at h
  split at h
  · rename_i s b y fs z ls hT hls
    cases hf : fs[f]? with
    | none => simp [hf] at h
    | some p =>
      obtain ⟨off, ft⟩ := p
      simp only [hf] at h
      cases hF : E.tab ft with
      | none => simp [hF] at h
      | some fi =>
        simp only [hF] at h
        cases hs : slots ls off fi.size with
        | none => simp [hs] at h
        | some c =>
          simp only [hs] at h
          obtain ⟨fields, fld, g1, g2, rfl, rfl⟩ := (hE T _ hT).struct hf
          obtain ⟨cs, rfl⟩ := hagg
          have hal := leaves_ok hm hls hx
          simp only [Value.cells] at hal
          obtain ⟨p1, m, q1, f1, f2, f3, f4⟩ := slots_ok hal hs
          have hfi := hE _ _ hF
          have hsz := hfi.size w
          have hag := hfi.isAgg w
          have h1 : fi.desc.agg = false → fi.size = 1 := by obtain ⟨_, _, _, _, _, _, _, _, _, _, h8, _⟩ := hfi; exact h8
          refine ⟨_, pval fi.desc.agg m, ?_, packV_pval (fun hg => by rw [f3, h1 hg]) f4, h⟩
          have hcs : cs = (p1 ++ (m ++ q1)).toArray := by rw [← f1]
          cases hg : fi.desc.agg with
          | true =>
            rw [hg] at hag
            have : cs.extract fld.offset (fld.offset + fi.size) = m.toArray := by
              apply Array.ext'
              rw [hcs]; simp [← f2, ← f3]
            simp [Instr.field, run_underlying g1, g2, asAgg, part, hag, hsz, this, pval]
          | false =>
            rw [hg] at hag
            rw [h1 hg] at f3
            match m, f3, hcs with
            | [u], _, hcs =>
              have : cs[fld.offset]? = some u := by rw [hcs]; simp [← f2]
              simp [Instr.field, run_underlying g1, g2, asAgg, part, hag, this, pval]
  · cases h

theorem opIndexAddr_ok {T : TypeId} {x i : AVal} {vx vi : Value} {K : AVal → St → Option R} (h : opIndexAddr E T x i st K = some r) (hm : RelM X st G w) (hx : RelV G x vx) (hi : RelV G i vi) :
    ∃ av v, (Instr.indexAt T vx vi).run P w = .ok v w ∧ RelV G av v ∧ K av st = some r := by
  unfold opIndexAddr at h
  split at h
  · rename_i s b y e z k n hT hn
    cases hei : E.tab e with
    | none => simp [hei] at h
    | some ei =>
      simp only [hei] at h
      have hu := (hE T _ hT).slice
      have hsz := (hE _ _ hei).size w
      cases intof hn hi
      have hrun : ∀ (b o len cap : Nat), 0 ≤ n → n < (len : Int) → (Instr.indexAt T (.slice (some ⟨b, o, none⟩) len cap) (.int k n)).run P w = .ok (.pointer (some ⟨b, o + n.toNat * ei.size, none⟩)) w := fun b o len cap h0 h1 => by
        simp [Instr.indexAt, asIntOf, run_underlying hu, h0, h1, hsz, Addr.add_mid]
      have shared : ∀ (t : Ty) (l : List t.den) (d : t.den), ei.size = t.size → idx l n = some d → ShBody G.S (RepL (Rep G.S false t)) [vx] l [] →
          ∃ v, (Instr.indexAt T vx (.int k n)).run P w = .ok v w ∧ RelV G (.one (.she t d 0)) v := fun t l d hz hd hsh => by
        obtain ⟨h0, hd', h1⟩ := idx_some hd
        rcases hsh with ⟨_, ⟨rfl, _⟩ | ⟨b, cap, arr, elem, fz, pre, cells, rest, e1, e2, e3, e4, elc⟩⟩
        · simp at hd'
        · simp only [List.cons.injEq, and_true] at e1
          subst e1
          obtain ⟨p, c, q, Hp, Hc, Hq, k1, k2, k3, k4, _⟩ := RepL.at (fun c x H hr => Rep.size hr) e4 hd'
          have k4' : Rep G.S false t c d [] := by have e := Rep.noHeap k4; rw [e] at k4; exact k4
          exact ⟨_, hrun b pre.length l.length cap h0 h1, ⟨b, arr, elem, fz, pre ++ p, c, q ++ rest, e2, by rw [e3, k1]; simp, k4', by simp [k2, hz]⟩⟩
      cases x with
      | agg ls => simp [AVal.leaf] at h
      | tup ls => simp [AVal.leaf] at h
      | ifc t ls => simp [AVal.leaf] at h
      | one l =>
        simp only [AVal.leaf] at h
        cases l with
        | dat t l =>
          cases t with
          | slice t =>
            simp only at h
            cases hz : Nat.beq ei.size t.size with
            | false => simp [hz] at h
            | true =>
              simp only [hz, cond_true] at h
              obtain ⟨d, hd, h⟩ := Option.bind_eq_some_iff.1 h
              obtain ⟨cs, e, hr⟩ := hx
              simp only [Ty.agg, Bool.false_eq_true, if_false] at e
              subst e
              obtain ⟨v, h1, h2⟩ := shared t l d (Nat.eq_of_beq_eq_true hz) hd hr
              exact ⟨_, v, h1, h2, h⟩
          | _ => simp at h
        | hdl a =>
          simp only at h
          cases hA : st.arr a with
          | none => simp [hA] at h
          | some A =>
            simp only [hA] at h
            cases hz : Nat.beq ei.size A.t.size with
            | false => simp [hz] at h
            | true =>
              simp only [hz, cond_true] at h
              obtain ⟨d, hd, h⟩ := Option.bind_eq_some_iff.1 h
              have har := hm.ar a A hA
              simp only [RelV, RelL] at hx
              subst hx
              cases hs : A.sh with
              | true =>
                simp only [hs, cond_true] at h
                simp only [ArrRel, hs, if_true] at har
                obtain ⟨v, h1, h2⟩ := shared A.t A.l d (Nat.eq_of_beq_eq_true hz) hd har
                exact ⟨_, v, h1, h2, h⟩
              | false =>
                simp only [hs, cond_false] at h
                simp only [ArrRel, hs, Bool.false_eq_true, if_false] at har
                obtain ⟨h0, hd', h1⟩ := idx_some hd
                rcases har with ⟨e1, e2, e3⟩ | ⟨b', cap', arr, elem, cells, rest, H', e1, e2, e3, e4, e5, e6⟩
                · rw [e1] at hd'; simp at hd'
                · simp only [List.cons.injEq, and_true] at e1
                  rw [e1]
                  refine ⟨.one (.elt a A.t.size n.toNat 0), _, hrun b' 0 A.l.length cap' h0 h1, ⟨b', A.l.length, cap', e1, by omega, ?_⟩, h⟩
                  simp [Nat.eq_of_beq_eq_true hz]
        | _ => simp at h
  · cases h

theorem opIndex_ok {T : TypeId} {x i : AVal} {vx vi : Value} {K : AVal → St → Option R} (h : opIndex E T x i st K = some r) (hx : RelV G x vx) (hi : RelV G i vi) :
    ∃ av v, (Instr.index T vx vi).run P w = .ok v w ∧ RelV G av v ∧ K av st = some r := by
  unfold opIndex at h
  split at h
  · rename_i s b y z s' k n hT hs hn
    obtain ⟨c, hc, h⟩ := Option.bind_eq_some_iff.1 h
    cases intof hn hi
    cases strof hs hx
    obtain ⟨h0, hd', h1⟩ := idx_some hc
    have hu := (hE T _ hT).str
    refine ⟨_, _, ?_, relInt .u8 _, h⟩
    have : (⟨s'.toArray⟩ : ByteArray)[n.toNat]? = some c := by
      have hlt : n.toNat < s'.length := (List.getElem?_eq_some_iff.1 hd').1
      have hlt' : n.toNat < (⟨s'.toArray⟩ : ByteArray).size := by simpa [ByteArray.size] using hlt
      rw [getElem?_pos (c := (⟨s'.toArray⟩ : ByteArray)) (i := n.toNat) hlt']
      have := (List.getElem?_eq_some_iff.1 hd').2
      simpa [ByteArray.getElem_eq_getElem_data] using this
    simp [Instr.index, asIntOf, run_underlying hu, strV, h0, this]
  · cases h

omit hE in
theorem boundOf_ok {lo : Option AVal} {vlo : Option Value} {d n : Int} (h : boundOf d lo = some n) (hr : ∀ a, lo = some a → ∃ v, vlo = some v ∧ RelV G a v) (hn : lo = none → vlo = none) :
    (vlo = none ∧ n = d) ∨ ∃ k, vlo = some (.int k n) := by
  cases lo with
  | none => simp only [boundOf, Option.some.injEq] at h; exact .inl ⟨hn rfl, h.symm⟩
  | some a =>
    simp only [boundOf, Option.map_eq_some_iff] at h
    obtain ⟨⟨k, m⟩, h1, h2⟩ := h
    simp only at h2; subst h2
    obtain ⟨v, h3, h4⟩ := hr a rfl
    exact .inr ⟨k, by rw [h3, intof h1 h4]⟩
end ops
end Go.Fx
