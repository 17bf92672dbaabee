/- Frames, one operation, sequences, calls: the rules. -/
import Derived.Test.YtmlojnecmdnbpaaGreatDoorAbsH
namespace Go.Abs
set_option linter.unusedVariables false

/-- What an operation is to do. -/
def OS (P : Program) (h : Heap) (ι : Iota) (w : World) (m : Sem Next) (r : Option (V × Heap)) : Prop :=
  ∀ x h', r = some (x, h') → ∃ y w' ι', (m.run P w = .ok (.value y) w' ∨ (m.run P w = .ok .skip w' ∧ y = undef)) ∧ Rep w' ι' (Mt h' ι') x y ∧ HRel h' ι' w' ∧ Evolve h ι w h' ι' w'

theorem OS.of_vs {P h ι w} {m : Sem Value} {r : Option (V × Heap)} (hv : VS P h ι w m r) : OS P h ι w (do pure (.value (← m))) r := by
  intro x h' e
  obtain ⟨y, w', ι', h1, h2⟩ := hv x h' e
  exact ⟨y, w', ι', .inl (by simp [h1]), h2⟩

theorem OS.of_us {P h ι w} {m : Sem Unit} {r : Option (V × Heap)} (hv : US P h ι w m r) : OS P h ι w (do m; pure .skip) r := by
  intro x h' e
  obtain ⟨rfl, w', ι', h1, h2⟩ := hv x h' e
  exact ⟨undef, w', ι', .inr ⟨by simp [h1], rfl⟩, .any _, h2⟩

theorem OS.none {P h ι w} {m : Sem Next} : OS P h ι w m none := by intro x h' e; cases e

theorem OS.val {P h ι w} (H : HRel h ι w) {x : V} {y : Value} (r : Rep w ι (Mt h ι) x y) : OS P h ι w (pure (.value y)) (some (x, h)) := by
  intro x' h' e
  injection e with e
  injection e with e1 e2
  subst e1 e2
  exact ⟨y, w, ι, .inl rfl, r, H, Evolve.refl _ _ _⟩

def aev (sl : List V) : Operand → V
  | .tmp t => sl.getD t .any
  | .const c => ofValue c
  | .global g => .v (.pointer (some ⟨g, 0, none⟩))
  | .func f => .fn (.func f) [] []

def SRel (sl : List V) (h : Heap) (ι : Iota) (w : World) (tmps : Array Value) : Prop :=
  tmps.size = sl.length ∧ ∀ (i : Nat) (x : V), sl[i]? = some x → ∃ y, tmps[i]? = some y ∧ Rep w ι (Mt h ι) x y

theorem aev_rep {sl h ι w} {a : Act} (S : SRel sl h ι w a.tmps) (x : Operand) : Rep w ι (Mt h ι) (aev sl x) (a.eval x) := by
  cases x with
  | tmp t =>
    simp only [aev, Act.eval, List.getD]
    cases e : sl[t]? with
    | none => exact .any _
    | some u =>
      obtain ⟨y, y1, y2⟩ := S.2 t u e
      have hlt : t < a.tmps.size := by
        rcases Nat.lt_or_ge t a.tmps.size with q | q
        · exact q
        · rw [Array.getElem?_eq_none q] at y1; cases y1
      have : a.tmps.getD t undef = y := by
        rw [Array.getElem?_eq_getElem hlt] at y1
        injection y1 with y1
        simp [Array.getD, hlt, y1]
      rw [this]
      exact y2
  | const c => exact Rep.ofValue c
  | global g => exact .v _
  | func f => exact .fn _ _ _ _ _ (by simp) (by simp) (by intro i h; simp at h) (by intro i h; simp at h)

theorem map_rep {α : Type} {w ι M} {f : α → V} {g : α → Value} (hr : ∀ a, Rep w ι M (f a) (g a)) (l : Array α) :
    (l.toList.map f).length = (l.map g).size ∧ ∀ i, (h : i < (l.toList.map f).length) → (h' : i < (l.map g).size) → Rep w ι M (l.toList.map f)[i] (l.map g)[i] := by
  refine ⟨by simp, fun i h h' => ?_⟩
  simp only [List.getElem_map, Array.getElem_map, Array.getElem_toList]
  exact hr _

theorem PW2.append {w ι M} {a b : List V} {x y : Array Value} (h1 : PW2 w ι M a x) (h2 : PW2 w ι M b y) : PW2 w ι M (a ++ b) (x ++ y) := by
  refine ⟨by simp [h1.1, h2.1], fun k z hz => ?_⟩
  have hl := h1.1
  by_cases q : k < a.length
  · rw [List.getElem?_append_left q] at hz
    obtain ⟨u, u1, u2⟩ := h1.2 k z hz
    exact ⟨u, by rw [Array.getElem?_append_left (by omega)]; exact u1, u2⟩
  · rw [List.getElem?_append_right (by omega)] at hz
    obtain ⟨u, u1, u2⟩ := h2.2 _ z hz
    exact ⟨u, by rw [Array.getElem?_append_right (by omega), ← hl]; exact u1, u2⟩

theorem PW2.of_dep {w ι M} {a : List V} {x : Array Value} (h1 : a.length = x.size) (r : ∀ i, (h : i < a.length) → (h' : i < x.size) → Rep w ι M a[i] x[i]) : PW2 w ι M a x := by
  refine ⟨h1, fun k z hz => ?_⟩
  have hlt := get_lt hz
  rw [List.getElem?_eq_getElem hlt] at hz
  injection hz with hz
  subst hz
  exact ⟨x[k]'(by omega), Array.getElem?_eq_getElem _, r k hlt (by omega)⟩

theorem aPick_sound {P h ι w} (H : HRel h ι w) {c a b : V} {c' a' b' : Value} (rc : Rep w ι (Mt h ι) c c') (ra : Rep w ι (Mt h ι) a a') (rb : Rep w ι (Mt h ι) b b') :
    OS P h ι w (do pure (.value (if ← asBool c' then a' else b'))) (aPick h c a b) := by
  unfold aPick
  split
  · rename_i t
    cases rc
    intro x h' e
    injection e with e
    injection e with e1 e2
    subst e1 e2
    refine ⟨if t then a' else b', w, ι, .inl (by simp [asBool]), ?_, H, Evolve.refl _ _ _⟩
    cases t <;> simp <;> assumption
  · exact OS.none

theorem aNilCheck_sound {P h ι w} (H : HRel h ι w) {x : V} {y : Value} (r : Rep w ι (Mt h ι) x y) (m : Sem Next)
    (hm : (∀ a, y = .pointer (some a) → m = pure (.value y)) ∧ (∀ f a b, y = .func (.func f) a b → m = pure (.value y))) : OS P h ι w m (aNilCheck h x) := by
  unfold aNilCheck
  split
  · obtain ⟨a, ha⟩ := isPtr_rep r rfl
    rw [hm.1 a ha]; exact OS.val H r
  · obtain ⟨a, ha⟩ := isPtr_rep r rfl
    rw [hm.1 a ha]; exact OS.val H r
  · have hy : ∃ f a b, y = .func (.func f) a b := by cases r; exact ⟨_, _, _, rfl⟩
    obtain ⟨f, a, b, hy⟩ := hy
    rw [hm.2 f a b hy]; exact OS.val H r
  · exact OS.none

theorem optMap_rep {e : Operand → V} {h : Heap} {ι w} {a : Act} (S : ∀ x, Rep w ι (Mt h ι) (e x) (a.eval x)) (x : Option Operand) : OptRep w ι (Mt h ι) (x.map e) (x.map a.eval) := by
  cases x with
  | none => exact .inl ⟨rfl, rfl⟩
  | some x => exact .inr ⟨_, _, rfl, rfl, S x⟩

theorem aMinMax_sound {P h ι w} (H : HRel h ι w) {b : Builtin} {xs : List V} {ys : Array Value} {tys : Array TypeId} {ty : TypeId} (hl : xs.length = ys.size)
    (hr : ∀ i, (h1 : i < xs.length) → (h2 : i < ys.size) → Rep w ι (Mt h ι) xs[i] ys[i]) :
    OS P h ι w (builtin b tys ty #[] ys) (aMinMax P h b xs) := by
  unfold aMinMax
  split
  · rename_i vs hvs
    have e := toValues_rep xs vs ys.toList hvs (by simpa using hl) (fun i h1 h2 => by have := hr i h1 (by simpa using h2); simpa using this)
    have e' : vs.toArray = ys := by rw [← e]
    rw [e']
    split
    · exact OS.of_vs (m := Builtin.min_ tys ty ys) (pureRun_sound H)
    · exact OS.of_vs (m := Builtin.max_ tys ty ys) (pureRun_sound H)
    · exact OS.none
  · exact OS.none

theorem builtin_min (tys : Array TypeId) (ty : TypeId) (cs : Array Bool) (ys : Array Value) : builtin .min tys ty cs ys = builtin .min tys ty #[] ys := rfl
theorem builtin_max (tys : Array TypeId) (ty : TypeId) (cs : Array Bool) (ys : Array Value) : builtin .max tys ty cs ys = builtin .max tys ty #[] ys := rfl

theorem aBuiltin_sound {P h ι w} (H : HRel h ι w) {new : Nat} {b : Builtin} {xs : List V} {ys : Array Value} {tys : Array TypeId} {ty : TypeId} {cs : Array Bool} (hl : xs.length = ys.size)
    (hr : ∀ i, (h1 : i < xs.length) → (h2 : i < ys.size) → Rep w ι (Mt h ι) xs[i] ys[i]) :
    OS P h ι w (builtin b tys ty cs ys) (aBuiltin P h new b tys xs) := by
  unfold aBuiltin
  split
  · split
    · obtain ⟨l⟩ := ys
      match l, hl with
      | [y], _ => exact OS.of_vs (aLen_sound H (hr 0 (by simp) (by simp)))
    · exact OS.none
  · split
    · rename_i h2
      obtain ⟨l⟩ := ys
      match l, hl with
      | [y, z], _ => exact OS.of_vs (aAppend_sound H (hr 0 (by simp) (by simp)) (hr 1 (by simp) (by simp)) h2)
    · exact OS.none
  · split
    · obtain ⟨l⟩ := ys
      match l, hl with
      | [y], _ => exact OS.of_vs (aClear_sound H (hr 0 (by simp) (by simp)))
    · exact OS.none
  · split
    · obtain ⟨l⟩ := ys
      match l, hl with
      | [y, z], _ => exact OS.of_vs (aCopy_sound H (hr 0 (by simp) (by simp)) (hr 1 (by simp) (by simp)))
    · exact OS.none
  · rw [builtin_min]; exact aMinMax_sound H hl hr
  · rw [builtin_max]; exact aMinMax_sound H hl hr
  · exact OS.none

theorem parts_rep {e : Operand → V} {h : Heap} {ι w} {a : Act} (S : ∀ x, Rep w ι (Mt h ι) (e x) (a.eval x)) (ps : Array (Nat × Operand)) :
    (ps.toList.map fun p => (p.1, e p.2)).length = (ps.map fun (i, x) => (i, a.eval x)).size ∧
    ∀ (k i : Nat) (x : V), (ps.toList.map fun p => (p.1, e p.2))[k]? = some (i, x) → ∃ y, (ps.map fun (i, x) => (i, a.eval x))[k]? = some (i, y) ∧ Rep w ι (Mt h ι) x y := by
  refine ⟨by simp, fun k i x hx => ?_⟩
  rw [List.getElem?_map] at hx
  rw [Array.getElem?_map, ← Array.getElem?_toList]
  cases hq : ps.toList[k]? with
  | none => rw [hq] at hx; simp at hx
  | some p =>
    rw [hq] at hx
    simp at hx
    obtain ⟨rfl, rfl⟩ := hx
    exact ⟨_, rfl, S _⟩

theorem aop_soundE {P h ι w} (H : HRel h ι w) {e : Operand → V} {a : Act} (ev : ∀ x, Rep w ι (Mt h ι) (e x) (a.eval x)) (o : Oper) (new : Nat) :
    OS P h ι w (execOp a.eval o) (aop P o.op e h new) := by
  have S := ev
  obtain ⟨dst, op, type, pos, after, guard⟩ := o
  cases op with
  | move x => exact OS.val H (ev x)
  | assign x => exact OS.val H (ev x)
  | pick c x y => exact aPick_sound H (ev c) (ev x) (ev y)
  | alloc e => exact OS.of_vs (aAlloc_sound H)
  | box e x => exact OS.of_vs (aBox_sound H (ev x))
  | build t ps => exact OS.of_vs (aBuild_sound H (parts_rep S ps).1 (parts_rep S ps).2)
  | buildSlice t n ps => exact OS.of_vs (aBuildSlice_sound H (parts_rep S ps).1 (parts_rep S ps).2)
  | load t p => exact OS.of_vs (aLoad_sound H (ev p))
  | store t p x => exact OS.of_us (aStore_sound H (ev p) (ev x))
  | nilCheck x =>
    refine aNilCheck_sound H (ev x) _ ⟨fun q hq => ?_, fun f q1 q2 hq => ?_⟩
    · simp only [execOp, hq]
    · simp only [execOp, hq]
  | binOp op t X Y u => exact OS.of_vs (aBin_sound H (ev X) (ev Y))
  | unOp op t x =>
    simp only [aop, aUn]
    split
    · rename_i y e9
      have r := ev x
      rw [e9] at r
      generalize hq : a.eval x = q at *
      cases r
      simp only [execOp, hq]
      exact OS.of_vs (pureRun_sound H)
    · exact OS.none
  | convert s d x => exact OS.of_vs (aConvert_sound H (ev x))
  | makeInterface t x =>
    simp only [aop, aIface]
    split
    · exact OS.none
    · rename_i d hu hn
      refine OS.of_vs (VS.of_pure H ⟨.iface t (a.eval x), ?_, .ifc _ _ _ (ev x)⟩)
      simp only [Instr.makeInterface, Sem.run_bind, run_underlying hn, Result.andThen_ok]
      cases d <;> first | rfl | (exact absurd hn (hu _))
    · exact OS.none
  | makeFunc fn first caps =>
    exact OS.of_vs (VS.of_pure H ⟨_, rfl, .fn fn _ _ _ _ (map_rep ev first).1 (map_rep ev caps).1 (map_rep ev first).2 (map_rep ev caps).2⟩)
  | makeSlice t l c => exact OS.of_vs (aMakeSlice_sound H (ev l) (ev c))
  | slice t x lo hi mx =>
    cases mx with
    | some m => exact OS.none
    | none =>
      simp only [aop]
      split
      · rename_i y e9
        have r := ev x
        rw [e9] at r
        have rlo := optMap_rep S lo
        have rhi := optMap_rep S hi
        have fin : ∀ (xl xu : Option V) (yl yu : Option Value), OptRep w ι (Mt h ι) xl yl → OptRep w ι (Mt h ι) xu yu → (xl = none ∨ ∃ l, xl = some (.v l)) → (xu = none ∨ ∃ u, xu = some (.v u)) → ∀ y', Rep w ι (Mt h ι) (.v y) y' →
            ∃ zl zu, yl = zl ∧ yu = zu ∧ y' = y ∧ zl = xl.bind (fun | .v l => some l | _ => none) ∧ zu = xu.bind (fun | .v l => some l | _ => none) := by
          intro xl xu yl yu h1 h2 h3 h4 y' ry
          refine ⟨yl, yu, rfl, rfl, by cases ry; rfl, ?_, ?_⟩
          · rcases h3 with rfl | ⟨l, rfl⟩ <;> rcases h1 with ⟨q1, q2⟩ | ⟨p1, p2, q1, q2, q3⟩
            · rw [q2]; rfl
            · cases q1
            · cases q1
            · injection q1 with q1; subst q1; cases q3; rw [q2]; rfl
          · rcases h4 with rfl | ⟨l, rfl⟩ <;> rcases h2 with ⟨q1, q2⟩ | ⟨p1, p2, q1, q2, q3⟩
            · rw [q2]; rfl
            · cases q1
            · cases q1
            · injection q1 with q1; subst q1; cases q3; rw [q2]; rfl
        split
        · rename_i e1 e2
          obtain ⟨_, _, rfl, rfl, g1, g2, g3⟩ := fin _ _ _ _ rlo rhi (.inl e1) (.inl e2) _ r
          rw [e1] at g2; rw [e2] at g3
          simp only [execOp, g1]; simp only [Option.bind] at g2 g3
          rw [g2, g3]
          exact OS.of_vs (pureRun_sound H)
        · rename_i l e1 e2
          obtain ⟨_, _, rfl, rfl, g1, g2, g3⟩ := fin _ _ _ _ rlo rhi (.inr ⟨l, e1⟩) (.inl e2) _ r
          rw [e1] at g2; rw [e2] at g3
          simp only [execOp, g1]; simp only [Option.bind] at g2 g3
          rw [g2, g3]
          exact OS.of_vs (pureRun_sound H)
        · rename_i u e1 e2
          obtain ⟨_, _, rfl, rfl, g1, g2, g3⟩ := fin _ _ _ _ rlo rhi (.inl e1) (.inr ⟨u, e2⟩) _ r
          rw [e1] at g2; rw [e2] at g3
          simp only [execOp, g1]; simp only [Option.bind] at g2 g3
          rw [g2, g3]
          exact OS.of_vs (pureRun_sound H)
        · rename_i l u e1 e2
          obtain ⟨_, _, rfl, rfl, g1, g2, g3⟩ := fin _ _ _ _ rlo rhi (.inr ⟨l, e1⟩) (.inr ⟨u, e2⟩) _ r
          rw [e1] at g2; rw [e2] at g3
          simp only [execOp, g1]; simp only [Option.bind] at g2 g3
          rw [g2, g3]
          exact OS.of_vs (pureRun_sound H)
        · exact OS.none
      · exact OS.of_vs (aSlice_sound H (ev x) (optMap_rep S lo) (optMap_rep S hi))
  | fieldAddr s x f => exact OS.of_vs (aFieldAddr_sound H (ev x))
  | field s x f => exact OS.of_vs (aField_sound H (ev x))
  | indexAddr t x i => exact OS.of_vs (aIndexAddr_sound H (ev x) (ev i))
  | index t x i => exact OS.of_vs (aIndex_sound H (ev x) (ev i))
  | extract x i => exact OS.of_vs (aExtract_sound H (ev x))
  | call c =>
    obtain ⟨callee, args, argTypes⟩ := c
    cases callee with
    | builtin b =>
      have m := map_rep ev args
      have := aBuiltin_sound (P := P) H (new := new) (b := b) (tys := argTypes) (ty := type) (cs := args.map fun | .const _ => true | _ => false) m.1 m.2
      exact this
    | value fop =>
      simp only [aop, aExtern]
      split
      · rename_i g first caps hf
        split
        · rename_i vs hvs
          split
          · rename_i z hz
            have rf := ev fop
            rw [hf] at rf
            generalize hfv : a.eval fop = fv at rf
            cases rf with
            | fn _ _ _ us ws l1 l2 r1 r2 =>
              have m := map_rep ev args
              have hrep := ((PW2.of_dep l1 r1).append (PW2.of_dep m.1 m.2)).append (PW2.of_dep l2 r2)
              have hall : (us ++ args.map a.eval ++ ws).toList = vs := by
                refine toValues_rep (w := w) (ι := ι) (M := Mt h ι) _ vs _ hvs (by have := hrep.1; simpa using this) (fun i h1 h2 => ?_)
                obtain ⟨y, y1, y2⟩ := hrep.2 i _ (List.getElem?_eq_getElem h1)
                rw [← Array.getElem?_toList, List.getElem?_eq_getElem h2] at y1
                injection y1 with y1
                rw [y1]; exact y2
              have hrun : (execOp a.eval ⟨dst, .call ⟨.value fop, args, argTypes⟩, type, pos, after, guard⟩).run P w = .ok (.value z) w := by
                simp only [execOp, resolve, hfv, Deferred.ofValue, Sem.run_bind, Sem.run_pure, Result.andThen_ok, invoke]
                have : us ++ Array.map a.eval args ++ ws = vs.toArray := by rw [← hall]
                rw [this]
                exact pureRun_run hz w
              intro x' h' e
              injection e with e
              injection e with e1 e2
              subst e1 e2
              exact ⟨z, w, ι, .inl hrun, Rep.ofValue z, H, Evolve.refl _ _ _⟩
          · exact OS.none
        · split
          · rename_i id r o hl
            split
            · rename_i fn hfn
              split
              · rename_i hne
                have rf := ev fop
                rw [hf] at rf
                generalize hfv : a.eval fop = fv at rf
                cases rf with
                | fn _ _ _ us ws l1 l2 r1 r2 =>
                  have m := map_rep ev args
                  have hrep := ((PW2.of_dep l1 r1).append (PW2.of_dep m.1 m.2)).append (PW2.of_dep l2 r2)
                  rw [hl] at hrep
                  obtain ⟨y, y1, y2⟩ := hrep.2 0 _ rfl
                  have hone : us ++ Array.map a.eval args ++ ws = #[y] := by
                    have hs : (us ++ Array.map a.eval args ++ ws).size = 1 := hrep.1.symm
                    exact Array.ext (by rw [hs]; rfl) (fun i h1 h2 => by
                      have h0 : i = 0 := by rw [hs] at h1; omega
                      subst h0
                      rw [Array.getElem?_eq_getElem h1] at y1
                      exact Option.some.inj y1)
                  have hrun : (execOp a.eval ⟨dst, .call ⟨.value fop, args, argTypes⟩, type, pos, after, guard⟩).run P w = .ok (.value y) w := by
                    simp only [execOp, resolve, hfv, Deferred.ofValue, Sem.run_bind, Sem.run_pure, Result.andThen_ok, invoke]
                    rw [hone]
                    exact run_noEsc hfn hne y w
                  intro x' h' e
                  injection e with e
                  injection e with e1 e2
                  subst e1 e2
                  exact ⟨y, w, ι, .inl hrun, y2, H, Evolve.refl _ _ _⟩
              · exact OS.none
            · exact OS.none
          · exact OS.none
      · exact OS.none
    | _ => exact OS.none
  | _ => exact OS.none

theorem aop_sound {P h ι w} (H : HRel h ι w) {sl : List V} {a : Act} (S : SRel sl h ι w a.tmps) (o : Oper) (new : Nat) :
    OS P h ι w (execOp a.eval o) (aop P o.op (aev sl) h new) := aop_soundE H (fun x => aev_rep S x) o new

end Go.Abs
