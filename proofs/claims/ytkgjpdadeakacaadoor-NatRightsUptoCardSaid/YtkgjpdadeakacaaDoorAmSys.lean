/-
  A function's loops, each the least that its rounds make; its calls.
-/
import Derived.Test.YtkgjpdadeakacaaDoorAmCode
import Derived.KernelRfl
namespace Go.Proofs.YtkgjpdadeakacaaDoor.Am
open Go
variable {P : Program} {L : Lor} {lv : Lv}

def bodyOf (fn : Func) : Code := fn.body.getD .skip
def allLoops : Code → List Code
  | .seq a b => allLoops a ++ allLoops b
  | .cond _ a b => allLoops a ++ allLoops b
  | .block _ a => allLoops a
  | .loop a => a :: allLoops a
  | _ => []
def nthC : List Code → Nat → Code
  | [], _ => .skip
  | c :: _, 0 => c
  | _ :: cs, n + 1 => nthC cs n
def Lfp (P : Program) (C : Orc) (L : Lor) (lv : Lv) (b : Code) : Prop :=
  ∀ vs h K, L b vs h K → ∀ I : List Value → H → Prop, (∀ vs h, round P C L lv b I K vs h → I vs h) → I vs h
def Lfps (P : Program) (C : Orc) (L : Lor) (lv : Lv) : List Code → Prop
  | [] => True
  | b :: bs => Lfp P C L lv b ∧ Lfps P C L lv bs
theorem Lfps.all {C : Orc} : ∀ {bs : List Code}, Lfps P C L lv bs → ∀ b ∈ bs, Lfp P C L lv b
  | [], _, b, hb => by simp at hb
  | c :: cs, h, b, hb => by
    rcases List.mem_cons.mp hb with rfl | hb
    · exact h.1
    · exact Lfps.all h.2 b hb

theorem loops_sound (hw : P.follows .mixedOrders = true) {C : Orc} (hC : Sound P C) (hM : Mono C) : ∀ (c : Code), okCode P c = true → (∀ b ∈ allLoops c, Lfp P C L lv b) → ∀ b ∈ loopsOf c, SoundLoop P L lv b := by
  intro c
  induction c with
  | seq a b iha ihb =>
    intro hok hl x hx
    simp only [okCode, Bool.and_eq_true] at hok
    simp only [loopsOf, List.mem_append] at hx
    rcases hx with hx | hx
    · exact iha hok.1 (fun y hy => hl y (by simp [allLoops, hy])) x hx
    · exact ihb hok.2 (fun y hy => hl y (by simp [allLoops, hy])) x hx
  | cond c a b iha ihb =>
    intro hok hl x hx
    simp only [okCode, Bool.and_eq_true] at hok
    simp only [loopsOf, List.mem_append] at hx
    rcases hx with hx | hx
    · exact iha hok.1 (fun y hy => hl y (by simp [allLoops, hy])) x hx
    · exact ihb hok.2 (fun y hy => hl y (by simp [allLoops, hy])) x hx
  | block id a ih => intro hok hl x hx; exact ih hok hl x hx
  | loop a ih =>
    intro hok hl x hx
    simp only [loopsOf, List.mem_singleton] at hx
    subst hx
    exact loop_sound hw hC hM hok (ih hok fun y hy => hl y (by simp [allLoops, hy])) (hl x (by simp [allLoops]))
  | _ => intro _ _ x hx; simp [loopsOf] at hx

theorem fn_sound (hw : P.follows .mixedOrders = true) {f : FuncId} {fn : Func} (hf : P.funcs[f]? = some fn) (hb : fn.body = some (bodyOf fn)) (hok : okCode P (bodyOf fn) = true)
    (hl : Lfps P (CS P) L lv (allLoops (bodyOf fn))) {args : List Value} {h : H} {k : Kv} {kp : Kp} (hk : bodyW P (CS P) L lv fn args h k kp) : CS P f args h k kp :=
  body_sound hw hf hb hok (loops_sound hw CS_sound CS_mono _ hok hl.all) hk
end Go.Proofs.YtkgjpdadeakacaaDoor.Am
