/-
  Steps of a run one at a time, and the statement's post-condition off a world that is below the old heap's end as it was.
-/
import Derived.Test.YtlacidogpdbpgaaGreatSimX
import Derived.WalkKit
import Derived.OpenShut
import Derived.ShutString
namespace Go.Sim
open Go
open Go.RowKit (Below Grown)
set_option maxRecDepth 100000

def bodyOf (P : Program) (f : FuncId) : Code := match P.funcs[f]? with
  | some fn => match fn.body with
    | some c => c
    | none => .skip
  | none => .skip
def Code.tl : Code → Code
  | .seq _ b => b
  | c => c
def Code.hd : Code → Code
  | .seq a _ => a
  | c => c
def okRest (P : Program) (w0 : World) (res : List ResultVar) : Option (Ex × Tmps × AH) → Bool
  | some (.normal, T, H) | some (.ret, T, H) => match aResults P w0 T H res with
    | some [.bool b] => b
    | _ => false
  | _ => false

theorem isTrue_of_rest {P : Program} {pr : Prims} {w : World} {K n f : Nat} {args : List Value} {H : AH} (hp : pr f args = none) {fn : Func} (hf : P.funcs[f]? = some fn) {c : Code} (hc : fn.body = some c)
    (hok : (fnOk fn && Nat.ble args.length fn.ntmps) = true)
    (h : okRest P w fn.results.toList (aCode P w (aFn P pr w K n) K none c (argsT args 0 .leaf) H) = true) : isTrue (aFn P pr w K (n + 1) f args H) = true := by
  simp only [aFn, hp, hf, hc, hok, cond_true]
  cases hr : aCode P w (aFn P pr w K n) K none c (argsT args 0 .leaf) H with
  | none => rw [hr] at h; simp [okRest] at h
  | some r =>
    obtain ⟨ex, T, H'⟩ := r
    rw [hr] at h
    cases ex <;> simp only [okRest] at h <;> try contradiction
    all_goals
      split at h
      · rename_i b hb
        subst h
        change isTrue (Option.map _ (aResults P w T H' fn.results.toList)) = true
        rw [hb]
        rfl
      · contradiction

end Go.Sim

namespace Go.Sim.Land
open Go Go.ChangeShapes Go.WideShapes Go.ChangeAt Go.RowKit

/-- the statement's post-condition off a world that is as it was below the old heap's end: results that are plain, arguments that read as they did -/
theorem post_below {H : Type} {enc : TypeId × Value → H} {P : Program} {f : Func} {s : ChangeSpec} {apart fresh handsOn again : Bool} {W W' : World} {args : Array Value} {v : Value} {ds gs : List (DataW H)} {before pa pv : List MemPlace}
    (hW : DataW.Whole enc P f.params.toList s.vars apart W args.toList ds gs before)
    (hres : ∀ (b : Nat) (sp : Nat → Bool) (hd : Bool), DataW.TrodAll enc P W' b sp hd f.resultTypes.toList (v.resultList f.resultTypes.size) (s.fn H (ds ++ gs)).results [])
    (hargs : ∀ sp : Nat → Bool, (∀ p ∈ before, sp p.block = true) → DataW.TrodAll enc P W' 0 sp true f.params.toList args.toList (s.fn H (ds ++ gs)).args pa)
    (hvars : ∀ sp : Nat → Bool, (∀ p ∈ before, sp p.block = true) → DataW.TrodVars enc P W' sp s.vars (s.fn H (ds ++ gs)).vars pv)
    (hps : before = pa ++ pv) (hb : Below W.heap.size W W')
    (hok : ∀ (j : Nat) (t : TypeId) (r : Value), f.resultTypes[j]? = some t → (v.resultList f.resultTypes.size)[j]? = some r → Value.okWide P W' .any 0 t r) :
    s.post enc P f apart fresh handsOn again W args v W' := by
  subst hps
  have lt : ∀ p ∈ pa ++ pv, p.block < W.heap.size := fun p hp => hW.lt p hp
  have was : ∀ p ∈ pa ++ pv, (fun b => decide (b < W.heap.size)) p.block = true := fun p hp => by simpa using lt p hp
  have all : ∀ p ∈ pa ++ pv, (fun _ : Nat => true) p.block = true := fun _ _ => rfl
  refine ⟨ds, gs, pa ++ pv, [], pa, pv, hW, hres _ _ _, hargs _ was, hvars _ was, World.keptBut_mono (fun p hp => ⟨hp, by simpa using hp⟩) (hb.frame (· ∈ pa ++ pv)), fun _ => ?_⟩
  obtain ⟨_, _, _, _, _, hz, hn⟩ := hW
  have cold : ∀ (b off : Nat), _ := fun b off => hz b off
  refine ⟨hok, _, _, ([] ++ pa) ++ pv, ⟨[] ++ pa, pv, trodAll_append (hargs _ all) (hres _ _ _), hvars _ all, rfl, ?_, ?_⟩, fun p hp _ => by simpa using hp⟩
  · intro b off hp
    have hp' := hp
    simp only [List.nil_append] at hp'
    rw [hb.frozen (lt _ hp')]
    exact hz b off hp'
  · intro ha
    simpa using hn ha
end Go.Sim.Land

namespace Go.Sim
open Go
set_option maxRecDepth 100000

theorem seq_step {P : Program} {w0 : World} {call : CallA} {n : Nat} {c : Code} {T T1 : Tmps} {H H1 : AH} {res : List ResultVar} (hs : c = .seq (Code.hd c) (Code.tl c)) (h : aCode P w0 call n none (Code.hd c) T H = some (.normal, T1, H1))
    (g : okRest P w0 res (aCode P w0 call n none (Code.tl c) T1 H1) = true) : okRest P w0 res (aCode P w0 call (n + 1) none c T H) = true := by
  rw [hs]
  simp only [aCode, h]
  exact g

theorem seq2_step {P : Program} {w0 : World} {call : CallA} {n : Nat} {c : Code} {T T1 : Tmps} {H H1 : AH} {res : List ResultVar} (hs : c = .seq (.seq (Code.hd (Code.hd c)) (Code.tl (Code.hd c))) (Code.tl c))
    (h : aCode P w0 call n none (Code.hd (Code.hd c)) T H = some (.normal, T1, H1))
    (g : okRest P w0 res (match aCode P w0 call n none (Code.tl (Code.hd c)) T1 H1 with
      | some (.normal, T', H') => aCode P w0 call (n + 1) none (Code.tl c) T' H'
      | r => r) = true) : okRest P w0 res (aCode P w0 call (n + 2) none c T H) = true := by
  rw [hs]
  simp only [aCode, h]
  exact g

end Go.Sim
