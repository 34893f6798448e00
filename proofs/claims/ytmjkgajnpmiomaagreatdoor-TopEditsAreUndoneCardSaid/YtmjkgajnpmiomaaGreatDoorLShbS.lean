/- Functions. -/
import Derived.Test.YtmjkgajnpmiomaaGreatDoorLShbR
set_option linter.unusedSimpArgs false
set_option linter.unusedVariables false
namespace Go.Sha
inductive Res where
 |tmp (t:Nat)
 |cell (t:Nat) (n:Option Nat)
structure FT where
 N:Nat
 np:Nat
 res:List Res
 T:List Nd
def resB (P:Program):List ResultVar→Option (List Res)
 |[]=>some []
 | .tmp t::r=>(resB P r).map (.tmp t::·)
 | .cell t ty::r=>match cellsB P ty,resB P r with
  |some n,some l=>some (.cell t n::l)
  |_,_=>none
def resV (env:Env)(st:St):List Res→Option (List V)
 |[]=>some []
 | .tmp t::r=>match look env t,resV env st r with
  |some v,some l=>some (v::l)
  |_,_=>none
 | .cell t n::r=>match loadV st n ((look env t).getD .und),resV env st r with
  |some v,some l=>some (v::l)
  |_,_=>none
def resOne:List V→V
 |[v]=>v
 |l=>.tup l
def argEnv:Nat→List V→Env
 |_,[]=>[]
 |k,a::r=>(k,a)::argEnv (k+1) r
section
variable {P:Program}
theorem look_argEnv:∀(args:List V) (k i:Nat) (v:V),look (argEnv k args) i=some v→k≤i∧args[i-k]?=some v
 |[],k,i,v,h=>by simp[argEnv,look]at h
 |a::r,k,i,v,h=>by
  simp only[argEnv,look]at h
  split at h
  ·rename_i e;subst e;cases h;simp
  ·obtain⟨h1,h2⟩:=look_argEnv r (k+1) i v h
   refine⟨by omega,?_⟩
   rw[show i-k=(i-(k+1))+1 by omega];simpa using h2
def resSem (tmps:Array Value):ResultVar→Sem Value
 | .tmp t=>pure (tmps.getD t undef)
 | .cell x t=>do loadVar t (←asAddr (tmps.getD x undef))
theorem results_eq (fn:Func)(tmps:Array Value):results fn tmps=(do let vs ←fn.results.mapM (resSem tmps);pure (if h:vs.size=1 then vs[0] else .tuple vs)):=by
 unfold results
 congr 2
theorem run_resVar {w:World}{A:Abs}{st:St}{a:Act}{env:Env}(hs:Sim w A st)(he:EnvSim w A a env):∀{rs:List ResultVar}{res:List Res}{ds:List V},resB P rs=some res→resV env st res=some ds →
  ∃vs:List Value,(rs.mapM (resSem a.tmps)).run P w=.ok vs w∧Reps w A vs ds
 |[],res,ds,h1,h2=>by
  simp[resB]at h1;subst h1
  simp[resV]at h2;subst h2
  exact⟨[],rfl,rfl,by simp⟩
 | .tmp t::rs,res,ds,h1,h2=>by
  simp only[resB]at h1
  obtain⟨l,hl,rfl⟩:=Option.map_eq_some_iff.1 h1
  simp only[resV]at h2
  split at h2
  ·rename_i v l' hv hl'
   cases h2
   obtain⟨vs,g1,g2,g3⟩:=run_resVar hs he hl hl'
   refine⟨a.tmps.getD t undef::vs,?_,by simp[g2],fun i u c hu hc=>?_⟩
   ·simp only[List.mapM_cons,resSem,Sem.run_bind,Sem.run_pure,Result.andThen_ok,g1]
   ·cases i with
    |zero=>rw[List.getElem?_cons_zero]at hu hc;cases hu;cases hc;exact he t v hv
    |succ i=>exact g3 i u c (by simpa using hu) (by simpa using hc)
  ·cases h2
 | .cell x t::rs,res,ds,h1,h2=>by
  simp only[resB]at h1
  split at h1
  ·rename_i n l hn hl
   cases h1
   simp only[resV]at h2
   split at h2
   ·rename_i v l' hv hl'
    cases h2
    obtain⟨vs,g1,g2,g3⟩:=run_resVar hs he hl hl'
    have hr:Rep w A (a.tmps.getD x undef) ((look env x).getD .und):=by
     cases h:look env x with
     |none=>exact .und _
     |some d=>exact he x d h
    obtain⟨u,hu1,hu2⟩:=gives_load (P:=P) hn hs hr hv
    have hrun:(do loadVar t (←asAddr (a.tmps.getD x undef)):Sem Value).run P w=.ok u w:=by
     generalize a.tmps.getD x undef=p at hu1 ⊢
     unfold Instr.loadAt Instr.sureAddr at hu1
     cases p with
     |pointer q=>cases q with
      |some ad=>simpa [asAddr] using hu1
      |none=>simp at hu1
     |_=>simp at hu1
    refine⟨u::vs,?_,by simp[g2],fun i u' c hu hc=>?_⟩
    ·have hrun':(resSem a.tmps (.cell x t)).run P w=.ok u w:=hrun
     simp only[List.mapM_cons,Sem.run_bind,hrun',Result.andThen_ok,g1,Sem.run_pure]
    ·cases i with
     |zero=>simp at hu hc;subst hu hc;exact hu2
     |succ i=>exact g3 i u' c (by simpa using hu) (by simpa using hc)
   ·cases h2
  ·cases h1
theorem run_results {w:World}{A:Abs}{st:St}{a:Act}{env:Env}{fn:Func}(hs:Sim w A st)(he:EnvSim w A a env){res:List Res}{ds:List V}(h1:resB P fn.results.toList=some res)(h2:resV env st res=some ds) :
  ∃v,(results fn a.tmps).run P w=.ok v w∧Rep w A v (resOne ds):=by
 obtain⟨vs,g1,g2,g3⟩:=run_resVar hs he h1 h2
 refine⟨if h:vs.toArray.size=1 then vs.toArray[0] else .tuple vs.toArray,?_,?_⟩
 ·rw[results_eq,Array.mapM_eq_mapM_toList]
  simp only[Sem.run_bind,Sem.run_map,g1,Result.andThen_ok,Sem.run_pure]
 ·split
  ·rename_i h
   have hl:vs.length=1:=by simpa using h
   obtain⟨v,rfl⟩:=List.length_eq_one_iff.1 hl
   obtain⟨d,rfl⟩:=List.length_eq_one_iff.1 (g2.symm.trans hl)
   exact g3 0 v d rfl rfl
  ·rename_i h
   have:resOne ds=.tup ds:=by
    unfold resOne
    split
    ·simp at g2;simp[g2]at h
    ·rfl
   rw[this]
   exact .tup vs ds g2 g3
end
end Go.Sha
