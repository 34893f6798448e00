/- The evaluator's word is a contract. -/
import Derived.Test.YtmjkgajnpmiomaaGreatDoorLShbW
set_option linter.unusedSimpArgs false
set_option linter.unusedVariables false
namespace Go.Sha
section
variable {P:Program}{N:Fr}{w:World}{A:Abs}{st:St}{E:EvF}
def ESound (P:Program)(E:EvF):Prop:=∀k args st r s,E k args st=some (r,s)→VCalls P k args st (fun r' s'=>r'=r∧s'=s)
theorem VCalls.snap {k:FuncId}{args:List V}{st:St}{R:VRes→St→Prop}(h:VCalls P k (snapL st args) st R):VCalls P k args st R:=by
 have hr:∀{w A vs},Sim w A st→Reps w A vs args→Reps w A vs (snapL st args):=fun {w A vs} hs ha =>
  ⟨by rw[ha.1];simp[snapL],fun i v c hv hc=>by
   simp only[snapL,List.getElem?_map]at hc
   obtain⟨d,hd,rfl⟩:=Option.map_eq_some_iff.1 hc
   have:=ha.2 i v d hv hd
   cases h:snapA st d with
   |none=>exact this
   |some d'=>exact snapA_rep hs this h⟩
 rcases h with h|h
 ·exact .inl ⟨h.1,fun w A vs hs ha=>h.2 w A vs hs (hr hs ha)⟩
 ·exact .inr fun w A vs hs ha=>h w A vs hs (hr hs ha)
theorem callE_sound (hE:ESound P E){st s:St}{args:List V}{f:V}{r:VRes}(h:callE E st args f=some (r,s)):callVC P f args st (fun r' s'=>r'=r∧s'=s):=by
 unfold callE at h
 split at h
 ·have h':=hE _ _ _ _ _ h
  revert h'
  unfold snapQ
  split
  ·exact fun h=>h
  ·exact VCalls.snap
 ·cases h
theorem callVC_mono {f:V}{args:List V}{st:St}{R R':VRes→St→Prop}(h:callVC P f args st R)(hr:∀r s,R r s→R' r s):callVC P f args st R':=by
 unfold callVC at h
 split at h
 ·exact VCalls.mono h hr
 ·exact h.elim
theorem callVC_eqv {f:V}{args:List V}{st s:St}{r:VRes}(he:s.eqv st)(h:callVC P f args st (fun r' s'=>r'=r∧s'=s)):callVC P f args st (fun r' s'=>r'=r∧s'=st):=by
 unfold callVC at h ⊢
 split at h
 ·exact VCalls.eqv he h
 ·exact h.elim
def Eqv (e e':Env):Prop:=∀s,look e s=look e' s
theorem Eqv.refl {e:Env}:Eqv e e:=fun _=>rfl
theorem Eqv.set {e e':Env}(h:Eqv e e'){d:Option Nat}{v:V}:Eqv (setD e d v) (setD e' d v):=fun s=>by rw[look_setD,look_setD];split<;>first|rfl|exact h s
theorem Eqv.get {e e':Env}(h:Eqv e e'){x:Opd}:x.get e=x.get e':=Opd.get_congr fun s _=>h s
theorem Eqv.gets {e e':Env}(h:Eqv e e'){xs:List Opd}:xs.map (·.get e)=xs.map (·.get e'):=gets_congr fun s _=>h s
theorem Eqv.want {e e':Env}(h:Eqv e e'){g:Option (Nat×Bool)}:wantV e g=wantV e' g:=by
 cases g with
 |none=>rfl
 |some p=>simp only[wantV];rw[h p.1]
def wkE (Q:Post):Post:=fun x e s=>∃e',Eqv e e'∧Q x e' s
theorem nilK_mono {st:St}{k k':Bool→Prop}(h:∀b,k b→k' b){v:V}(hn:nilK st k v):nilK st k' v:=by
 unfold nilK at hn ⊢
 repeat' split at hn
 all_goals first
  |exact h _ hn
  |exact⟨h _ hn.1,h _ hn.2⟩
  |exact hn.elim
  |(dsimp only at hn ⊢;exact hn.elim)
  |skip
 all_goals
  refine⟨hn.1,?_⟩
  first
   |(rw[if_pos (by assumption)];exact⟨h _ hn.2.1,h _ hn.2.2⟩)
   |(rw[if_neg (by assumption)];exact h _ hn.2)
theorem nxtK_mono {st:St}{k k':V→St→Prop}(h:∀v s,k v s→k' v s){v:V}(hn:nxtK st k v):nxtK st k' v:=by
 unfold nxtK at hn ⊢
 repeat' split at hn
 all_goals first
  |exact⟨hn.1,fun hh=>h _ _ (hn.2.1 hh),fun j e h1 h2=>h _ _ (hn.2.2 j e h1 h2)⟩
  |exact hn.elim
  |(dsimp only at hn ⊢;exact hn.elim)
theorem vcOps_eqv {Q:Post}:∀{l:List Ins}{e e':Env}{st:St},Eqv e e'→vcOps P l e' st Q→vcOps P l e st (wkE Q)
 |[],e,e',st,h,hv=>⟨e',h,hv⟩
 |⟨d,op,g⟩::r,e,e',st,h,hv=>by
  simp only[vcOps]at hv ⊢
  have hu:=upon_inv hv
  clear hv
  obtain⟨t,hg,hv⟩:=hu
  rw[h.want,hg,upon_some]
  cases t with
  |false=>rw[fork_false]at hv ⊢;exact vcOps_eqv h.set hv
  |true =>
   rw[fork_true]at hv ⊢
   cases op
   case call f args =>
    dsimp only at hv ⊢
    rw[h.get,h.gets]
    refine callVC_mono hv (fun r' s' hr=>?_)
    cases r' with
    |ret v=>exact vcOps_eqv h.set hr
    |pan v=>exact⟨e',h,hr⟩
   case panic x =>
    dsimp only at hv ⊢
    rw[h.get]
    unfold panK at hv ⊢
    split
    ·rename_i hx;rw[hx]at hv;exact⟨e',h,hv⟩
    ·rename_i hx
     cases hxx:x.get e'<;>rw[hxx]at hv<;>first|exact hv|exact absurd hxx (hx _ _)
   case nilk ne x =>
    dsimp only at hv ⊢
    rw[h.get]
    exact nilK_mono (fun b hb=>vcOps_eqv h.set hb) hv
   case nxt x =>
    dsimp only at hv ⊢
    rw[h.get]
    exact nxtK_mono (fun v s hb=>vcOps_eqv h.set hb) hv
   all_goals
    dsimp only at hv ⊢
    rw[stv_congr fun s _=>h s]
    obtain⟨z,e1,hv⟩:=upon_inv hv
    rw[e1,upon_some]
    exact vcOps_eqv h.set hv
theorem wkE_idem {Q:Post}{x:VX}{e:Env}{s:St}(h:wkE (wkE Q) x e s):wkE Q x e s:=by
 obtain⟨e1,h1,e2,h2,h3⟩:=h
 exact⟨e2,fun s=>(h1 s).trans (h2 s),h3⟩
theorem vcOps_mono {Q Q':Post}(hq:∀x e s,Q x e s→Q' x e s):∀{l:List Ins}{e:Env}{st:St},vcOps P l e st Q→vcOps P l e st Q'
 |[],e,st,hv=>hq _ _ _ hv
 |⟨d,op,g⟩::r,e,st,hv=>by
  simp only[vcOps]at hv ⊢
  have hu:=upon_inv hv
  clear hv
  obtain⟨t,hg,hv⟩:=hu
  rw[hg,upon_some]
  cases t with
  |false=>rw[fork_false]at hv ⊢;exact vcOps_mono hq hv
  |true =>
   rw[fork_true]at hv ⊢
   cases op
   case call f args =>
    refine callVC_mono hv (fun r' s' hr=>?_)
    cases r' with
    |ret v=>exact vcOps_mono hq hr
    |pan v=>exact hq _ _ _ hr
   case panic x =>
    dsimp only at hv ⊢
    unfold panK at hv ⊢
    cases hxx:x.get e<;>rw[hxx]at hv<;>first|exact hv|exact hq _ _ _ hv
   case nilk ne x=>exact nilK_mono (fun b hb=>vcOps_mono hq hb) hv
   case nxt x=>exact nxtK_mono (fun v s hb=>vcOps_mono hq hb) hv
   all_goals
    dsimp only at hv ⊢
    obtain⟨z,e1,hv⟩:=upon_inv hv
    rw[e1,upon_some]
    exact vcOps_mono hq hv
theorem W_eqv {c:Code}{env:Env}{st:St}{Q:Post}(h:W P N c env st (wkE Q)):W P N c env st Q:=by
 intro w A a hs he hN hd
 have hE:∀{w:World}{A:Abs}{a:Act}{e e':Env},Eqv e e'→EnvSim w A a e→EnvSim w A a e':=fun h he i v hv=>he i v (by rw[h i];exact hv)
 refine Code.wp_mono (fun ex a' w' hg=>?_) (h w A a hs he hN hd)
 cases ex with
 |normal=>obtain⟨A',e1,st',⟨e2,h1,h2⟩,q2,q3,q4⟩:=hg;exact⟨A',e2,st',h2,q2,hE h1 q3,q4⟩
 |exit id=>obtain⟨A',e1,st',⟨e2,h1,h2⟩,q2,q3,q4⟩:=hg;exact⟨A',e2,st',h2,q2,hE h1 q3,q4⟩
 |ret=>obtain⟨A',e1,st',⟨e2,h1,h2⟩,q2,q3,q4⟩:=hg;exact⟨A',e2,st',h2,q2,hE h1 q3,q4⟩
 |panic ch=>obtain⟨A',e1,st',v,d,g1,g2,⟨e2,h1,h2⟩,q2,q3,q4⟩:=hg;exact⟨A',e2,st',v,d,g1,g2,h2,q2,hE h1 q3,q4⟩
 |goto l=>exact hg.elim
 |outgrown=>exact hg.elim
def Has (Q:Post)(r:Rc):Prop:=∃x e s,r=some (x,e,s)∧Q x e s
theorem guardR_inv {Q:Post}{a b:Rc}{g:Option Bool}(h:Has Q (guardR a b g)):∃t,g=some t∧(t=true→Has Q a)∧(t=false→Has Q b):=by
 cases g with
 |none=>obtain⟨_,_,_,h,_⟩:=h;cases h
 |some t=>refine⟨t,rfl,?_,?_⟩<;>(intro e;subst e;simpa [guardR] using h)
theorem gd_inv {Q:Post}{A B:Env→Rc}{j:Nat}{b:Bool}{env:Env}{o:Option V}(h:Has Q (gd A B j b env o))(ho:look env j=o) :
  ∃e',Eqv env e'∧((wantV env (some (j,b))=some true∧Has Q (A e'))∨(wantV env (some (j,b))=some false∧Has Q (B e'))):=by
 unfold gd at h
 have hE:∀{v:V},look env j=some v→Eqv env ((j,v)::env):=fun hv s=>by
  simp only[look];split
  ·rename_i e;rw[←e];exact hv
  ·rfl
 split at h
 ·rename_i t
  refine⟨(j,.bool t)::env,hE ho,?_⟩
  simp only[wantV,ho]
  cases t<;>cases b<;>simp only[Bool.false_eq_true,if_false,if_true]at h
  ·exact .inl ⟨rfl,h⟩
  ·exact .inr ⟨rfl,h⟩
  ·exact .inr ⟨rfl,h⟩
  ·exact .inl ⟨rfl,h⟩
 ·exact⟨env,.refl,.inr ⟨by simp only[wantV,ho],h⟩⟩
 ·obtain⟨_,_,_,h,_⟩:=h;cases h
theorem insE_sound (hE:ESound P E){env:Env}{st:St}{Q Q':Post}{d:Option Nat}{op:SOp}{r:List Ins}{k:V→St→Rc}
  (hk:∀v s,Has Q (k v s)→vcOps P r (setD env d v) s Q') (hp:∀v s,Q (.pan v) env s→Q' (.pan v) env s) (h:Has Q (insE E env st k op)):vcOps P (⟨d,op,none⟩::r) env st Q':=by
 obtain⟨x,e,s,h1,hq⟩:=h
 simp only[vcOps,wantV]
 rw[upon_some,fork_true]
 cases op
 case call f args =>
  simp only[insE]at h1
  cases hc:callE E st (args.map (·.get env)) (f.get env) with
  |none=>rw[hc]at h1;cases h1
  |some z =>
   obtain⟨z,s1⟩:=z
   rw[hc]at h1
   refine callVC_mono (callE_sound hE hc) (fun r' s' ⟨e1,e2⟩=>?_)
   subst e1;subst e2
   cases r' with
   |ret v=>exact hk _ _ ⟨x,e,s,h1,hq⟩
   |pan v=>simp only[callR]at h1;cases h1;exact hp _ _ hq
 case panic y =>
  simp only[insE]at h1
  dsimp only
  cases hy:y.get env<;>rw[hy]at h1<;>simp only[panE]at h1<;>cases h1
  simp only[panK];exact hp _ _ hq
 case nilk ne y =>
  simp only[insE]at h1
  dsimp only
  cases hy:y.get env<;>rw[hy]at h1<;>try (cases h1;done)
  ·exact hk _ _ ⟨x,e,s,h1,hq⟩
  ·rename_i xs
   cases xs with
   |nil=>cases h1
   |cons a xs=>exact hk _ _ ⟨x,e,s,h1,hq⟩
  ·rename_i xs
   cases xs with
   |nil=>cases h1
   |cons a xs=>exact hk _ _ ⟨x,e,s,h1,hq⟩
  ·rename_i id n
   cases n with
   |zero=>cases h1
   |succ n =>
    simp only[nilE]at h1
    cases ha:look st.arr id with
    |none=>rw[ha]at h1;cases h1
    |some a =>
     rw[ha]at h1
     dsimp only at h1
     split at h1
     ·rename_i hl
      simp only[nilK,ha]
      exact⟨hl,by simpa using hk _ _ ⟨x,e,s,h1,hq⟩⟩
     ·cases h1
 case nxt y=>cases h1
 all_goals
  simp only[insE]at h1
  dsimp only
  revert h1
  generalize hz:stv _ env st=z
  intro h1
  cases z with
  |none=>cases h1
  |some z=>rw[upon_some];exact hk _ _ ⟨x,e,s,h1,hq⟩
theorem evOps_sound (hE:ESound P E):∀{l:List Ins}{env:Env}{st:St}{Q:Post},Has Q (evOps E l env st)→vcOps P l env st (wkE Q)
 |[],env,st,Q,⟨_,_,_,h,hq⟩=>by
  simp only[evOps]at h
  cases h;exact⟨env,.refl,hq⟩
 |⟨d,op,none⟩::r,env,st,Q,h=>by
  unfold evOps at h
  exact insE_sound hE (fun v s h=>evOps_sound hE h) (fun v s h=>⟨_,.refl,h⟩) h
 |⟨d,op,some (j,b)⟩::r,env,st,Q,h=>by
  unfold evOps at h
  obtain⟨e',he,h⟩:=gd_inv h rfl
  rcases h with⟨hw,h⟩|⟨hw,h⟩
  ·have:=vcOps_mono (fun _ _ _ h=>wkE_idem h) (vcOps_eqv he (insE_sound (d:=d) hE (fun v s h=>evOps_sound hE h) (fun v s h=>⟨_,.refl,h⟩) h))
   simp only[vcOps,wantV]at this
   rw[upon_some,fork_true]at this
   simp only[vcOps]
   rw[hw,upon_some,fork_true]
   exact this
  ·have:=vcOps_mono (fun _ _ _ h=>wkE_idem h) (vcOps_eqv he.set (evOps_sound hE h))
   simp only[vcOps]
   rw[hw,upon_some,fork_false]
   exact this
theorem evOne_step (hE:ESound P E){Q:Post}{i:Ins}{env:Env}{st:St}{K:Env→St→Rc}(ho:i.op.odd=false)(h:Has Q (normR K (evOne E i env st (fun e s=>some (.normal,e,s))))) :
  ∃v st',StepV P i env st v st'∧Has Q (K (setD env i.dst v) st'):=by
 obtain⟨x,e,s,h,hq⟩:=h
 have hn:∃e' s',evOne E i env st (fun e s=>some (.normal,e,s))=some (.normal,e',s')∧K e' s'=some (x,e,s):=by
  unfold normR at h
  split at h
  ·rename_i e' s' he;exact⟨e',s',he,h⟩
  ·cases h
 obtain⟨e',s',he,hk⟩:=hn
 obtain⟨d,op,g⟩:=i
 unfold evOne at he
 dsimp only at he ho
 cases hg:wantV env g with
 |none=>rw[hg]at he;cases he
 |some t =>
  rw[hg]at he
  cases t with
  |false =>
   simp only[guardR,Bool.false_eq_true,if_false]at he
   cases he
   exact⟨_,_,.inr (.inl ⟨hg,rfl,rfl⟩),x,e,s,hk,hq⟩
  |true =>
   simp only[guardR,if_true]at he
   cases op
   case call f args =>
    simp only[insE]at he
    unfold callR at he
    split at he
    ·rename_i v s1 hc
     cases he
     exact⟨v,_,.inl ⟨hg,callE_sound hE hc⟩,x,e,s,hk,hq⟩
    ·cases he
    ·cases he
   case panic x=>cases ho
   case nilk ne x=>cases ho
   case nxt x=>cases ho
   all_goals
    simp only[insE]at he
    unfold bindR at he
    split at he
    ·rename_i v s1 hc
     cases he
     exact⟨v,_,.inl ⟨hg,hc⟩,x,e,s,hk,hq⟩
    ·cases he
theorem quietR_inv {Q:Post}{st:St}{k:V→Rc}{a:Rt}(h:Has Q (quietR st k a)):∃v s,a=some (.ret v,s)∧s.eqv st∧Has Q (k v):=by
 obtain⟨x,e,s,h,hq⟩:=h
 unfold quietR at h
 split at h
 ·rename_i v s1
  split at h
  ·rename_i es;exact⟨v,s1,rfl,es,x,e,s,h,hq⟩
  ·cases h
 ·cases h
theorem bindQ_inv {Q:Post}{k:V→Rc}{a:Option V}(h:Has Q (bindQ k a)):∃v,a=some v∧Has Q (k v):=by
 cases a with
 |none=>obtain⟨_,_,_,h,_⟩:=h;cases h
 |some v=>exact⟨v,rfl,h⟩
theorem insQ_inv (hE:ESound P E){Q:Post}{env:Env}{st:St}{k:V→Rc}{op:SOp}(h:Has Q (insQ E env st k op)) :
  ∃v,Has Q (k v)∧(∀f args,op=.call f args→callVC P (f.get env) (args.map (·.get env)) st (retIs v st))∧((∀f args,op≠.call f args)→evq op env st=some v):=by
 cases op
 case call f args =>
  simp only[insQ]at h
  obtain⟨v,s,h1,he,h2⟩:=quietR_inv h
  exact⟨v,h2,fun f' a' e=>by cases e;exact callVC_eqv he (callE_sound hE h1),fun hn=>absurd rfl (hn _ _)⟩
 all_goals
  simp only[insQ]at h
  obtain⟨v,h1,h2⟩:=bindQ_inv h
  exact⟨v,h2,fun f' a' e=>(by cases e),fun _=>h1⟩
theorem vcQ_mono {K K':Env→Prop}(hk:∀e,K e→K' e){st:St}:∀{l:List Ins}{env:Env},vcQ P l env st K→vcQ P l env st K'
 |[],env,h=>hk _ h
 |⟨d,op,g⟩::r,env,h=>by
  simp only[vcQ]at h ⊢
  obtain⟨t,hg,h⟩:=upon_inv h
  rw[hg,upon_some]
  cases t with
  |false=>rw[fork_false]at h ⊢;exact vcQ_mono hk h
  |true =>
   rw[fork_true]at h ⊢
   cases op
   case call f args=>obtain⟨d,h1,h2⟩:=h;exact⟨d,h1,vcQ_mono hk h2⟩
   all_goals
    dsimp only at h ⊢
    obtain⟨v,e,h⟩:=upon_inv h
    rw[e,upon_some]
    exact vcQ_mono hk h
theorem vcV_mono {K K':List V→Env→Prop}(hk:∀l e,K l e→K' l e){st:St}:∀{l:List Ins}{env:Env}{acc:List V},vcV P l env st acc K→vcV P l env st acc K'
 |[],env,acc,h=>hk _ _ h
 |⟨d,op,g⟩::r,env,acc,h=>by
  simp only[vcV]at h ⊢
  obtain⟨t,hg,h⟩:=upon_inv h
  rw[hg,upon_some]
  cases t with
  |false=>rw[fork_false]at h ⊢;exact vcV_mono hk h
  |true =>
   rw[fork_true]at h ⊢
   cases op
   case call f args=>obtain⟨d,h1,h2⟩:=h;exact⟨d,h1,vcV_mono hk h2⟩
   all_goals
    dsimp only at h ⊢
    obtain⟨v,e,h⟩:=upon_inv h
    rw[e,upon_some]
    exact vcV_mono hk h
def KE (K:List V→Env→Prop):List V→Env→Prop:=fun l e=>∃e',Eqv e e'∧K l e'
theorem vcV_eqv {K:List V→Env→Prop}{st:St}:∀{l:List Ins}{e e':Env}{acc:List V},Eqv e e'→vcV P l e' st acc K→vcV P l e st acc (KE K)
 |[],e,e',acc,h,hv=>⟨e',h,hv⟩
 |⟨d,op,g⟩::r,e,e',acc,h,hv=>by
  simp only[vcV]at hv ⊢
  have hu:=upon_inv hv
  clear hv
  obtain⟨t,hg,hv⟩:=hu
  rw[h.want,hg,upon_some]
  cases t with
  |false=>rw[fork_false]at hv ⊢;exact vcV_eqv h.set hv
  |true =>
   rw[fork_true]at hv ⊢
   cases op
   case call f args =>
    dsimp only at hv ⊢
    rw[h.get,h.gets]
    obtain⟨d,h1,h2⟩:=hv;exact⟨d,h1,vcV_eqv h.set h2⟩
   all_goals
    dsimp only at hv ⊢
    rw[evq_congr fun s _=>h s]
    obtain⟨z,e1,hv⟩:=upon_inv hv
    rw[e1,upon_some]
    exact vcV_eqv h.set hv
theorem vcQ_eqv {K:Env→Prop}{st:St}:∀{l:List Ins}{e e':Env},Eqv e e'→vcQ P l e' st K→vcQ P l e st (fun e=>∃e',Eqv e e'∧K e')
 |[],e,e',h,hv=>⟨e',h,hv⟩
 |⟨d,op,g⟩::r,e,e',h,hv=>by
  simp only[vcQ]at hv ⊢
  have hu:=upon_inv hv
  clear hv
  obtain⟨t,hg,hv⟩:=hu
  rw[h.want,hg,upon_some]
  cases t with
  |false=>rw[fork_false]at hv ⊢;exact vcQ_eqv h.set hv
  |true =>
   rw[fork_true]at hv ⊢
   cases op
   case call f args =>
    dsimp only at hv ⊢
    rw[h.get,h.gets]
    obtain⟨d,h1,h2⟩:=hv;exact⟨d,h1,vcQ_eqv h.set h2⟩
   all_goals
    dsimp only at hv ⊢
    rw[evq_congr fun s _=>h s]
    obtain⟨z,e1,hv⟩:=upon_inv hv
    rw[e1,upon_some]
    exact vcQ_eqv h.set hv
theorem evQ_sound (hE:ESound P E){Q:Post}{k:List V→Env→Rc}{st:St}:∀{l:List Ins}{env:Env}{acc:List V},Has Q (evQ E k l env st acc) →
  vcV P l env st acc (KE fun vals env'=>Has Q (k vals env'))∧vcQ P l env st (fun env'=>∃vals,KE (fun vals env'=>Has Q (k vals env')) vals env')
 |[],env,acc,h=>⟨⟨env,.refl,h⟩,_,env,.refl,h⟩
 |⟨d,op,none⟩::r,env,acc,h=>by
  unfold evQ at h
  simp only[vcV,vcQ,wantV]
  rw[upon_some,upon_some,fork_true,fork_true]
  obtain⟨v,k1,k2,k3⟩:=insQ_inv hE h
  have ih:=evQ_sound hE k1
  cases op
  case call f args=>exact⟨⟨v,k2 _ _ rfl,ih.1⟩,v,k2 _ _ rfl,ih.2⟩
  all_goals
   dsimp only
   rw[k3 (by intro f args e;cases e),upon_some,upon_some]
   exact ih
 |⟨d,op,some (j,b)⟩::r,env,acc,h=>by
  unfold evQ at h
  obtain⟨e',he,h⟩:=gd_inv h rfl
  have idem:∀{K:List V→Env→Prop}{l e},KE (KE K) l e→KE K l e:=fun⟨e1,h1,e2,h2,h3⟩=>⟨e2,fun s=>(h1 s).trans (h2 s),h3⟩
  simp only[vcV,vcQ]
  rcases h with⟨hw,h⟩|⟨hw,h⟩
  ·rw[hw,upon_some,upon_some,fork_true,fork_true]
   obtain⟨v,k1,k2,k3⟩:=insQ_inv hE h
   have ih:=evQ_sound hE k1
   have g1:=vcV_mono (fun _ _ h=>idem h) (vcV_eqv (he.set (d:=d) (v:=v)) ih.1)
   have g2:=vcQ_mono (K':=fun env'=>∃vals,KE (fun vals env'=>Has Q (k vals env')) vals env') (fun _ ⟨e,h1,v,h⟩=>⟨v,idem ⟨e,h1,h⟩⟩) (vcQ_eqv (he.set (d:=d) (v:=v)) ih.2)
   cases op
   case call f args =>
    have:=k2 _ _ rfl
    rw[←he.get,←he.gets]at this
    exact⟨⟨v,this,g1⟩,v,this,g2⟩
   all_goals
    dsimp only
    rw[evq_congr fun s _=>he s,k3 (by intro f args e;cases e),upon_some,upon_some]
    exact⟨g1,g2⟩
  ·rw[hw,upon_some,upon_some,fork_false,fork_false]
   have ih:=evQ_sound hE h
   exact⟨vcV_mono (fun _ _ h=>idem h) (vcV_eqv he.set ih.1),vcQ_mono (fun _ ⟨e,h1,v,h⟩=>⟨v,idem ⟨e,h1,h⟩⟩) (vcQ_eqv he.set ih.2)⟩
theorem evQ1_sound (hE:ESound P E){Q:Post}{i:Ins}{env:Env}{st:St}{k:Env→Rc}(h:Has Q (evQ1 E i env st k)):vcQ P [i] env st (fun e=>Has Q (k e)):=by
 obtain⟨d,op,g⟩:=i
 unfold evQ1 at h
 simp only[vcQ]
 obtain⟨t,hg,h1,h2⟩:=guardR_inv h
 rw[hg,upon_some]
 cases t with
 |false=>rw[fork_false];exact h2 rfl
 |true =>
  rw[fork_true]
  obtain⟨v,k1,k2,k3⟩:=insQ_inv hE (h1 rfl)
  cases op
  case call f args=>exact⟨v,k2 _ _ rfl,k1⟩
  all_goals
   dsimp only
   rw[k3 (by intro f args e;cases e),upon_some]
   exact k1
theorem sameE_inv {Q:Post}{d:Option Nat}{v:V}{env:Env}{k:Rc}(h:Has Q (sameE d v env k)):sameD d v env (Has Q k):=by
 cases d with
 |none=>exact h
 |some s =>
  obtain⟨x,e,t,h,hq⟩:=h
  simp only[sameE,sameO]at h
  split at h
  ·rename_i he;exact⟨he,x,e,t,h,hq⟩
  ·cases h
theorem sameD_mono {d:Option Nat}{v:V}{env:Env}{K K':Prop}(hk:K→K')(h:sameD d v env K):sameD d v env K':=by
 cases d with
 |none=>exact hk h
 |some s=>exact⟨h.1,hk h.2⟩
theorem reE_sound (hE:ESound P E){Q:Post}{k:Rc}{K:Prop}(hk:Has Q k→K){st:St}:∀{l:List Ran},Has Q (reE E st k l)→reQ P st K l
 |[],h=>hk h
 |x::r,h=>by
  unfold reE at h
  refine vcQ_mono (fun e h=>?_) (evQ1_sound hE h)
  exact sameD_mono (reE_sound hE hk) (sameE_inv h)
theorem lateE_sound (hE:ESound P E){Q:Post}{k:Rc}{K:Prop}(hk:Has Q k→K){i:Ins}{env:Env}{v:V}:∀{l:List St},Has Q (lateE E i env v k l)→lateQ P i env v K l
 |[],h=>hk h
 |x::r,h=>by
  unfold lateE at h
  refine vcQ_mono (fun e h=>?_) (evQ1_sound hE h)
  exact sameD_mono (lateE_sound hE hk) (sameE_inv h)
theorem evG_sound (hE:ESound P E){U D:List Nat}{Q:Post}:∀{l:List Ins}{fs:List (List Bool)}{env:Env}{st:St}{h:List Ran}{hs:List St},(∀x∈l,x.op.odd=false)→Has Q (evG E U D l fs env st h hs)→vcG P U D (Q .normal) l fs env st h hs
 |[],fs,env,st,h,hs,_,⟨x,e,s,he,hq⟩=>by
  simp only[evG]at he
  cases he;exact hq
 |i::r,fs,env,st,h,hs,ho,hh=>by
  have ho':∀x∈r,x.op.odd=false:=fun x hx=>ho x (List.mem_cons_of_mem _ hx)
  unfold evG at hh
  unfold vcG
  split
  ·rename_i hi
   rw[if_pos hi]at hh
   exact vcQ_mono (fun e h=>lateE_sound hE (fun h=>evG_sound hE ho' h) h) (evQ1_sound hE hh)
  ·rename_i hi
   rw[if_neg hi]at hh
   obtain⟨v,st',h1,h2⟩:=evOne_step hE (ho i List.mem_cons_self) hh
   exact⟨v,st',h1,reE_sound hE (fun h=>evG_sound hE ho' h) h2⟩
theorem look_keepL {α:Type}{n id:Nat}{x:α}:∀{l:List (Nat×α)},look (keepL n l) id=some x→id<n∧look l id=some x
 |[],h=>by simp[keepL,look]at h
 |(k,y)::r,h=>by
  simp only[keepL]at h
  split at h
  ·rename_i hk
   simp only[look]at h ⊢
   split at h
   ·rename_i e;subst e;rw[if_pos rfl];exact⟨hk,h⟩
   ·rename_i e;rw[if_neg e];exact look_keepL h
  ·rename_i hk
   obtain⟨h1,h2⟩:=look_keepL h
   refine⟨h1,?_⟩
   simp only[look]
   rw[if_neg (fun e=>hk (by omega))];exact h2
theorem look_belowL {α:Type}{n id:Nat}{bd:α→Bool}{x:α}:∀{l:List (Nat×α)},belowL n bd l=true→id<n→look l id=some x→bd x=true
 |[],_,_,h=>by simp[look]at h
 |(k,y)::r,hb,hn,h=>by
  simp only[belowL,Bool.and_eq_true]at hb
  simp only[look]at h
  split at h
  ·rename_i e;subst e;cases h
   have:=hb.1;rwa [if_pos hn]at this
  ·exact look_belowL hb.2 hn h
theorem cutS_weak {n:Nat}{st:St}(h:cutB n st=true):Weak n st (cutS n st):=by
 simp only[cutB,Bool.and_eq_true,decide_eq_true_eq]at h
 obtain⟨⟨⟨h1,h2⟩,h3⟩,h4⟩:=h
 refine⟨rfl,h1,fun id x hx=>look_keepL hx,fun id x hx=>look_keepL hx,fun id x hx=>?_,fun id x hx=>?_,⟨fun id x hx=>look_keepL hx,rfl,fun id x hx=>look_keepL hx⟩,fun id x hx=>?_⟩
 ·obtain⟨k1,k2⟩:=look_keepL hx;exact look_belowL h2 k1 k2
 ·obtain⟨k1,k2⟩:=look_keepL hx;exact look_belowL (bd:=fun a=>V.bdL n a.xs) h3 k1 k2
 ·obtain⟨k1,k2⟩:=look_keepL hx;exact look_belowL h4 k1 k2
theorem look_envB {n:Nat}:∀{env:Env},envB n env=true→∀i v,look env i=some v→v.bd n=true
 |[],_,i,v,h=>by simp[look]at h
 |(k,x)::r,hb,i,v,h=>by
  simp only[envB,List.all_cons,Bool.and_eq_true]at hb
  simp only[look]at h
  split at h
  ·cases h;exact hb.1
  ·exact look_envB (env:=r) hb.2 i v h
theorem headS_sound {n:Nat}{env:Env}{st:St}{a:Act}(hs:Sim w A st)(he:EnvSim w A a env) :
  ∃A',Sim w A' (headS n env st)∧EnvSim w A' a env∧(∀{w0 A0},Ext w0 A0 w A→(∀b id,A0.own b=some id→id<A0.nx)→A0.nx≤n→Ext w0 A0 w A')∧∀v d,Rep w A v d→d.bd n=true→Rep w A' v d:=by
 unfold headS
 split
 ·exact⟨A,hs,he,fun h _ _=>h,fun _ _ h _=>h⟩
 ·split
  ·rename_i hb
   rw[Bool.and_eq_true]at hb
   refine⟨A.cut n,hs.cut (cutS_weak hb.2),he.cut (fun i v h=>⟨look_envB hb.1 i v h,h⟩),fun h h0 hn=>h.cut h0 hn,fun v d h hd=>h.cut hd⟩
  ·exact⟨A,hs,he,fun h _ _=>h,fun _ _ h _=>h⟩
theorem look_restr {lv:List Nat}{env:Env}{i:Nat}{v:V}(h:look (restr lv env) i=some v):v=.und∨look env i=some v:=by
 induction lv with
 |nil=>simp[restr,look]at h
 |cons k r ih =>
  simp only[restr,List.map_cons,look]at h
  split at h
  ·rename_i e;subst e
   cases hk:look env k with
   |none=>rw[hk]at h;cases h;exact .inl rfl
   |some u=>rw[hk]at h;exact .inr h
  ·exact ih h
theorem EnvSim.restr {a:Act}{env:Env}{lv:List Nat}(he:EnvSim w A a env):EnvSim w A a (Sha.restr lv env):=fun i v h=>by
 rcases look_restr h with rfl|h
 ·exact .und _
 ·exact he i v h
theorem evL_sound {x:Code}{f:Env→St→Rc}(hf:∀env st Q,Has Q (f env st)→W P N x env st Q){lv:List Nat}{nx:Nat}{Q:Post}{w0:World}{A0:Abs}(h0:∀b id,A0.own b=some id→id<A0.nx)(hn:A0.nx≤nx) :
  ∀(n:Nat) {env:Env}{st:St},Has Q (evL f lv nx n env st)→∀(w:World) (A:Abs) (a:Act),Sim w A st→EnvSim w A a env→a.tmps.size=N.n→a.defers=N.D→Ext w0 A0 w A→Code.rounds P x (lift N w0 A0 Q) n a w
 |0,env,st,⟨_,_,_,h,_⟩=>by cases h
 |n+1,env,st,h=>by
  intro w A a hs he hN hd hx
  rw[rounds_succ]
  obtain⟨x1,e1,s1,h,hq⟩:=h
  simp only[evL]at h
  cases hr:f env st with
  |none=>rw[hr]at h;cases h
  |some z =>
   obtain⟨x2,e2,s2⟩:=z
   rw[hr]at h
   have hW:=hf env st (fun x' e' s'=>x'=x2∧e'=e2∧s'=s2) ⟨_,_,_,hr,rfl,rfl,rfl⟩ w A a hs he hN hd
   have pass:(x2=.ret∨∃id,x2=.exit id)→Q x2 e2 (headS nx e2 s2):=fun hne=>by
    rcases hne with rfl|⟨id,rfl⟩<;>(simp only[cutR,seqR]at h;cases h;exact hq)
   have passp:∀v,x2=.pan v→Q x2 e2 s2:=fun v hne=>by
    subst hne;simp only[cutR,seqR]at h;cases h;exact hq
   refine Code.wp_mono (fun ex a' w' hg=>?_) hW
   cases ex with
   |normal =>
    obtain⟨A',env',st',⟨e1',e2',e3'⟩,q2,q3,q4,q5,q6⟩:=hg
    subst e1';subst e2';subst e3'
    obtain⟨A2,k1,k2,k3,_⟩:=headS_sound (n:=nx) q2 (q3.restr (lv:=lv))
    exact evL_sound hf h0 hn n ⟨_,_,_,h,hq⟩ _ _ _ k1 k2 q4 q5 (k3 (hx.trans q6) h0 hn)
   |exit id =>
    obtain⟨A',env',st',⟨e1',e2',e3'⟩,q2,q3,q4,q5,q6⟩:=hg
    subst e1';subst e2';subst e3'
    obtain⟨A2,k1,k2,k3,_⟩:=headS_sound (n:=nx) q2 q3
    exact⟨A2,env',_,pass (.inr ⟨_,rfl⟩),k1,k2,q4,q5,k3 (hx.trans q6) h0 hn⟩
   |ret =>
    obtain⟨A',env',st',⟨e1',e2',e3'⟩,q2,q3,q4,q5,q6⟩:=hg
    subst e1';subst e2';subst e3'
    obtain⟨A2,k1,k2,k3,_⟩:=headS_sound (n:=nx) q2 q3
    exact⟨A2,env',_,pass (.inl rfl),k1,k2,q4,q5,k3 (hx.trans q6) h0 hn⟩
   |panic ch =>
    obtain⟨A',env',st',v,d,g1,g2,⟨e1',e2',e3'⟩,q2,q3,q4,q5,q6⟩:=hg
    subst e1';subst e2';subst e3'
    exact⟨A',env',st',v,d,g1,g2,passp _ rfl,q2,q3,q4,q5,hx.trans q6⟩
   |goto l=>exact hg.elim
   |outgrown=>exact hg.elim
theorem evL_W {x:Code}{f:Env→St→Rc}(hf:∀env st Q,Has Q (f env st)→W P N x env st Q){lv:List Nat}{nx n:Nat}{Q:Post}{env:Env}{st:St}(hn:st.nx≤nx)(h:Has Q (evL f lv nx n env st)):W P N (.loop x) env st Q:=by
 intro w A a hs he hN hd
 exact wp_loop_rounds n (evL_sound hf (fun b id h=>(hs.ownlt b id h).2) (by rw[←hs.nx];exact hn) n h w A a hs he hN hd (Ext.refl w A))
theorem W_restr {c:Code}{env:Env}{lv:List Nat}{st:St}{Q:Post}(h:W P N c (restr lv env) st Q):W P N c env st Q :=
 fun w A a hs he hN hd=>h w A a hs he.restr hN hd
theorem ownR_W {c:Code}{Q:Post}{k:Env→St→Rc}(hk:∀env st,Has Q (k env st)→W P N c env st Q):∀{l:List (Nat×Nat×Nat)}{env:Env}{st:St},Has Q (ownR k l env st)→W P N c env st Q
 |[],env,st,h=>hk _ _ h
 |(t,e,es)::r,env,st,h=>by
  unfold ownR at h
  split at h
  ·rename_i hl
   split at h
   ·exact W_ownW e (es-4096) hl (ownR_W hk h)
   ·exact W_own e es hl (ownR_W hk h)
  ·exact ownR_W hk h
theorem frzR_W {c:Code}{Q:Post}{k:Env→St→Rc}(hk:∀env st,Has Q (k env st)→W P N c env st Q):∀{l:List Nat}{env:Env}{st:St},Has Q (frzR k l env st)→W P N c env st Q
 |[],env,st,h=>hk _ _ h
 |t::r,env,st,h=>by
  unfold frzR at h
  split at h
  ·rename_i hl
   split at h
   ·rename_i hm;exact W_frzM hl hm (frzR_W hk h)
   ·exact frzR_W hk h
  ·exact frzR_W hk h
theorem evC_sound (hm:P.follows .mixedOrders=true)(hE:ESound P E):∀(n:Nat) {cd:Cd}{c:Code}{env:Env}{st:St}{Q:Post},compC P N.n c=some cd.bare→Has Q (evC E n cd env st)→W P N c env st Q
 |0,cd,c,env,st,Q,_,⟨_,_,_,h,_⟩=>by cases h
 |n+1,cd,c,env,st,Q,hc,h=>by
  cases cd with
  |skip =>
   obtain⟨x,e,s,h,hq⟩:=h
   simp only[evC]at h
   cases h
   cases c<;>simp only[compC,gregO,gregC,Cd.bare]at hc<;>(repeat' split at hc)<;>first
    |(cases hc;done)
    |(obtain⟨y,hy,e⟩:=Option.map_eq_some_iff.1 hc;cases e;done)
    |exact W_skip hq
  |exit lv id =>
   obtain⟨x,e,s,h,hq⟩:=h
   simp only[evC]at h
   cases h
   refine W_restr (lv:=lv) ?_
   cases c<;>simp only[compC,gregO,gregC,Cd.bare]at hc<;>(repeat' split at hc)<;>first
    |(cases hc;done)
    |(obtain⟨y,hy,e⟩:=Option.map_eq_some_iff.1 hc;cases e;done)
    |(cases hc;exact W_exit hq)
  |ret lv =>
   obtain⟨x,e,s,h,hq⟩:=h
   simp only[evC]at h
   cases h
   refine W_restr (lv:=lv) ?_
   cases c<;>simp only[compC,gregO,gregC,Cd.bare]at hc<;>(repeat' split at hc)<;>first
    |(cases hc;done)
    |(obtain⟨y,hy,e⟩:=Option.map_eq_some_iff.1 hc;cases e;done)
    |exact W_ret hq
  |bad=>obtain⟨x,e,s,h,hq⟩:=h;simp only[evC]at h;cases h
  |reg l =>
   simp only[evC]at h
   cases c<;>simp only[compC,gregO,gregC,Cd.bare]at hc<;>(repeat' split at hc)<;>first
    |(cases hc;done)
    |(obtain⟨y,hy,e⟩:=Option.map_eq_some_iff.1 hc;cases e;done)
    |skip
   cases hc
   rename_i _ d _ hd hl hg
   cases d with
   |true=>exact absurd rfl hd
   |false=>exact W_eqv (W_region hl hg (evOps_sound hE h))
  |dreg m l =>
   simp only[evC]at h
   cases c<;>simp only[compC,gregO,gregC,Cd.bare]at hc<;>(repeat' split at hc)<;>first
    |(cases hc;done)
    |(obtain⟨y,hy,e⟩:=Option.map_eq_some_iff.1 hc;cases e;done)
    |skip
   cases hc
   rename_i hd hl hg _ hr
   subst hd
   exact W_eqv (W_dreg hm hl hg hr (vcQ_mono (fun e ⟨_,e',h1,h⟩=>vcOps_mono (fun _ _ _ h=>wkE_idem h) (vcOps_eqv h1 (evOps_sound hE h))) (evQ_sound hE h).2))
  |greg U D fs l =>
   simp only[evC]at h
   cases c<;>simp only[compC,gregO,gregC,Cd.bare]at hc<;>(repeat' split at hc)<;>first
    |(cases hc;done)
    |(obtain⟨y,hy,e⟩:=Option.map_eq_some_iff.1 hc;cases e;done)
    |skip
   ·cases hc
    rename_i hd hl hg hr
    subst hd
    exact W_greg hm hl hg hr.2 (evG_sound hE (regOkG_spec hr.2).odd h)
   all_goals
    cases hc
    rename_i hd hl hg _ _ _ hr
    subst hd
    exact W_greg hm hl hg hr (evG_sound hE (regOkG_spec hr).odd h)
  |seq a b =>
   simp only[evC]at h
   cases c<;>simp only[compC,gregO,gregC,Cd.bare]at hc<;>(repeat' split at hc)<;>first
    |(cases hc;done)
    |(obtain⟨y,hy,e⟩:=Option.map_eq_some_iff.1 hc;cases e;done)
    |skip
   cases hc
   rename_i ha hb
   refine W_seq ?_
   obtain⟨x,e,s,h,hq⟩:=h
   cases hz:evC E n a env st with
   |none=>rw[hz]at h;cases h
   |some z =>
    obtain⟨x2,e2,s2⟩:=z
    rw[hz]at h
    refine evC_sound hm hE n ha ⟨x2,e2,s2,hz,?_⟩
    cases x2 with
    |normal=>exact evC_sound hm hE n hb ⟨x,e,s,h,hq⟩
    |_=>simp only[seqR]at h;cases h;exact hq
  |join lv a b =>
   simp only[evC]at h
   cases c<;>simp only[compC,gregO,gregC,Cd.bare]at hc<;>(repeat' split at hc)<;>first
    |(cases hc;done)
    |(obtain⟨y,hy,e⟩:=Option.map_eq_some_iff.1 hc;cases e;done)
    |skip
   cases hc
   rename_i ha hb
   refine W_seq ?_
   obtain⟨x,e,s,h,hq⟩:=h
   cases hz:evC E n a env st with
   |none=>rw[hz]at h;cases h
   |some z =>
    obtain⟨x2,e2,s2⟩:=z
    rw[hz]at h
    refine evC_sound hm hE n ha ⟨x2,e2,s2,hz,?_⟩
    cases x2 with
    |normal=>exact W_restr (evC_sound hm hE n hb ⟨x,e,s,h,hq⟩)
    |_=>simp only[restR,seqR]at h;cases h;exact hq
  |cond o a b =>
   simp only[evC]at h
   cases c<;>simp only[compC,gregO,gregC,Cd.bare]at hc<;>(repeat' split at hc)<;>first
    |(cases hc;done)
    |(obtain⟨y,hy,e⟩:=Option.map_eq_some_iff.1 hc;cases e;done)
    |skip
   cases hc
   rename_i ho ha hb
   obtain⟨x,e,s,h,hq⟩:=h
   cases hv:o.get env<;>rw[hv]at h<;>simp only[condR]at h<;>try (cases h;done)
   rename_i t
   refine W_cond ho hv (fun ht=>?_) (fun ht=>?_)
   ·rw[if_pos ht]at h;exact evC_sound hm hE n ha ⟨x,e,s,h,hq⟩
   ·rw[if_neg (by rw[ht];simp)]at h;exact evC_sound hm hE n hb ⟨x,e,s,h,hq⟩
  |block id a =>
   simp only[evC]at h
   cases c<;>simp only[compC,gregO,gregC,Cd.bare]at hc<;>(repeat' split at hc)<;>first
    |(cases hc;done)
    |(obtain⟨y,hy,e⟩:=Option.map_eq_some_iff.1 hc;cases e;done)
    |skip
   obtain⟨y,hy,e⟩:=Option.map_eq_some_iff.1 hc
   cases e
   refine W_block ?_
   obtain⟨x,e,s,h,hq⟩:=h
   cases hz:evC E n a env st with
   |none=>rw[hz]at h;cases h
   |some z =>
    obtain⟨x2,e2,s2⟩:=z
    rw[hz]at h
    refine evC_sound hm hE n hy ⟨x2,e2,s2,hz,?_⟩
    cases x2 with
    |exit id' =>
     simp only[blockR]at h
     simp only[blockPost]
     split at h
     ·rename_i e;rw[if_pos e];cases h;exact hq
     ·rename_i e;rw[if_neg e];cases h;exact hq
    |_=>simp only[blockR]at h;cases h;exact hq
  |loop lv ow a =>
   simp only[evC]at h
   cases c<;>simp only[compC,gregO,gregC,Cd.bare]at hc<;>(repeat' split at hc)<;>first
    |(cases hc;done)
    |(obtain⟨y,hy,e⟩:=Option.map_eq_some_iff.1 hc;cases e;done)
    |skip
   obtain⟨y,hy,e⟩:=Option.map_eq_some_iff.1 hc
   cases e
   exact ownR_W (fun env st h=>W_restr (evL_W (fun e s Q h=>evC_sound hm hE n hy h) (Nat.le_refl _) h)) h
  |frz l a =>
   simp only[evC]at h
   exact frzR_W (fun env st h=>evC_sound hm hE n (cd:=a) hc h) h
theorem raw_sound (hm:P.follows .mixedOrders=true)(hE:ESound P E){f:FuncId}{F:Fx}(hF:compF P f=some F){args:List V}(ha:args.length≤F.N){st:St}{n:Nat}{r:VRes}{s:St}
  (h:rawE F.res (evC E n F.c (argEnv 0 args) st)=some (r,s)):VCalls P f args st (fun r' s'=>r'=r∧s'=s):=by
 unfold compF at hF
 split at hF
 ·rename_i fn hf
  split at hF
  ·rename_i c hb
   split at hF
   ·rename_i res T hres hT
    split at hF
    ·rename_i hname
     generalize hcd:Cd.fz _ (T.ann [] (res.map (·.slot)) (res.map (·.slot)))=cd at hF
     have hcb:cd.bare=T:=by rw[←hcd,Cd.fz_bare,Cd.ann_bare,compC_bare hT]
     cases hF
     cases hz:evC E n cd (argEnv 0 args) st with
     |none=>rw[hz]at h;cases h
     |some z =>
      obtain⟨x,e,s1⟩:=z
      rw[hz]at h
      have hW:W P ⟨fn.ntmps,[]⟩ c (argEnv 0 args) st (fun x' e' s'=>x'=x∧e'=e∧s'=s1) :=
       evC_sound hm hE n (by rw[hcb];exact hT) ⟨x,e,s1,hz,rfl,rfl,rfl⟩
      refine .inl ⟨⟨fn,hf,hname,by simp[hb]⟩,fun w A vs hs hr=>?_⟩
      have hvl:vs.length≤fn.ntmps:=by rw[hr.1];exact ha
      have hend:∀{w':World}{A':Abs}{a':Act},x=.normal∨x=.ret→Sim w' A' s1→EnvSim w' A' a' e→a'.defers=[]→Ext w A w' A' →
        a'.defers=[]∧∃v,(results fn a'.tmps).run P w'=.ok v w'∧∃r' A' st',(r'=r∧st'=s)∧EndRel w' A' (.returned v) r'∧Sim w' A' st'∧Ext w A w' A':=fun {w' A' a'} hx hs' he' hd' hx'=>by
       have hds:∃ds,resV e s1 res=some ds∧r=.ret (resOne ds)∧s=s1:=by
        rcases hx with rfl|rfl<;>(simp only[rawE]at h;cases hd:resV e s1 res<;>rw[hd]at h<;>simp only[rawO]at h<;>cases h;exact⟨_,rfl,rfl,rfl⟩)
       obtain⟨ds,h1,rfl,rfl⟩:=hds
       obtain⟨v,hrun,hv⟩:=run_results (fn:=fn) hs' he' hres h1
       exact⟨hd',v,hrun,_,A',_,⟨rfl,rfl⟩,hv,hs',hx'⟩
      refine calls_of_wp hf hb (Code.wp_mono (fun ex a' w' hq=>?_) (hW w A { tmps:=vs.toArray++Array.replicate (fn.ntmps-vs.toArray.size) undef,defers:=[] } hs ?_ (by simp;omega) rfl))
      ·cases ex with
       |normal =>
        obtain⟨A',env',st1,⟨rfl,rfl,rfl⟩,q2,q3,_,q5,q6⟩:=hq
        exact hend (.inl rfl) q2 q3 q5 q6
       |ret =>
        obtain⟨A',env',st1,⟨rfl,rfl,rfl⟩,q2,q3,_,q5,q6⟩:=hq
        exact hend (.inr rfl) q2 q3 q5 q6
       |panic ch =>
        obtain⟨A',env',st1,v,d,e1,e2,⟨rfl,rfl,rfl⟩,q2,q3,_,q5,q6⟩:=hq
        simp only[rawE]at h
        cases h
        exact⟨q5,.pan d,A',_,⟨rfl,rfl⟩,⟨v,e1,e2⟩,q2,q6⟩
       |exit id =>
        obtain⟨A',env',st1,⟨rfl,rfl,rfl⟩,_⟩:=hq
        simp only[rawE]at h;cases h
       |goto l=>exact hq.elim
       |outgrown=>exact hq.elim
      ·intro i v hv
       obtain⟨_,hv⟩:=look_argEnv args 0 i v hv
       simp only[Nat.sub_zero]at hv
       have hlt:i<vs.length:=by have:=(List.getElem?_eq_some_iff.1 hv).1;have:=hr.1;omega
       have:(vs.toArray++Array.replicate (fn.ntmps-vs.toArray.size) undef).getD i undef=vs[i]:=by
        rw[Array.getD_eq_getD_getElem?,Array.getElem?_append_left (by simpa using hlt)];simp[hlt]
       rw[this]
       exact hr.2 i vs[i] v (List.getElem?_eq_getElem hlt) hv
    ·cases hF
   ·cases hF
  ·cases hF
 ·cases hF
theorem rawD_sound (hm:P.follows .mixedOrders=true)(hE:ESound P E){f:FuncId}{F:Fx}(hF:compF P f=some F){args:List V}(ha:args.length≤F.N){st:St}{r:VRes}{s:St}
  (h:rawE F.res (evD E F.c (argEnv 0 args) st)=some (r,s)):VCalls P f args st (fun r' s'=>r'=r∧s'=s):=by
 cases hz:evD E F.c (argEnv 0 args) st with
 |none=>rw[hz]at h;cases h
 |some z =>
  obtain⟨n,hn⟩:=lub_some hz
  rw[hz]at h
  exact raw_sound hm hE hF ha (n:=n) (by rw[hn];exact h)
theorem VCalls_open {f:FuncId}{args:List V}{r:VRes}{s:St}(h:VCalls P f args st (fun r' s'=>r'=r∧s'=s)){r':VRes}{s':St}(hr:openR st.nx (some (r,s))=some (r',s')) :
  VCalls P f args st (fun x y=>x=r'∧y=s'):=by
 have key:∀{w:World}{A:Abs}{w':World}{A':Abs}{u:Value}{d d':V}{s2:St},Sim w A st→Rep w' A' u d→Sim w' A' s→Ext w A w' A'→(d'=d∨snapV s d=some d')→s2=headS st.nx [(0,d')] s→∃A3,Rep w' A3 u d'∧Sim w' A3 s2∧Ext w A w' A3:=fun {w A w' A' u d d' s2} hs hu hs' hx hd e=>by
  subst e
  have hu':Rep w' A' u d':=hd.elim (fun e=>e▸hu) (fun e=>snapV_rep hs' hu e)
  have he:EnvSim w' A' { tmps:=#[u],defers:=[] } [(0,d')]:=fun i v hv=>by
   simp only[look]at hv
   split at hv
   ·rename_i e;subst e;cases hv;exact hu'
   ·cases hv
  obtain⟨A3,k1,k2,k3,_⟩:=headS_sound (n:=st.nx) hs' he
  exact⟨A3,k2 0 d' rfl,k1,k3 hx (fun b id h=>(hs.ownlt b id h).2) (by rw[hs.nx];exact Nat.le_refl _)⟩
 have hsn:∀d,(snapV s d).getD d=d∨snapV s d=some ((snapV s d).getD d):=fun d=>by
  cases snapV s d with
  |none=>exact .inl rfl
  |some x=>exact .inr rfl
 rcases h with h|h
 ·refine .inl ⟨h.1,fun w A vs hs ha=>(h.2 w A vs hs ha).mono fun e w' ⟨r0,A',s0,⟨e1,e2⟩,hend,hs',hx⟩=>?_⟩
  subst e1;subst e2
  cases r0 with
  |ret d =>
   simp only[openR]at hr
   cases hr
   cases e with
   |returned u =>
    obtain⟨A3,g1,g2,g3⟩:=key hs hend hs' hx (hsn d) rfl
    exact⟨_,A3,_,⟨rfl,rfl⟩,g1,g2,g3⟩
   |panicked ch=>exact hend.elim
   |outgrown=>exact hend.elim
  |pan d =>
   simp only[openR]at hr
   cases hr
   cases e with
   |returned u=>exact hend.elim
   |panicked ch =>
    obtain⟨u,c1,c2⟩:=hend
    obtain⟨A3,g1,g2,g3⟩:=key hs c2 hs' hx (.inl rfl) rfl
    exact⟨_,A3,_,⟨rfl,rfl⟩,⟨u,c1,g1⟩,g2,g3⟩
   |outgrown=>exact hend.elim
 ·refine .inr fun w A vs hs ha=>?_
  obtain⟨v,w',hrun,r0,A',s0,⟨e1,e2⟩,hend,hs',hx⟩:=h w A vs hs ha
  subst e1;subst e2
  cases r0 with
  |ret d =>
   simp only[openR]at hr
   cases hr
   obtain⟨A3,g1,g2,g3⟩:=key hs hend hs' hx (hsn d) rfl
   exact⟨v,w',hrun,_,A3,_,⟨rfl,rfl⟩,g1,g2,g3⟩
  |pan d=>exact hend.elim
theorem evF_sound (hm:P.follows .mixedOrders=true){H:EvF}(hH:ESound P H):∀n,ESound P (evF P H n)
 |0,f,args,st,r,s,h=>by cases h
 |n+1,f,args,st,r,s,h=>by
  simp only[evF]at h
  cases hh:H f args st with
  |some z=>rw[hh]at h;cases h;exact hH _ _ _ _ _ hh
  |none =>
   rw[hh]at h
   dsimp only at h
   cases hF:compF P f with
   |none=>rw[hF]at h;cases h
   |some F =>
    rw[hF]at h
    simp only[endF]at h
    split at h
    ·rename_i hl
     split at h
     ·rename_i hb
      cases hz:rawE F.res (evD (evF P H n) F.c (argEnv 0 args) (stG st.x.gl)) with
      |none=>rw[hz]at h;cases h
      |some z =>
       obtain⟨r1,s1⟩:=z
       rw[hz]at h
       exact VCalls_shut hb (rawD_sound hm (evF_sound hm hH n) hF hl hz) h
     ·cases hz:rawE F.res (evD (evF P H n) F.c (argEnv 0 args) st) with
      |none=>rw[hz]at h;cases h
      |some z =>
       obtain⟨r1,s1⟩:=z
       rw[hz]at h
       exact VCalls_open (rawD_sound hm (evF_sound hm hH n) hF hl hz) h
    ·cases h
theorem run_sound (hm:P.follows .mixedOrders=true){H:EvF}(hH:ESound P H):ESound P (run P H):=fun f args st r s h=>by
 obtain⟨n,hn⟩:=lub_some h
 exact evF_sound hm hH n f args st r s hn
end
end Go.Sha
